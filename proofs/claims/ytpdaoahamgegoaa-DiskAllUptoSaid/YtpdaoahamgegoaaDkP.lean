/- A disk, the document's own, and the shelf of answers. -/
import Derived.Test.YtpdaoahamgegoaaTDs
import Derived.Test.YtpdaoahamgegoaaDkV
namespace Go.Proofs.Ytpdaoahamgegoaa
open Go Go.Fw Go.RowKit
set_option linter.unusedVariables false
set_option linter.unusedSimpArgs false
set_option maxRecDepth 4000
set_option maxHeartbeats 2000000

instance : Sc Try.prog 9 := ⟨by kernel_rfl⟩
instance : Sc Try.prog 29 := ⟨by kernel_rfl⟩
instance : Sc Try.prog 44 := ⟨by kernel_rfl⟩
instance : Sc Try.prog 61 := ⟨by kernel_rfl⟩
instance : Sc Try.prog 62 := ⟨by kernel_rfl⟩
instance : Sc Try.prog 63 := ⟨by kernel_rfl⟩
instance : Et Try.prog 62 9 1 16 := ⟨ET.of (by kernel_rfl), by decide⟩
instance : Et Try.prog 63 44 1 24 := ⟨ET.of (by kernel_rfl), by decide⟩
theorem bs62 (w : World) (x : ByteArray) : (Instr.buildSlice 62 1 #[(0, .string x)]).run Try.prog w = .ok (.slice (some ⟨w.heap.size, 0, none⟩) 1 1) (w.alloc (.cells ⟨[.string x]⟩ 9)) := by kernel_rfl
theorem bs63 (w : World) (x : Sl) : (Instr.buildSlice 63 1 #[(0, .slice x.a x.len x.cap)]).run Try.prog w = .ok (.slice (some ⟨w.heap.size, 0, none⟩) 1 1) (w.alloc (.cells ⟨[.slice x.a x.len x.cap]⟩ 44)) := by kernel_rfl

abbrev Is := Sl × List Int
def irw (x : Is) : Ent := .row 3 1 x.1 (lin x.2)
def lsi (l : List Is) : List Value := l.map fun x => .slice x.1.a x.1.len x.1.cap
theorem lsi_len (l : List Is) : (lsi l).length = l.length := by simp [lsi]
theorem lsi_at {l : List Is} {i : Nat} (h : i < l.length) : (lsi l)[i]? = some (Value.slice l[i].1.a l[i].1.len l[i].1.cap) := by simp [lsi, h]
theorem lsi_snoc (l : List Is) (x : Is) : lsi (l ++ [x]) = lsi l ++ [.slice x.1.a x.1.len x.1.cap] := by simp [lsi]
theorem lsi_drop (l : List Is) (n : Nat) : (lsi l).drop n = lsi (l.drop n) := by simp [lsi, List.map_drop]
theorem irw_at {l : List Is} {i : Nat} (h : i < l.length) : nthO (l.map irw) i = some (.row 3 1 l[i].1 (lin l[i].2)) := nthO_map irw l h
theorem lin_drop (l : List Int) (n : Nat) : (lin l).drop n = lin (l.drop n) := by simp [lin, List.map_drop]
theorem lin_set (l : List Int) (i : Nat) (x : Int) : (lin l).set i (.int .i64 x) = lin (l.set i x) := by simp [lin, List.map_set]

structure Q where
  b : Nat
  d : D
  r : R
  sb : Sl
  bs : List Bs
  sh : Sl
  si : Sl
  is : List Is
  sm : Sl
  ms : List Int
  mark : Nat
  sl : Sl
  ls : List Bs
  sw : Sl
  sn : Sl
  ns : List Is
  so : Sl
  os : List Is
  size : Nat
  lent : Sl
  lb : List UInt8
  n : Nat
def qcel (p : Q) : List Value := [.pointer p.d.p, .pointer p.r.p, .slice p.sb.a p.sb.len p.sb.cap, .slice p.sh.a p.sh.len p.sh.cap, .slice p.si.a p.si.len p.si.cap, .slice p.sm.a p.sm.len p.sm.cap, .int .i64 (p.mark : Int), .slice p.sl.a p.sl.len p.sl.cap, .slice p.sw.a p.sw.len p.sw.cap, .slice p.sn.a p.sn.len p.sn.cap, .slice p.so.a p.so.len p.so.cap, .int .i64 (p.size : Int), .slice p.lent.a p.lent.len p.lent.cap, .int .i64 (p.n : Int)]
@[reducible] def Q.c (p : Q) : Ent := .cel p.b 67 (qcel p)
@[reducible] def gs' (p : Q) (c : Ent) (F : Grps) : Grps :=
  [c] :: dg p.d :: rg p.r :: [.row 30 1 p.sb (lsl p.bs)] :: p.bs.map (brw 5) :: [.row 9 1 p.sh (lst p.bs)] :: [.row 44 1 p.si (lsi p.is)] :: p.is.map irw :: [.row 3 1 p.sm (lin p.ms)] ::
  [.row 30 1 p.sl (lsl p.ls)] :: p.ls.map (brw 5) :: [.row 9 1 p.sw (lst p.ls)] :: [.row 44 1 p.sn (lsi p.ns)] :: p.ns.map irw :: [.row 44 1 p.so (lsi p.os)] :: p.os.map irw :: [.row 5 1 p.lent (bys p.lb)] :: F
@[reducible] def gs (p : Q) (F : Grps) : Grps := gs' p p.c F
structure QOk (N : Nat) (p : Q) : Prop where
  b4 : p.bs.length ≤ 4
  bl : ∀ x ∈ p.bs, x.2.length ≤ 134217728
  i4 : p.is.length ≤ 4
  il : ∀ x ∈ p.is, x.2.length ≤ 64
  ml : p.ms.length = p.is.length
  im : ∀ k (h1 : k < p.is.length) (h2 : k < p.ms.length), p.is[k].2 = List.replicate p.is[k].2.length p.ms[k]
  mark : p.mark ≤ N
  l100 : p.ls.length ≤ 100
  sz : p.size ≤ 4194304
  ll : ∀ x ∈ p.ls, x.2.length ≤ 4194304
  n100 : p.ns.length ≤ 100
  ol : p.os.map (·.2) = p.ns.map (·.2)
  nl : ∀ x ∈ p.ns, x.2.length ≤ 64
  n : p.n ≤ N
structure Kp (p p' : Q) : Prop where
  b : p'.b = p.b
  d : p'.d = p.d
  r : p'.r = p.r
  n : p'.n = p.n
  lent : p'.lent = p.lent
  lb : p'.lb = p.lb
theorem Kp.refl (p : Q) : Kp p p := ⟨rfl, rfl, rfl, rfl, rfl, rfl⟩
theorem Kp.trans {p p' p'' : Q} (h : Kp p p') (h' : Kp p' p'') : Kp p p'' := ⟨h'.b.trans h.b, h'.d.trans h.d, h'.r.trans h.r, h'.n.trans h.n, h'.lent.trans h.lent, h'.lb.trans h.lb⟩
theorem QOk.mono {N M : Nat} {p : Q} (h : QOk N p) (hm : N ≤ M) : QOk M p := { h with mark := Nat.le_trans h.mark hm, n := Nat.le_trans h.n hm }
variable {w0 w : World} {F G : Grps} {p : Q} {N : Nat}
theorem gs_F {c : Ent} (h : St w0 w (gs' p c F)) : St w0 w F :=
  ((((((((((((((((h.drop 0).drop 0).drop 0).drop 0).drop 0).drop 0).drop 0).drop 0).drop 0).drop 0).drop 0).drop 0).drop 0).drop 0).drop 0).drop 0).drop 0
theorem q_sb {c : Ent} (h : St w0 w (gs' p c F)) : p.sb.len = p.bs.length := by have := (h.rd (k := 3) (i := 0) ⟨_, rfl, rfl⟩).1; rw [lsl_len] at this; omega
theorem q_sh {c : Ent} (h : St w0 w (gs' p c F)) : p.sh.len = p.bs.length := by have := (h.rd (k := 5) (i := 0) ⟨_, rfl, rfl⟩).1; rw [lst_len] at this; omega
theorem q_si {c : Ent} (h : St w0 w (gs' p c F)) : p.si.len = p.is.length := by have := (h.rd (k := 6) (i := 0) ⟨_, rfl, rfl⟩).1; rw [lsi_len] at this; omega
theorem q_sm {c : Ent} (h : St w0 w (gs' p c F)) : p.sm.len = p.ms.length := by have := (h.rd (k := 8) (i := 0) ⟨_, rfl, rfl⟩).1; rw [lin_len] at this; omega
theorem q_sl {c : Ent} (h : St w0 w (gs' p c F)) : p.sl.len = p.ls.length := by have := (h.rd (k := 9) (i := 0) ⟨_, rfl, rfl⟩).1; rw [lsl_len] at this; omega
theorem q_sw {c : Ent} (h : St w0 w (gs' p c F)) : p.sw.len = p.ls.length := by have := (h.rd (k := 11) (i := 0) ⟨_, rfl, rfl⟩).1; rw [lst_len] at this; omega
theorem q_sn {c : Ent} (h : St w0 w (gs' p c F)) : p.sn.len = p.ns.length := by have := (h.rd (k := 12) (i := 0) ⟨_, rfl, rfl⟩).1; rw [lsi_len] at this; omega
theorem q_so {c : Ent} (h : St w0 w (gs' p c F)) : p.so.len = p.os.length := by have := (h.rd (k := 14) (i := 0) ⟨_, rfl, rfl⟩).1; rw [lsi_len] at this; omega
theorem q_lent {c : Ent} (h : St w0 w (gs' p c F)) : p.lent.len = p.lb.length := (h.rd (k := 16) (i := 0) ⟨_, rfl, rfl⟩).bys_len
theorem str_ro {w : World} {p : Sl} {l : List UInt8} (hr : Rd w p 1 (bys l)) {K : ByteArray → Prop} (h : K ⟨l.toArray⟩) : ReadN Try.prog .str (V (convert 30 9 (.slice p.a p.len p.cap))) w K := ReadN.toStr str30 hr h

theorem stands_st (h : St w0 w (gs p F)) (ok : QOk N p) : CallK Try.prog .bool 45 #[.pointer (some ⟨p.b, 2, none⟩)] w fun (r : Bool) w' => r = true ∧ St w0 w' (gs p F) := by
  have h1 := q_sb h
  have h2 := q_sh h
  have h3 := q_si h
  have h4 := q_sm h
  have hb4 := ok.b4
  have hi4 := ok.i4
  have hml := ok.ml
  refine T45.calls ?_
  unfold T45
  refine LoopX.mk (fun st w' => ∃ i : Nat, i ≤ p.bs.length ∧ st.1 = (i : Int) ∧ St w0 w' (gs p F)) (fun st => p.bs.length - st.1.toNat) ⟨0, Nat.zero_le _, rfl, h⟩ ?_
  clear h
  rintro ⟨_, ⟨⟩⟩ w ⟨i, hi, rfl, h⟩ K hK
  dsimp only at h hK ⊢
  repeat (first | (with_reducible refine NilP.mk ?_) | ((with_reducible refine RunN.isLoad ?_); (first | refine h.loadB 0 0 ⟨_, rfl, rfl⟩ rfl rfl ?_ | refine h.drew.loadB 0 0 ⟨_, rfl, rfl⟩ rfl rfl ?_)) | ((with_reducible refine ReadN.isLoad ?_); (first | refine h.readB 0 0 ⟨_, rfl, rfl⟩ rfl rfl ?_ | refine h.drew.readB 0 0 ⟨_, rfl, rfl⟩ rfl rfl ?_)) | ((with_reducible refine StillV.isLoad ?_); (first | refine ⟨h.stillB 0 0 ⟨_, rfl, rfl⟩ rfl rfl, ?_⟩)) | ((with_reducible refine RunU.isStor ?_); (first | (refine h.storB 0 0 ⟨_, rfl, rfl⟩ rfl rfl rfl ?_; intro w h; dsimp only [updG, setO] at h) | (refine h.drew.storB 0 0 ⟨_, rfl, rfl⟩ rfl rfl rfl ?_; intro w h; dsimp only [updG, setO] at h))) | ((with_reducible refine RunN.isBox ?_); (first | (refine h.newB run_boxA rfl ?_; intro bn w h; try dsimp only at h) | (refine h.drew.newB run_boxA rfl ?_; intro bn w h; try dsimp only at h))) | ((with_reducible refine RunN.isNew ?_); (first | (refine h.newB (NewC.run _) rfl ?_; intro bn w h) | (refine h.drew.newB (NewC.run _) rfl ?_; intro bn w h))))
  rw [SplitB_iff]
  refine ⟨fun hc => ?_, fun hc => ?_⟩
  · have hc : i < p.bs.length := by have := of_decide_eq_true hc; omega
    repeat (first | (with_reducible refine NilP.mk ?_) | ((with_reducible refine RunN.isLoad ?_); (first | refine h.loadB 0 0 ⟨_, rfl, rfl⟩ rfl rfl ?_ | refine h.drew.loadB 0 0 ⟨_, rfl, rfl⟩ rfl rfl ?_)) | ((with_reducible refine ReadN.isLoad ?_); (first | refine h.readB 0 0 ⟨_, rfl, rfl⟩ rfl rfl ?_ | refine h.drew.readB 0 0 ⟨_, rfl, rfl⟩ rfl rfl ?_)) | ((with_reducible refine StillV.isLoad ?_); (first | refine ⟨h.stillB 0 0 ⟨_, rfl, rfl⟩ rfl rfl, ?_⟩)) | ((with_reducible refine RunU.isStor ?_); (first | (refine h.storB 0 0 ⟨_, rfl, rfl⟩ rfl rfl rfl ?_; intro w h; dsimp only [updG, setO] at h) | (refine h.drew.storB 0 0 ⟨_, rfl, rfl⟩ rfl rfl rfl ?_; intro w h; dsimp only [updG, setO] at h))) | ((with_reducible refine RunN.isBox ?_); (first | (refine h.newB run_boxA rfl ?_; intro bn w h; try dsimp only at h) | (refine h.drew.newB run_boxA rfl ?_; intro bn w h; try dsimp only at h))) | ((with_reducible refine RunN.isNew ?_); (first | (refine h.newB (NewC.run _) rfl ?_; intro bn w h) | (refine h.drew.newB (NewC.run _) rfl ?_; intro bn w h))))
    refine (h.drew.rd (k := 3) (i := 0) ⟨_, rfl, rfl⟩).idxR i rfl (by omega) ?_
    intro b o hb
    refine (h.drew.rd (k := 3) (i := 0) ⟨_, rfl, rfl⟩).elR hb (i * 1) rfl (kd := .sl) (x := p.bs[i].1) (by rw [Nat.mul_one]; exact lsl_at hc) ?_
    refine str_ro (h.drew.rd (k := 4) (i := i) ⟨_, rfl, brw_at hc⟩) ?_
    repeat (first | (with_reducible refine NilP.mk ?_) | ((with_reducible refine RunN.isLoad ?_); (first | refine h.loadB 0 0 ⟨_, rfl, rfl⟩ rfl rfl ?_ | refine h.drew.loadB 0 0 ⟨_, rfl, rfl⟩ rfl rfl ?_)) | ((with_reducible refine ReadN.isLoad ?_); (first | refine h.readB 0 0 ⟨_, rfl, rfl⟩ rfl rfl ?_ | refine h.drew.readB 0 0 ⟨_, rfl, rfl⟩ rfl rfl ?_)) | ((with_reducible refine StillV.isLoad ?_); (first | refine ⟨h.stillB 0 0 ⟨_, rfl, rfl⟩ rfl rfl, ?_⟩)) | ((with_reducible refine RunU.isStor ?_); (first | (refine h.storB 0 0 ⟨_, rfl, rfl⟩ rfl rfl rfl ?_; intro w h; dsimp only [updG, setO] at h) | (refine h.drew.storB 0 0 ⟨_, rfl, rfl⟩ rfl rfl rfl ?_; intro w h; dsimp only [updG, setO] at h))) | ((with_reducible refine RunN.isBox ?_); (first | (refine h.newB run_boxA rfl ?_; intro bn w h; try dsimp only at h) | (refine h.drew.newB run_boxA rfl ?_; intro bn w h; try dsimp only at h))) | ((with_reducible refine RunN.isNew ?_); (first | (refine h.newB (NewC.run _) rfl ?_; intro bn w h) | (refine h.drew.newB (NewC.run _) rfl ?_; intro bn w h))))
    refine (h.drew.rd (k := 5) (i := 0) ⟨_, rfl, rfl⟩).idxR i rfl (by omega) ?_
    intro b o hb
    refine (h.drew.rd (k := 5) (i := 0) ⟨_, rfl, rfl⟩).elR hb (i * 1) rfl (kd := .str) (x := ⟨p.bs[i].2.toArray⟩) (by rw [Nat.mul_one]; exact lst_at hc) ?_
    rw [SplitB_iff]
    refine ⟨fun hz => ?_, fun hz => ?_⟩
    · simp at hz
    · exact hK _ _ ⟨i + 1, hc, by dsimp only; rw [wr (by omega)]; omega, h.drew⟩ (by dsimp only; rw [wr (by omega)]; omega)
  · refine LoopX.mk (fun st w' => ∃ i : Nat, i ≤ p.is.length ∧ st.1 = (i : Int) ∧ St w0 w' (gs p F)) (fun st => p.is.length - st.1.toNat) ⟨0, Nat.zero_le _, rfl, h⟩ ?_
    clear h
    rintro ⟨_, ⟨⟩⟩ w ⟨i, hi, rfl, h⟩ K hK
    dsimp only at h hK ⊢
    repeat (first | (with_reducible refine NilP.mk ?_) | ((with_reducible refine RunN.isLoad ?_); (first | refine h.loadB 0 0 ⟨_, rfl, rfl⟩ rfl rfl ?_ | refine h.drew.loadB 0 0 ⟨_, rfl, rfl⟩ rfl rfl ?_)) | ((with_reducible refine ReadN.isLoad ?_); (first | refine h.readB 0 0 ⟨_, rfl, rfl⟩ rfl rfl ?_ | refine h.drew.readB 0 0 ⟨_, rfl, rfl⟩ rfl rfl ?_)) | ((with_reducible refine StillV.isLoad ?_); (first | refine ⟨h.stillB 0 0 ⟨_, rfl, rfl⟩ rfl rfl, ?_⟩)) | ((with_reducible refine RunU.isStor ?_); (first | (refine h.storB 0 0 ⟨_, rfl, rfl⟩ rfl rfl rfl ?_; intro w h; dsimp only [updG, setO] at h) | (refine h.drew.storB 0 0 ⟨_, rfl, rfl⟩ rfl rfl rfl ?_; intro w h; dsimp only [updG, setO] at h))) | ((with_reducible refine RunN.isBox ?_); (first | (refine h.newB run_boxA rfl ?_; intro bn w h; try dsimp only at h) | (refine h.drew.newB run_boxA rfl ?_; intro bn w h; try dsimp only at h))) | ((with_reducible refine RunN.isNew ?_); (first | (refine h.newB (NewC.run _) rfl ?_; intro bn w h) | (refine h.drew.newB (NewC.run _) rfl ?_; intro bn w h))))
    rw [SplitB_iff]
    refine ⟨fun hc => ?_, fun hc => ?_⟩
    · have hc : i < p.is.length := by have := of_decide_eq_true hc; omega
      have him := ok.im i hc (by omega)
      have hil64 := ok.il _ (List.getElem_mem hc)
      refine LoopX.mk (fun st w' => ∃ j : Nat, j ≤ p.is[i].2.length ∧ st.1 = (j : Int) ∧ St w0 w' (gs p F)) (fun st => p.is[i].2.length - st.1.toNat) ⟨0, Nat.zero_le _, rfl, h⟩ ?_
      clear h
      rintro ⟨_, ⟨⟩⟩ w ⟨j, hj, rfl, h⟩ K2 hK2
      dsimp only at h hK2 ⊢
      have hil := (h.rd (k := 7) (i := i) ⟨_, rfl, irw_at hc⟩).1
      rw [lin_len, Nat.mul_one] at hil
      repeat (first | (with_reducible refine NilP.mk ?_) | ((with_reducible refine RunN.isLoad ?_); (first | refine h.loadB 0 0 ⟨_, rfl, rfl⟩ rfl rfl ?_ | refine h.drew.loadB 0 0 ⟨_, rfl, rfl⟩ rfl rfl ?_)) | ((with_reducible refine ReadN.isLoad ?_); (first | refine h.readB 0 0 ⟨_, rfl, rfl⟩ rfl rfl ?_ | refine h.drew.readB 0 0 ⟨_, rfl, rfl⟩ rfl rfl ?_)) | ((with_reducible refine StillV.isLoad ?_); (first | refine ⟨h.stillB 0 0 ⟨_, rfl, rfl⟩ rfl rfl, ?_⟩)) | ((with_reducible refine RunU.isStor ?_); (first | (refine h.storB 0 0 ⟨_, rfl, rfl⟩ rfl rfl rfl ?_; intro w h; dsimp only [updG, setO] at h) | (refine h.drew.storB 0 0 ⟨_, rfl, rfl⟩ rfl rfl rfl ?_; intro w h; dsimp only [updG, setO] at h))) | ((with_reducible refine RunN.isBox ?_); (first | (refine h.newB run_boxA rfl ?_; intro bn w h; try dsimp only at h) | (refine h.drew.newB run_boxA rfl ?_; intro bn w h; try dsimp only at h))) | ((with_reducible refine RunN.isNew ?_); (first | (refine h.newB (NewC.run _) rfl ?_; intro bn w h) | (refine h.drew.newB (NewC.run _) rfl ?_; intro bn w h))))
      refine (h.rd (k := 6) (i := 0) ⟨_, rfl, rfl⟩).idxK i rfl (by omega) ?_
      intro b o hb
      refine (h.rd (k := 6) (i := 0) ⟨_, rfl, rfl⟩).el hb (i * 1) rfl (kd := .sl) (x := p.is[i].1) (by rw [Nat.mul_one]; exact lsi_at hc) ?_
      rw [SplitB_iff]
      refine ⟨fun hd => ?_, fun hd => ?_⟩
      · have hd : j < p.is[i].2.length := by have := of_decide_eq_true hd; omega
        have h := h.drew
        repeat (first | (with_reducible refine NilP.mk ?_) | ((with_reducible refine RunN.isLoad ?_); (first | refine h.loadB 0 0 ⟨_, rfl, rfl⟩ rfl rfl ?_ | refine h.drew.loadB 0 0 ⟨_, rfl, rfl⟩ rfl rfl ?_)) | ((with_reducible refine ReadN.isLoad ?_); (first | refine h.readB 0 0 ⟨_, rfl, rfl⟩ rfl rfl ?_ | refine h.drew.readB 0 0 ⟨_, rfl, rfl⟩ rfl rfl ?_)) | ((with_reducible refine StillV.isLoad ?_); (first | refine ⟨h.stillB 0 0 ⟨_, rfl, rfl⟩ rfl rfl, ?_⟩)) | ((with_reducible refine RunU.isStor ?_); (first | (refine h.storB 0 0 ⟨_, rfl, rfl⟩ rfl rfl rfl ?_; intro w h; dsimp only [updG, setO] at h) | (refine h.drew.storB 0 0 ⟨_, rfl, rfl⟩ rfl rfl rfl ?_; intro w h; dsimp only [updG, setO] at h))) | ((with_reducible refine RunN.isBox ?_); (first | (refine h.newB run_boxA rfl ?_; intro bn w h; try dsimp only at h) | (refine h.drew.newB run_boxA rfl ?_; intro bn w h; try dsimp only at h))) | ((with_reducible refine RunN.isNew ?_); (first | (refine h.newB (NewC.run _) rfl ?_; intro bn w h) | (refine h.drew.newB (NewC.run _) rfl ?_; intro bn w h))))
        refine (h.rd (k := 6) (i := 0) ⟨_, rfl, rfl⟩).idxR i rfl (by omega) ?_
        intro b1 o1 hb1
        refine (h.rd (k := 6) (i := 0) ⟨_, rfl, rfl⟩).elR hb1 (i * 1) rfl (kd := .sl) (x := p.is[i].1) (by rw [Nat.mul_one]; exact lsi_at hc) ?_
        refine (h.rd (k := 7) (i := i) ⟨_, rfl, irw_at hc⟩).idxR j rfl (by omega) ?_
        intro b2 o2 hb2
        refine (h.rd (k := 7) (i := i) ⟨_, rfl, irw_at hc⟩).elR hb2 (j * 1) rfl (kd := .int .i64) (x := p.ms[i]'(by omega)) (by
          rw [Nat.mul_one, lin_at hd]
          have : p.is[i].2[j]? = some (p.ms[i]'(by omega)) := by rw [him]; simp [hd]
          rw [List.getElem?_eq_getElem hd] at this
          rw [Option.some.inj this]; rfl) ?_
        repeat (first | (with_reducible refine NilP.mk ?_) | ((with_reducible refine RunN.isLoad ?_); (first | refine h.loadB 0 0 ⟨_, rfl, rfl⟩ rfl rfl ?_ | refine h.drew.loadB 0 0 ⟨_, rfl, rfl⟩ rfl rfl ?_)) | ((with_reducible refine ReadN.isLoad ?_); (first | refine h.readB 0 0 ⟨_, rfl, rfl⟩ rfl rfl ?_ | refine h.drew.readB 0 0 ⟨_, rfl, rfl⟩ rfl rfl ?_)) | ((with_reducible refine StillV.isLoad ?_); (first | refine ⟨h.stillB 0 0 ⟨_, rfl, rfl⟩ rfl rfl, ?_⟩)) | ((with_reducible refine RunU.isStor ?_); (first | (refine h.storB 0 0 ⟨_, rfl, rfl⟩ rfl rfl rfl ?_; intro w h; dsimp only [updG, setO] at h) | (refine h.drew.storB 0 0 ⟨_, rfl, rfl⟩ rfl rfl rfl ?_; intro w h; dsimp only [updG, setO] at h))) | ((with_reducible refine RunN.isBox ?_); (first | (refine h.newB run_boxA rfl ?_; intro bn w h; try dsimp only at h) | (refine h.drew.newB run_boxA rfl ?_; intro bn w h; try dsimp only at h))) | ((with_reducible refine RunN.isNew ?_); (first | (refine h.newB (NewC.run _) rfl ?_; intro bn w h) | (refine h.drew.newB (NewC.run _) rfl ?_; intro bn w h))))
        refine (h.rd (k := 8) (i := 0) ⟨_, rfl, rfl⟩).idxR i rfl (by omega) ?_
        intro b3 o3 hb3
        refine (h.rd (k := 8) (i := 0) ⟨_, rfl, rfl⟩).elR hb3 (i * 1) rfl (kd := .int .i64) (x := p.ms[i]'(by omega)) (by rw [Nat.mul_one]; exact lin_at (by omega)) ?_
        rw [SplitB_iff]
        refine ⟨fun hz => ?_, fun hz => ?_⟩
        · simp at hz
        · exact hK2 _ _ ⟨j + 1, hd, by dsimp only; rw [wr (by omega)]; omega, h⟩ (by dsimp only; rw [wr (by omega)]; omega)
      · exact hK _ _ ⟨i + 1, hc, by dsimp only; rw [wr (by omega)]; omega, h⟩ (by dsimp only; rw [wr (by omega)]; omega)
    · exact ⟨rfl, h⟩
/-- Bytes that are left alone. -/
theorem leave_st {b : Sl} {v : List UInt8} (h : St w0 w ([.row 5 1 b (bys v)] :: gs p F)) (ok : QOk N p) : CallK Try.prog .bool 58 #[.pointer (some ⟨p.b, 2, none⟩), .slice b.a b.len b.cap] w fun (r : Bool) w' =>
    r = true ∧ (∃ p', Kp p p' ∧ QOk N p' ∧ St w0 w' (gs p' F)) ∨ r = false ∧ St w0 w' ([.row 5 1 b (bys v)] :: gs p F) := by
  have hbl := (h.rd (k := 0) (i := 0) ⟨_, rfl, rfl⟩).bys_len
  have h1 := q_sl (h.drop 0)
  have h2 := q_sw (h.drop 0)
  have hl := ok.l100
  have hsz := ok.sz
  refine T58.calls ?_
  unfold T58
  refine JoinX.mk (fun j w' => (j.1 = false → v.length ≤ 4194304 - p.size ∧ p.ls.length < 100) ∧ St w0 w' ([.row 5 1 b (bys v)] :: gs p F)) ?_ ?_
  · rintro ⟨j, ⟨⟩⟩ w ⟨hj, h⟩
    dsimp only at hj h ⊢
    rw [SplitB_iff]
    refine ⟨fun hc => ?_, fun hc => ?_⟩
    · exact .inr ⟨rfl, h⟩
    · obtain ⟨hv, hl2⟩ := hj hc
      repeat (first | (with_reducible refine NilP.mk ?_) | ((with_reducible refine RunN.isLoad ?_); (first | refine h.loadB 0 0 ⟨_, rfl, rfl⟩ rfl rfl ?_ | refine h.loadB 1 0 ⟨_, rfl, rfl⟩ rfl rfl ?_ | refine h.drew.loadB 0 0 ⟨_, rfl, rfl⟩ rfl rfl ?_ | refine h.drew.loadB 1 0 ⟨_, rfl, rfl⟩ rfl rfl ?_)) | ((with_reducible refine ReadN.isLoad ?_); (first | refine h.readB 0 0 ⟨_, rfl, rfl⟩ rfl rfl ?_ | refine h.readB 1 0 ⟨_, rfl, rfl⟩ rfl rfl ?_ | refine h.drew.readB 0 0 ⟨_, rfl, rfl⟩ rfl rfl ?_ | refine h.drew.readB 1 0 ⟨_, rfl, rfl⟩ rfl rfl ?_)) | ((with_reducible refine StillV.isLoad ?_); (first | refine ⟨h.stillB 0 0 ⟨_, rfl, rfl⟩ rfl rfl, ?_⟩ | refine ⟨h.stillB 1 0 ⟨_, rfl, rfl⟩ rfl rfl, ?_⟩)) | ((with_reducible refine RunU.isStor ?_); (first | (refine h.storB 0 0 ⟨_, rfl, rfl⟩ rfl rfl rfl ?_; intro w h; dsimp only [updG, setO] at h) | (refine h.storB 1 0 ⟨_, rfl, rfl⟩ rfl rfl rfl ?_; intro w h; dsimp only [updG, setO] at h) | (refine h.drew.storB 0 0 ⟨_, rfl, rfl⟩ rfl rfl rfl ?_; intro w h; dsimp only [updG, setO] at h) | (refine h.drew.storB 1 0 ⟨_, rfl, rfl⟩ rfl rfl rfl ?_; intro w h; dsimp only [updG, setO] at h))) | ((with_reducible refine RunN.isBox ?_); (first | (refine h.newB run_boxA rfl ?_; intro bn w h; try dsimp only at h) | (refine h.drew.newB run_boxA rfl ?_; intro bn w h; try dsimp only at h))) | ((with_reducible refine RunN.isNew ?_); (first | (refine h.newB (NewC.run _) rfl ?_; intro bn w h) | (refine h.drew.newB (NewC.run _) rfl ?_; intro bn w h))))
      rw [wr (x := (p.size : Int) + (b.len : Int)) (by omega)] at h
      refine h.newS 1 (bs29 _ _ rfl) rfl rfl rfl ?_
      intro u w hul huc _ h
      refine h.app 11 0 ⟨_, rfl, rfl⟩ (h.rd (k := 0) (i := 0) ⟨_, rfl, rfl⟩) one_slice (by simp only [maxLen]; omega) (by omega) ?_
      intro s5 w l5 h
      dsimp only [updG, setO] at h
      have h := h.drop 0
      dsimp only [delO] at h
      repeat (first | (with_reducible refine NilP.mk ?_) | ((with_reducible refine RunN.isLoad ?_); (first | refine h.loadB 0 0 ⟨_, rfl, rfl⟩ rfl rfl ?_ | refine h.loadB 1 0 ⟨_, rfl, rfl⟩ rfl rfl ?_ | refine h.drew.loadB 0 0 ⟨_, rfl, rfl⟩ rfl rfl ?_ | refine h.drew.loadB 1 0 ⟨_, rfl, rfl⟩ rfl rfl ?_)) | ((with_reducible refine ReadN.isLoad ?_); (first | refine h.readB 0 0 ⟨_, rfl, rfl⟩ rfl rfl ?_ | refine h.readB 1 0 ⟨_, rfl, rfl⟩ rfl rfl ?_ | refine h.drew.readB 0 0 ⟨_, rfl, rfl⟩ rfl rfl ?_ | refine h.drew.readB 1 0 ⟨_, rfl, rfl⟩ rfl rfl ?_)) | ((with_reducible refine StillV.isLoad ?_); (first | refine ⟨h.stillB 0 0 ⟨_, rfl, rfl⟩ rfl rfl, ?_⟩ | refine ⟨h.stillB 1 0 ⟨_, rfl, rfl⟩ rfl rfl, ?_⟩)) | ((with_reducible refine RunU.isStor ?_); (first | (refine h.storB 0 0 ⟨_, rfl, rfl⟩ rfl rfl rfl ?_; intro w h; dsimp only [updG, setO] at h) | (refine h.storB 1 0 ⟨_, rfl, rfl⟩ rfl rfl rfl ?_; intro w h; dsimp only [updG, setO] at h) | (refine h.drew.storB 0 0 ⟨_, rfl, rfl⟩ rfl rfl rfl ?_; intro w h; dsimp only [updG, setO] at h) | (refine h.drew.storB 1 0 ⟨_, rfl, rfl⟩ rfl rfl rfl ?_; intro w h; dsimp only [updG, setO] at h))) | ((with_reducible refine RunN.isBox ?_); (first | (refine h.newB run_boxA rfl ?_; intro bn w h; try dsimp only at h) | (refine h.drew.newB run_boxA rfl ?_; intro bn w h; try dsimp only at h))) | ((with_reducible refine RunN.isNew ?_); (first | (refine h.newB (NewC.run _) rfl ?_; intro bn w h) | (refine h.drew.newB (NewC.run _) rfl ?_; intro bn w h))))
      repeat (first | (with_reducible refine NilP.mk ?_) | ((with_reducible refine RunN.isLoad ?_); (first | refine h.loadB 0 0 ⟨_, rfl, rfl⟩ rfl rfl ?_ | refine h.loadB 1 0 ⟨_, rfl, rfl⟩ rfl rfl ?_ | refine h.drew.loadB 0 0 ⟨_, rfl, rfl⟩ rfl rfl ?_ | refine h.drew.loadB 1 0 ⟨_, rfl, rfl⟩ rfl rfl ?_)) | ((with_reducible refine ReadN.isLoad ?_); (first | refine h.readB 0 0 ⟨_, rfl, rfl⟩ rfl rfl ?_ | refine h.readB 1 0 ⟨_, rfl, rfl⟩ rfl rfl ?_ | refine h.drew.readB 0 0 ⟨_, rfl, rfl⟩ rfl rfl ?_ | refine h.drew.readB 1 0 ⟨_, rfl, rfl⟩ rfl rfl ?_)) | ((with_reducible refine StillV.isLoad ?_); (first | refine ⟨h.stillB 0 0 ⟨_, rfl, rfl⟩ rfl rfl, ?_⟩ | refine ⟨h.stillB 1 0 ⟨_, rfl, rfl⟩ rfl rfl, ?_⟩)) | ((with_reducible refine RunU.isStor ?_); (first | (refine h.storB 0 0 ⟨_, rfl, rfl⟩ rfl rfl rfl ?_; intro w h; dsimp only [updG, setO] at h) | (refine h.storB 1 0 ⟨_, rfl, rfl⟩ rfl rfl rfl ?_; intro w h; dsimp only [updG, setO] at h) | (refine h.drew.storB 0 0 ⟨_, rfl, rfl⟩ rfl rfl rfl ?_; intro w h; dsimp only [updG, setO] at h) | (refine h.drew.storB 1 0 ⟨_, rfl, rfl⟩ rfl rfl rfl ?_; intro w h; dsimp only [updG, setO] at h))) | ((with_reducible refine RunN.isBox ?_); (first | (refine h.newB run_boxA rfl ?_; intro bn w h; try dsimp only at h) | (refine h.drew.newB run_boxA rfl ?_; intro bn w h; try dsimp only at h))) | ((with_reducible refine RunN.isNew ?_); (first | (refine h.newB (NewC.run _) rfl ?_; intro bn w h) | (refine h.drew.newB (NewC.run _) rfl ?_; intro bn w h))))
      refine str_ro (h.drew.rd (k := 0) (i := 0) ⟨_, rfl, rfl⟩) ?_
      refine h.drew.newS 1 (bs62 _ _) rfl rfl rfl ?_
      intro s6 w l1 l2 _ h
      refine ⟨h.stillB 2 0 ⟨_, rfl, rfl⟩ rfl rfl, ?_⟩
      refine h.app 13 0 ⟨_, rfl, rfl⟩ (h.rd (k := 0) (i := 0) ⟨_, rfl, rfl⟩) one_str (by simp only [maxLen]; omega) (by omega) ?_
      intro s7 w l7 h
      dsimp only [updG, setO] at h
      have h := h.drop 0
      dsimp only [delO] at h
      repeat (first | (with_reducible refine NilP.mk ?_) | ((with_reducible refine RunN.isLoad ?_); (first | refine h.loadB 0 0 ⟨_, rfl, rfl⟩ rfl rfl ?_ | refine h.loadB 1 0 ⟨_, rfl, rfl⟩ rfl rfl ?_ | refine h.drew.loadB 0 0 ⟨_, rfl, rfl⟩ rfl rfl ?_ | refine h.drew.loadB 1 0 ⟨_, rfl, rfl⟩ rfl rfl ?_)) | ((with_reducible refine ReadN.isLoad ?_); (first | refine h.readB 0 0 ⟨_, rfl, rfl⟩ rfl rfl ?_ | refine h.readB 1 0 ⟨_, rfl, rfl⟩ rfl rfl ?_ | refine h.drew.readB 0 0 ⟨_, rfl, rfl⟩ rfl rfl ?_ | refine h.drew.readB 1 0 ⟨_, rfl, rfl⟩ rfl rfl ?_)) | ((with_reducible refine StillV.isLoad ?_); (first | refine ⟨h.stillB 0 0 ⟨_, rfl, rfl⟩ rfl rfl, ?_⟩ | refine ⟨h.stillB 1 0 ⟨_, rfl, rfl⟩ rfl rfl, ?_⟩)) | ((with_reducible refine RunU.isStor ?_); (first | (refine h.storB 0 0 ⟨_, rfl, rfl⟩ rfl rfl rfl ?_; intro w h; dsimp only [updG, setO] at h) | (refine h.storB 1 0 ⟨_, rfl, rfl⟩ rfl rfl rfl ?_; intro w h; dsimp only [updG, setO] at h) | (refine h.drew.storB 0 0 ⟨_, rfl, rfl⟩ rfl rfl rfl ?_; intro w h; dsimp only [updG, setO] at h) | (refine h.drew.storB 1 0 ⟨_, rfl, rfl⟩ rfl rfl rfl ?_; intro w h; dsimp only [updG, setO] at h))) | ((with_reducible refine RunN.isBox ?_); (first | (refine h.newB run_boxA rfl ?_; intro bn w h; try dsimp only at h) | (refine h.drew.newB run_boxA rfl ?_; intro bn w h; try dsimp only at h))) | ((with_reducible refine RunN.isNew ?_); (first | (refine h.newB (NewC.run _) rfl ?_; intro bn w h) | (refine h.drew.newB (NewC.run _) rfl ?_; intro bn w h))))
      have h := (((h.bring 11 rfl).bring 1 rfl).into).back 10
      dsimp only [insO, delO] at h
      rw [← lsl_snoc _ (b, v), ← lst_snoc _ (b, v)] at h
      refine .inl ⟨rfl, { p with sl := s5, ls := p.ls ++ [(b, v)], sw := s7, size := p.size + v.length }, ⟨rfl, rfl, rfl, rfl, rfl, rfl⟩, ?_, ?_⟩
      · refine { ok with l100 := by dsimp only; rw [List.length_append]; simp; omega, sz := by dsimp only; omega, ll := ?_ }
        intro x hx
        rcases List.mem_append.1 hx with hx | hx
        · exact ok.ll x hx
        · simp at hx; subst hx; dsimp only; omega
      · have e : ((p.size + v.length : Nat) : Int) = (p.size : Int) + (b.len : Int) := by omega
        show St w0 _ _
        simp only [gs, gs', List.map_append, Q.c, qcel]
        rw [e]
        exact h
  · intro k1 hk1
    repeat (first | (with_reducible refine NilP.mk ?_) | ((with_reducible refine RunN.isLoad ?_); (first | refine h.loadB 0 0 ⟨_, rfl, rfl⟩ rfl rfl ?_ | refine h.loadB 1 0 ⟨_, rfl, rfl⟩ rfl rfl ?_ | refine h.drew.loadB 0 0 ⟨_, rfl, rfl⟩ rfl rfl ?_ | refine h.drew.loadB 1 0 ⟨_, rfl, rfl⟩ rfl rfl ?_)) | ((with_reducible refine ReadN.isLoad ?_); (first | refine h.readB 0 0 ⟨_, rfl, rfl⟩ rfl rfl ?_ | refine h.readB 1 0 ⟨_, rfl, rfl⟩ rfl rfl ?_ | refine h.drew.readB 0 0 ⟨_, rfl, rfl⟩ rfl rfl ?_ | refine h.drew.readB 1 0 ⟨_, rfl, rfl⟩ rfl rfl ?_)) | ((with_reducible refine StillV.isLoad ?_); (first | refine ⟨h.stillB 0 0 ⟨_, rfl, rfl⟩ rfl rfl, ?_⟩ | refine ⟨h.stillB 1 0 ⟨_, rfl, rfl⟩ rfl rfl, ?_⟩)) | ((with_reducible refine RunU.isStor ?_); (first | (refine h.storB 0 0 ⟨_, rfl, rfl⟩ rfl rfl rfl ?_; intro w h; dsimp only [updG, setO] at h) | (refine h.storB 1 0 ⟨_, rfl, rfl⟩ rfl rfl rfl ?_; intro w h; dsimp only [updG, setO] at h) | (refine h.drew.storB 0 0 ⟨_, rfl, rfl⟩ rfl rfl rfl ?_; intro w h; dsimp only [updG, setO] at h) | (refine h.drew.storB 1 0 ⟨_, rfl, rfl⟩ rfl rfl rfl ?_; intro w h; dsimp only [updG, setO] at h))) | ((with_reducible refine RunN.isBox ?_); (first | (refine h.newB run_boxA rfl ?_; intro bn w h; try dsimp only at h) | (refine h.drew.newB run_boxA rfl ?_; intro bn w h; try dsimp only at h))) | ((with_reducible refine RunN.isNew ?_); (first | (refine h.newB (NewC.run _) rfl ?_; intro bn w h) | (refine h.drew.newB (NewC.run _) rfl ?_; intro bn w h))))
    rw [wr (x := (4194304 : Int) - (p.size : Int)) (by omega)]
    rw [SplitB_iff]
    refine ⟨fun hc => ?_, fun hc => ?_⟩
    · exact hk1 _ _ ⟨(fun hh => by cases hh), h⟩
    · have hc := of_decide_eq_false hc
      repeat (first | (with_reducible refine NilP.mk ?_) | ((with_reducible refine RunN.isLoad ?_); (first | refine h.loadB 0 0 ⟨_, rfl, rfl⟩ rfl rfl ?_ | refine h.loadB 1 0 ⟨_, rfl, rfl⟩ rfl rfl ?_ | refine h.drew.loadB 0 0 ⟨_, rfl, rfl⟩ rfl rfl ?_ | refine h.drew.loadB 1 0 ⟨_, rfl, rfl⟩ rfl rfl ?_)) | ((with_reducible refine ReadN.isLoad ?_); (first | refine h.readB 0 0 ⟨_, rfl, rfl⟩ rfl rfl ?_ | refine h.readB 1 0 ⟨_, rfl, rfl⟩ rfl rfl ?_ | refine h.drew.readB 0 0 ⟨_, rfl, rfl⟩ rfl rfl ?_ | refine h.drew.readB 1 0 ⟨_, rfl, rfl⟩ rfl rfl ?_)) | ((with_reducible refine StillV.isLoad ?_); (first | refine ⟨h.stillB 0 0 ⟨_, rfl, rfl⟩ rfl rfl, ?_⟩ | refine ⟨h.stillB 1 0 ⟨_, rfl, rfl⟩ rfl rfl, ?_⟩)) | ((with_reducible refine RunU.isStor ?_); (first | (refine h.storB 0 0 ⟨_, rfl, rfl⟩ rfl rfl rfl ?_; intro w h; dsimp only [updG, setO] at h) | (refine h.storB 1 0 ⟨_, rfl, rfl⟩ rfl rfl rfl ?_; intro w h; dsimp only [updG, setO] at h) | (refine h.drew.storB 0 0 ⟨_, rfl, rfl⟩ rfl rfl rfl ?_; intro w h; dsimp only [updG, setO] at h) | (refine h.drew.storB 1 0 ⟨_, rfl, rfl⟩ rfl rfl rfl ?_; intro w h; dsimp only [updG, setO] at h))) | ((with_reducible refine RunN.isBox ?_); (first | (refine h.newB run_boxA rfl ?_; intro bn w h; try dsimp only at h) | (refine h.drew.newB run_boxA rfl ?_; intro bn w h; try dsimp only at h))) | ((with_reducible refine RunN.isNew ?_); (first | (refine h.newB (NewC.run _) rfl ?_; intro bn w h) | (refine h.drew.newB (NewC.run _) rfl ?_; intro bn w h))))
      refine hk1 _ _ ⟨fun hh => ?_, h⟩
      have hh := of_decide_eq_false hh
      omega
/-- Bytes that are written full. -/
theorem keep_st {b : Sl} {v : List UInt8} (h : St w0 w ([.row 5 1 b (bys v)] :: gs p F)) (ok : QOk N p) (hN : N ≤ 1000000) (hv : v.length ≤ 134217728) : CallK Try.prog (.tup .nilT) 59 #[.pointer (some ⟨p.b, 2, none⟩), .slice b.a b.len b.cap] w fun (_ : Unit) w' =>
    ∃ p', Kp p p' ∧ QOk (N + 1) p' ∧ St w0 w' (gs p' F) := by
  have hbl := (h.rd (k := 0) (i := 0) ⟨_, rfl, rfl⟩).bys_len
  have h1 := q_sb (h.drop 0)
  have h2 := q_sh (h.drop 0)
  have hb4 := ok.b4
  have hmk := ok.mark
  refine T59.calls ?_
  unfold T59
  repeat (first | (with_reducible refine NilP.mk ?_) | ((with_reducible refine RunN.isLoad ?_); (first | refine h.loadB 0 0 ⟨_, rfl, rfl⟩ rfl rfl ?_ | refine h.loadB 1 0 ⟨_, rfl, rfl⟩ rfl rfl ?_ | refine h.drew.loadB 0 0 ⟨_, rfl, rfl⟩ rfl rfl ?_ | refine h.drew.loadB 1 0 ⟨_, rfl, rfl⟩ rfl rfl ?_)) | ((with_reducible refine ReadN.isLoad ?_); (first | refine h.readB 0 0 ⟨_, rfl, rfl⟩ rfl rfl ?_ | refine h.readB 1 0 ⟨_, rfl, rfl⟩ rfl rfl ?_ | refine h.drew.readB 0 0 ⟨_, rfl, rfl⟩ rfl rfl ?_ | refine h.drew.readB 1 0 ⟨_, rfl, rfl⟩ rfl rfl ?_)) | ((with_reducible refine StillV.isLoad ?_); (first | refine ⟨h.stillB 0 0 ⟨_, rfl, rfl⟩ rfl rfl, ?_⟩ | refine ⟨h.stillB 1 0 ⟨_, rfl, rfl⟩ rfl rfl, ?_⟩)) | ((with_reducible refine RunU.isStor ?_); (first | (refine h.storB 0 0 ⟨_, rfl, rfl⟩ rfl rfl rfl ?_; intro w h; dsimp only [updG, setO] at h) | (refine h.storB 1 0 ⟨_, rfl, rfl⟩ rfl rfl rfl ?_; intro w h; dsimp only [updG, setO] at h) | (refine h.drew.storB 0 0 ⟨_, rfl, rfl⟩ rfl rfl rfl ?_; intro w h; dsimp only [updG, setO] at h) | (refine h.drew.storB 1 0 ⟨_, rfl, rfl⟩ rfl rfl rfl ?_; intro w h; dsimp only [updG, setO] at h))) | ((with_reducible refine RunN.isBox ?_); (first | (refine h.newB run_boxA rfl ?_; intro bn w h; try dsimp only at h) | (refine h.drew.newB run_boxA rfl ?_; intro bn w h; try dsimp only at h))) | ((with_reducible refine RunN.isNew ?_); (first | (refine h.newB (NewC.run _) rfl ?_; intro bn w h) | (refine h.drew.newB (NewC.run _) rfl ?_; intro bn w h))))
  rw [wr (x := (p.mark : Int) + 1) (by omega)] at h
  have h : St w0 _ ([.row 5 1 b (bys v)] :: gs { p with mark := p.mark + 1 } F) := h
  refine LoopX.mk (fun st w' => ∃ (i : Nat) (l1 : List UInt8), i ≤ l1.length ∧ l1.length = v.length ∧ st.1 = (i : Int) ∧ St w0 w' ([.row 5 1 b (bys l1)] :: gs { p with mark := p.mark + 1 } F)) (fun st => v.length - st.1.toNat) ⟨0, v, Nat.zero_le _, rfl, rfl, h⟩ ?_
  clear h
  rintro ⟨_, ⟨⟩⟩ w ⟨i, l1, hi, hl1, rfl, h⟩ K hK
  dsimp only at h hK ⊢
  rw [SplitB_iff]
  refine ⟨fun hc => ?_, fun hc => ?_⟩
  · have hc : i < l1.length := by have := of_decide_eq_true hc; omega
    repeat (first | (with_reducible refine NilP.mk ?_) | ((with_reducible refine RunN.isLoad ?_); (first | refine h.loadB 0 0 ⟨_, rfl, rfl⟩ rfl rfl ?_ | refine h.loadB 1 0 ⟨_, rfl, rfl⟩ rfl rfl ?_ | refine h.drew.loadB 0 0 ⟨_, rfl, rfl⟩ rfl rfl ?_ | refine h.drew.loadB 1 0 ⟨_, rfl, rfl⟩ rfl rfl ?_)) | ((with_reducible refine ReadN.isLoad ?_); (first | refine h.readB 0 0 ⟨_, rfl, rfl⟩ rfl rfl ?_ | refine h.readB 1 0 ⟨_, rfl, rfl⟩ rfl rfl ?_ | refine h.drew.readB 0 0 ⟨_, rfl, rfl⟩ rfl rfl ?_ | refine h.drew.readB 1 0 ⟨_, rfl, rfl⟩ rfl rfl ?_)) | ((with_reducible refine StillV.isLoad ?_); (first | refine ⟨h.stillB 0 0 ⟨_, rfl, rfl⟩ rfl rfl, ?_⟩ | refine ⟨h.stillB 1 0 ⟨_, rfl, rfl⟩ rfl rfl, ?_⟩)) | ((with_reducible refine RunU.isStor ?_); (first | (refine h.storB 0 0 ⟨_, rfl, rfl⟩ rfl rfl rfl ?_; intro w h; dsimp only [updG, setO] at h) | (refine h.storB 1 0 ⟨_, rfl, rfl⟩ rfl rfl rfl ?_; intro w h; dsimp only [updG, setO] at h) | (refine h.drew.storB 0 0 ⟨_, rfl, rfl⟩ rfl rfl rfl ?_; intro w h; dsimp only [updG, setO] at h) | (refine h.drew.storB 1 0 ⟨_, rfl, rfl⟩ rfl rfl rfl ?_; intro w h; dsimp only [updG, setO] at h))) | ((with_reducible refine RunN.isBox ?_); (first | (refine h.newB run_boxA rfl ?_; intro bn w h; try dsimp only at h) | (refine h.drew.newB run_boxA rfl ?_; intro bn w h; try dsimp only at h))) | ((with_reducible refine RunN.isNew ?_); (first | (refine h.newB (NewC.run _) rfl ?_; intro bn w h) | (refine h.drew.newB (NewC.run _) rfl ?_; intro bn w h))))
    refine (h.rd (k := 0) (i := 0) ⟨_, rfl, rfl⟩).idxK i rfl (by omega) ?_
    intro b' o hb
    rw [by8_v]
    refine h.storR 0 0 ⟨_, rfl, rfl⟩ hb i (by rw [Nat.mul_one]) (by simpa using hc) rfl ?_
    intro w h
    rw [Go.Fw.bys_set] at h
    exact hK _ _ ⟨i + 1, l1.set i _, by simp; omega, by simp; omega, by dsimp only; rw [wr (by omega)]; omega, h⟩ (by dsimp only; rw [wr (by omega)]; omega)
  · clear hK K hc hi i
    repeat (first | (with_reducible refine NilP.mk ?_) | ((with_reducible refine RunN.isLoad ?_); (first | refine h.loadB 0 0 ⟨_, rfl, rfl⟩ rfl rfl ?_ | refine h.loadB 1 0 ⟨_, rfl, rfl⟩ rfl rfl ?_ | refine h.drew.loadB 0 0 ⟨_, rfl, rfl⟩ rfl rfl ?_ | refine h.drew.loadB 1 0 ⟨_, rfl, rfl⟩ rfl rfl ?_)) | ((with_reducible refine ReadN.isLoad ?_); (first | refine h.readB 0 0 ⟨_, rfl, rfl⟩ rfl rfl ?_ | refine h.readB 1 0 ⟨_, rfl, rfl⟩ rfl rfl ?_ | refine h.drew.readB 0 0 ⟨_, rfl, rfl⟩ rfl rfl ?_ | refine h.drew.readB 1 0 ⟨_, rfl, rfl⟩ rfl rfl ?_)) | ((with_reducible refine StillV.isLoad ?_); (first | refine ⟨h.stillB 0 0 ⟨_, rfl, rfl⟩ rfl rfl, ?_⟩ | refine ⟨h.stillB 1 0 ⟨_, rfl, rfl⟩ rfl rfl, ?_⟩)) | ((with_reducible refine RunU.isStor ?_); (first | (refine h.storB 0 0 ⟨_, rfl, rfl⟩ rfl rfl rfl ?_; intro w h; dsimp only [updG, setO] at h) | (refine h.storB 1 0 ⟨_, rfl, rfl⟩ rfl rfl rfl ?_; intro w h; dsimp only [updG, setO] at h) | (refine h.drew.storB 0 0 ⟨_, rfl, rfl⟩ rfl rfl rfl ?_; intro w h; dsimp only [updG, setO] at h) | (refine h.drew.storB 1 0 ⟨_, rfl, rfl⟩ rfl rfl rfl ?_; intro w h; dsimp only [updG, setO] at h))) | ((with_reducible refine RunN.isBox ?_); (first | (refine h.newB run_boxA rfl ?_; intro bn w h; try dsimp only at h) | (refine h.drew.newB run_boxA rfl ?_; intro bn w h; try dsimp only at h))) | ((with_reducible refine RunN.isNew ?_); (first | (refine h.newB (NewC.run _) rfl ?_; intro bn w h) | (refine h.drew.newB (NewC.run _) rfl ?_; intro bn w h))))
    refine h.newS 1 (bs29 _ _ rfl) rfl rfl rfl ?_
    intro u w hul huc _ h
    refine h.app 5 0 ⟨_, rfl, rfl⟩ (h.rd (k := 0) (i := 0) ⟨_, rfl, rfl⟩) one_slice (by simp only [maxLen]; omega) (by first | omega | (dsimp only; omega)) ?_
    intro s5 w l5 h
    try dsimp only at l5
    dsimp only [updG, setO] at h
    have h := h.drop 0
    dsimp only [delO] at h
    repeat (first | (with_reducible refine NilP.mk ?_) | ((with_reducible refine RunN.isLoad ?_); (first | refine h.loadB 0 0 ⟨_, rfl, rfl⟩ rfl rfl ?_ | refine h.loadB 1 0 ⟨_, rfl, rfl⟩ rfl rfl ?_ | refine h.drew.loadB 0 0 ⟨_, rfl, rfl⟩ rfl rfl ?_ | refine h.drew.loadB 1 0 ⟨_, rfl, rfl⟩ rfl rfl ?_)) | ((with_reducible refine ReadN.isLoad ?_); (first | refine h.readB 0 0 ⟨_, rfl, rfl⟩ rfl rfl ?_ | refine h.readB 1 0 ⟨_, rfl, rfl⟩ rfl rfl ?_ | refine h.drew.readB 0 0 ⟨_, rfl, rfl⟩ rfl rfl ?_ | refine h.drew.readB 1 0 ⟨_, rfl, rfl⟩ rfl rfl ?_)) | ((with_reducible refine StillV.isLoad ?_); (first | refine ⟨h.stillB 0 0 ⟨_, rfl, rfl⟩ rfl rfl, ?_⟩ | refine ⟨h.stillB 1 0 ⟨_, rfl, rfl⟩ rfl rfl, ?_⟩)) | ((with_reducible refine RunU.isStor ?_); (first | (refine h.storB 0 0 ⟨_, rfl, rfl⟩ rfl rfl rfl ?_; intro w h; dsimp only [updG, setO] at h) | (refine h.storB 1 0 ⟨_, rfl, rfl⟩ rfl rfl rfl ?_; intro w h; dsimp only [updG, setO] at h) | (refine h.drew.storB 0 0 ⟨_, rfl, rfl⟩ rfl rfl rfl ?_; intro w h; dsimp only [updG, setO] at h) | (refine h.drew.storB 1 0 ⟨_, rfl, rfl⟩ rfl rfl rfl ?_; intro w h; dsimp only [updG, setO] at h))) | ((with_reducible refine RunN.isBox ?_); (first | (refine h.newB run_boxA rfl ?_; intro bn w h; try dsimp only at h) | (refine h.drew.newB run_boxA rfl ?_; intro bn w h; try dsimp only at h))) | ((with_reducible refine RunN.isNew ?_); (first | (refine h.newB (NewC.run _) rfl ?_; intro bn w h) | (refine h.drew.newB (NewC.run _) rfl ?_; intro bn w h))))
    repeat (first | (with_reducible refine NilP.mk ?_) | ((with_reducible refine RunN.isLoad ?_); (first | refine h.loadB 0 0 ⟨_, rfl, rfl⟩ rfl rfl ?_ | refine h.loadB 1 0 ⟨_, rfl, rfl⟩ rfl rfl ?_ | refine h.drew.loadB 0 0 ⟨_, rfl, rfl⟩ rfl rfl ?_ | refine h.drew.loadB 1 0 ⟨_, rfl, rfl⟩ rfl rfl ?_)) | ((with_reducible refine ReadN.isLoad ?_); (first | refine h.readB 0 0 ⟨_, rfl, rfl⟩ rfl rfl ?_ | refine h.readB 1 0 ⟨_, rfl, rfl⟩ rfl rfl ?_ | refine h.drew.readB 0 0 ⟨_, rfl, rfl⟩ rfl rfl ?_ | refine h.drew.readB 1 0 ⟨_, rfl, rfl⟩ rfl rfl ?_)) | ((with_reducible refine StillV.isLoad ?_); (first | refine ⟨h.stillB 0 0 ⟨_, rfl, rfl⟩ rfl rfl, ?_⟩ | refine ⟨h.stillB 1 0 ⟨_, rfl, rfl⟩ rfl rfl, ?_⟩)) | ((with_reducible refine RunU.isStor ?_); (first | (refine h.storB 0 0 ⟨_, rfl, rfl⟩ rfl rfl rfl ?_; intro w h; dsimp only [updG, setO] at h) | (refine h.storB 1 0 ⟨_, rfl, rfl⟩ rfl rfl rfl ?_; intro w h; dsimp only [updG, setO] at h) | (refine h.drew.storB 0 0 ⟨_, rfl, rfl⟩ rfl rfl rfl ?_; intro w h; dsimp only [updG, setO] at h) | (refine h.drew.storB 1 0 ⟨_, rfl, rfl⟩ rfl rfl rfl ?_; intro w h; dsimp only [updG, setO] at h))) | ((with_reducible refine RunN.isBox ?_); (first | (refine h.newB run_boxA rfl ?_; intro bn w h; try dsimp only at h) | (refine h.drew.newB run_boxA rfl ?_; intro bn w h; try dsimp only at h))) | ((with_reducible refine RunN.isNew ?_); (first | (refine h.newB (NewC.run _) rfl ?_; intro bn w h) | (refine h.drew.newB (NewC.run _) rfl ?_; intro bn w h))))
    refine str_ro (h.drew.rd (k := 0) (i := 0) ⟨_, rfl, rfl⟩) ?_
    refine h.drew.newS 1 (bs62 _ _) rfl rfl rfl ?_
    intro s6 w m1 m2 _ h
    refine ⟨h.stillB 2 0 ⟨_, rfl, rfl⟩ rfl rfl, ?_⟩
    refine h.app 7 0 ⟨_, rfl, rfl⟩ (h.rd (k := 0) (i := 0) ⟨_, rfl, rfl⟩) one_str (by simp only [maxLen]; omega) (by first | omega | (dsimp only; omega)) ?_
    intro s7 w l7 h
    try dsimp only at l7
    dsimp only [updG, setO] at h
    have h := h.drop 0
    dsimp only [delO] at h
    repeat (first | (with_reducible refine NilP.mk ?_) | ((with_reducible refine RunN.isLoad ?_); (first | refine h.loadB 0 0 ⟨_, rfl, rfl⟩ rfl rfl ?_ | refine h.loadB 1 0 ⟨_, rfl, rfl⟩ rfl rfl ?_ | refine h.drew.loadB 0 0 ⟨_, rfl, rfl⟩ rfl rfl ?_ | refine h.drew.loadB 1 0 ⟨_, rfl, rfl⟩ rfl rfl ?_)) | ((with_reducible refine ReadN.isLoad ?_); (first | refine h.readB 0 0 ⟨_, rfl, rfl⟩ rfl rfl ?_ | refine h.readB 1 0 ⟨_, rfl, rfl⟩ rfl rfl ?_ | refine h.drew.readB 0 0 ⟨_, rfl, rfl⟩ rfl rfl ?_ | refine h.drew.readB 1 0 ⟨_, rfl, rfl⟩ rfl rfl ?_)) | ((with_reducible refine StillV.isLoad ?_); (first | refine ⟨h.stillB 0 0 ⟨_, rfl, rfl⟩ rfl rfl, ?_⟩ | refine ⟨h.stillB 1 0 ⟨_, rfl, rfl⟩ rfl rfl, ?_⟩)) | ((with_reducible refine RunU.isStor ?_); (first | (refine h.storB 0 0 ⟨_, rfl, rfl⟩ rfl rfl rfl ?_; intro w h; dsimp only [updG, setO] at h) | (refine h.storB 1 0 ⟨_, rfl, rfl⟩ rfl rfl rfl ?_; intro w h; dsimp only [updG, setO] at h) | (refine h.drew.storB 0 0 ⟨_, rfl, rfl⟩ rfl rfl rfl ?_; intro w h; dsimp only [updG, setO] at h) | (refine h.drew.storB 1 0 ⟨_, rfl, rfl⟩ rfl rfl rfl ?_; intro w h; dsimp only [updG, setO] at h))) | ((with_reducible refine RunN.isBox ?_); (first | (refine h.newB run_boxA rfl ?_; intro bn w h; try dsimp only at h) | (refine h.drew.newB run_boxA rfl ?_; intro bn w h; try dsimp only at h))) | ((with_reducible refine RunN.isNew ?_); (first | (refine h.newB (NewC.run _) rfl ?_; intro bn w h) | (refine h.drew.newB (NewC.run _) rfl ?_; intro bn w h))))
    have h := (((h.bring 5 rfl).bring 1 rfl).into).back 4
    dsimp only [insO, delO] at h
    rw [← lsl_snoc _ (b, l1), ← lst_snoc _ (b, l1)] at h
    have e0 : List.map (brw 5) p.bs ++ [Ent.row 5 1 b (bys l1)] = (p.bs ++ [(b, l1)]).map (brw 5) := by simp [brw]
    rw [e0] at h
    have hbl2 : ∀ x ∈ p.bs ++ [(b, l1)], x.2.length ≤ 134217728 := by
      intro x hx
      rcases List.mem_append.1 hx with hx | hx
      · exact ok.bl x hx
      · simp at hx; subst hx; dsimp only; omega
    rw [SplitB_iff]
    refine ⟨fun hc => ?_, fun hc => ?_⟩
    · have hc : p.bs.length = 4 := by have := of_decide_eq_true hc; omega
      repeat (first | (with_reducible refine NilP.mk ?_) | ((with_reducible refine RunN.isLoad ?_); (first | refine h.loadB 0 0 ⟨_, rfl, rfl⟩ rfl rfl ?_ | refine h.drew.loadB 0 0 ⟨_, rfl, rfl⟩ rfl rfl ?_)) | ((with_reducible refine ReadN.isLoad ?_); (first | refine h.readB 0 0 ⟨_, rfl, rfl⟩ rfl rfl ?_ | refine h.drew.readB 0 0 ⟨_, rfl, rfl⟩ rfl rfl ?_)) | ((with_reducible refine StillV.isLoad ?_); (first | refine ⟨h.stillB 0 0 ⟨_, rfl, rfl⟩ rfl rfl, ?_⟩)) | ((with_reducible refine RunU.isStor ?_); (first | (refine h.storB 0 0 ⟨_, rfl, rfl⟩ rfl rfl rfl ?_; intro w h; dsimp only [updG, setO] at h) | (refine h.drew.storB 0 0 ⟨_, rfl, rfl⟩ rfl rfl rfl ?_; intro w h; dsimp only [updG, setO] at h))) | ((with_reducible refine RunN.isBox ?_); (first | (refine h.newB run_boxA rfl ?_; intro bn w h; try dsimp only at h) | (refine h.drew.newB run_boxA rfl ?_; intro bn w h; try dsimp only at h))) | ((with_reducible refine RunN.isNew ?_); (first | (refine h.newB (NewC.run _) rfl ?_; intro bn w h) | (refine h.drew.newB (NewC.run _) rfl ?_; intro bn w h))))
      refine RunN.sL 1 rfl (by omega) ?_
      repeat (first | (with_reducible refine NilP.mk ?_) | ((with_reducible refine RunN.isLoad ?_); (first | refine h.loadB 0 0 ⟨_, rfl, rfl⟩ rfl rfl ?_ | refine h.drew.loadB 0 0 ⟨_, rfl, rfl⟩ rfl rfl ?_)) | ((with_reducible refine ReadN.isLoad ?_); (first | refine h.readB 0 0 ⟨_, rfl, rfl⟩ rfl rfl ?_ | refine h.drew.readB 0 0 ⟨_, rfl, rfl⟩ rfl rfl ?_)) | ((with_reducible refine StillV.isLoad ?_); (first | refine ⟨h.stillB 0 0 ⟨_, rfl, rfl⟩ rfl rfl, ?_⟩)) | ((with_reducible refine RunU.isStor ?_); (first | (refine h.storB 0 0 ⟨_, rfl, rfl⟩ rfl rfl rfl ?_; intro w h; dsimp only [updG, setO] at h) | (refine h.drew.storB 0 0 ⟨_, rfl, rfl⟩ rfl rfl rfl ?_; intro w h; dsimp only [updG, setO] at h))) | ((with_reducible refine RunN.isBox ?_); (first | (refine h.newB run_boxA rfl ?_; intro bn w h; try dsimp only at h) | (refine h.drew.newB run_boxA rfl ?_; intro bn w h; try dsimp only at h))) | ((with_reducible refine RunN.isNew ?_); (first | (refine h.newB (NewC.run _) rfl ?_; intro bn w h) | (refine h.drew.newB (NewC.run _) rfl ?_; intro bn w h))))
      refine RunN.sL 1 rfl (by omega) ?_
      repeat (first | (with_reducible refine NilP.mk ?_) | ((with_reducible refine RunN.isLoad ?_); (first | refine h.loadB 0 0 ⟨_, rfl, rfl⟩ rfl rfl ?_ | refine h.drew.loadB 0 0 ⟨_, rfl, rfl⟩ rfl rfl ?_)) | ((with_reducible refine ReadN.isLoad ?_); (first | refine h.readB 0 0 ⟨_, rfl, rfl⟩ rfl rfl ?_ | refine h.drew.readB 0 0 ⟨_, rfl, rfl⟩ rfl rfl ?_)) | ((with_reducible refine StillV.isLoad ?_); (first | refine ⟨h.stillB 0 0 ⟨_, rfl, rfl⟩ rfl rfl, ?_⟩)) | ((with_reducible refine RunU.isStor ?_); (first | (refine h.storB 0 0 ⟨_, rfl, rfl⟩ rfl rfl rfl ?_; intro w h; dsimp only [updG, setO] at h) | (refine h.drew.storB 0 0 ⟨_, rfl, rfl⟩ rfl rfl rfl ?_; intro w h; dsimp only [updG, setO] at h))) | ((with_reducible refine RunN.isBox ?_); (first | (refine h.newB run_boxA rfl ?_; intro bn w h; try dsimp only at h) | (refine h.drew.newB run_boxA rfl ?_; intro bn w h; try dsimp only at h))) | ((with_reducible refine RunN.isNew ?_); (first | (refine h.newB (NewC.run _) rfl ?_; intro bn w h) | (refine h.drew.newB (NewC.run _) rfl ?_; intro bn w h))))
      obtain ⟨y, r, hy⟩ : ∃ y r, p.bs = y :: r := by
        cases hp : p.bs with
        | nil => rw [hp] at hc; simp at hc
        | cons y r => exact ⟨y, r, rfl⟩
      have h := h.sufR (k := 3) (i := 0) ⟨_, rfl, rfl⟩ (lo := 1) (by omega)
      dsimp only [updG, setO] at h
      have h := h.sufR (k := 5) (i := 0) ⟨_, rfl, rfl⟩ (lo := 1) (by omega)
      dsimp only [updG, setO] at h
      rw [hy] at h
      have h := St.one.1 (h.bring 4 rfl)
      have h := (h.drop 0).back 4
      dsimp only [delO, insO] at h
      have e4 : (lsl (y :: r ++ [(b, l1)])).drop (1 * 1) = lsl (r ++ [(b, l1)]) := by rw [lsl_drop]; rfl
      have e5 : (lst (y :: r ++ [(b, l1)])).drop (1 * 1) = lst (r ++ [(b, l1)]) := by rw [lst_drop]; rfl
      rw [e4, e5] at h
      rw [hy] at hbl2 hc
      refine ⟨{ p with mark := p.mark + 1, sb := subS s5 1 s5.len 1, bs := r ++ [(b, l1)], sh := subS s7 1 s7.len 1 }, ⟨rfl, rfl, rfl, rfl, rfl, rfl⟩, ?_, h⟩
      refine { (ok.mono (Nat.le_succ N)) with b4 := by dsimp only; simp at hc ⊢; omega, bl := fun x hx => hbl2 x (List.mem_cons_of_mem _ hx), mark := by dsimp only; omega }
    · have hc : p.bs.length ≤ 3 := by have := of_decide_eq_false hc; omega
      refine ⟨{ p with mark := p.mark + 1, sb := s5, bs := p.bs ++ [(b, l1)], sh := s7 }, ⟨rfl, rfl, rfl, rfl, rfl, rfl⟩, ?_, h⟩
      exact { (ok.mono (Nat.le_succ N)) with b4 := by dsimp only; simp; omega, bl := hbl2, mark := by dsimp only; omega }
end Go.Proofs.Ytpdaoahamgegoaa
