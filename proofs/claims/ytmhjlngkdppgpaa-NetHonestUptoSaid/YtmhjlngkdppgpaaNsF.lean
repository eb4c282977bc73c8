/- The pair of a law: both bags, what was answered, what was lent. -/
import Derived.Test.YtmhjlngkdppgpaaNsE
namespace Go.Proofs.Ytmhjlngkdppgpaa
open Go Go.Fw Go.RowKit
set_option linter.unusedVariables false
set_option linter.unusedSimpArgs false
set_option maxRecDepth 4000
set_option maxHeartbeats 1000000

instance : PtE Try.prog 23 := ⟨fun _ _ _ _ => by kernel_rfl, fun _ _ _ => by kernel_rfl, fun _ _ _ _ => by kernel_rfl, fun _ _ _ => by kernel_rfl⟩
instance : PtE Try.prog 57 := ⟨fun _ _ _ _ => by kernel_rfl, fun _ _ _ => by kernel_rfl, fun _ _ _ _ => by kernel_rfl, fun _ _ _ => by kernel_rfl⟩
instance : PtE Try.prog 44 := ⟨fun _ _ _ _ => by kernel_rfl, fun _ _ _ => by kernel_rfl, fun _ _ _ _ => by kernel_rfl, fun _ _ _ => by kernel_rfl⟩
@[reducible] def slv (s : Sl) : Value := .slice s.a s.len s.cap
def brow (x : Sl × List UInt8) : Ent := .row 5 1 x.1 (bys x.2)
structure Pr where
  Q : Nat
  B : Nat
  R : Nat
  cap : Int
  sB : Sl
  xB : List (Ltr × Sl)
  sR : Sl
  xR : List (Ltr × Sl)
  sb : Sl
  bs : List (Sl × List UInt8)
  mark : Nat
  sm : Sl
  ms : List Int
  sl : Sl
  lent : List UInt8
  sf : Sl
  fs : List (Sl × List UInt8)
  sw : Sl
  turns : Nat
  size : Nat
@[reducible] def Pr.cel (p : Pr) : Ent := .cel p.Q 64 [.pointer (some ⟨p.B, 0, none⟩), .pointer (some ⟨p.R, 0, none⟩), .slice p.sb.a p.sb.len p.sb.cap, .int .i64 (p.mark : Int), .slice p.sm.a p.sm.len p.sm.cap, .slice p.sl.a p.sl.len p.sl.cap,
  .slice p.sf.a p.sf.len p.sf.cap, .slice p.sw.a p.sw.len p.sw.cap, .int .i64 (p.turns : Int), .int .i64 (p.size : Int)]
def sls (l : List (Sl × List UInt8)) : List Value := l.map fun x => slv x.1
def strs (l : List (Sl × List UInt8)) : List Value := l.map fun x => .string ⟨x.2.toArray⟩
def nums (l : List Int) : List Value := l.map fun x => .int .i64 x
@[reducible] def Pr.gs' (p : Pr) (c : Ent) (g4 : List Ent) (F : Grps) : Grps :=
  [c] :: bagG 54 p.B p.cap p.sB p.xB :: bagG 72 p.R p.cap p.sR p.xR :: [.row 29 1 p.sb (sls p.bs)] :: g4 :: [.row 3 1 p.sm (nums p.ms)] :: [.row 5 1 p.sl (bys p.lent)] :: [.row 29 1 p.sf (sls p.fs)] :: p.fs.map brow :: [.row 9 1 p.sw (strs p.fs)] :: F
@[reducible] def Pr.gs (p : Pr) (F : Grps) : Grps := p.gs' p.cel (p.bs.map brow) F
def mega : Nat := 1048576
structure Pr.Ok (p : Pr) (n : Nat) : Prop where
  same : p.xB.map (·.1) = p.xR.map (·.1)
  cap1 : 1 ≤ p.cap
  cap2 : p.cap ≤ 1024
  fit : (p.xB.length : Int) ≤ p.cap
  lens : ∀ x ∈ p.xB, x.1.m.length ≤ mega
  bl : p.bs.length = p.ms.length
  b6 : p.bs.length ≤ 6
  bm : ∀ (i : Nat) (x : Sl × List UInt8) (m : Int), p.bs[i]? = some x → p.ms[i]? = some m → ∀ b ∈ x.2, (b.toNat : Int) = IntKind.u8.wrap m
  tn : p.turns ≤ n
  mrk : p.mark ≤ n
  fl : p.fs.length ≤ n
  sz : p.size ≤ 4194304
  ln : p.lent.length ≤ mega + 2
  fsl : ∀ x ∈ p.fs, x.2.length ≤ mega
theorem Pr.Ok.len {p : Pr} {n : Nat} (h : p.Ok n) : p.xR.length = p.xB.length := by have := congrArg List.length h.same; simpa using this.symm
theorem Pr.Ok.small {p : Pr} {n : Nat} (h : p.Ok n) : p.xB.length ≤ 65536 := by have := h.fit; have := h.cap2; omega
theorem Pr.Ok.lensR {p : Pr} {n : Nat} (h : p.Ok n) : ∀ x ∈ p.xR, x.1.m.length ≤ mega := by
  intro x hx
  have : x.1 ∈ p.xB.map (·.1) := by rw [h.same]; exact List.mem_map.2 ⟨x, hx, rfl⟩
  obtain ⟨y, hy, e⟩ := List.mem_map.1 this
  rw [← e]; exact h.lens y hy
theorem Pr.Ok.mono {p : Pr} {n m : Nat} (h : p.Ok n) (hnm : n ≤ m) : p.Ok m :=
  { h with tn := Nat.le_trans h.tn hnm, mrk := Nat.le_trans h.mrk hnm, fl := Nat.le_trans h.fl hnm }

variable {w0 w : World} {F : Grps} {p : Pr} {n : Nat}
theorem sls_len (l : List (Sl × List UInt8)) : (sls l).length = l.length := by simp [sls]
theorem nums_len (l : List Int) : (nums l).length = l.length := by simp [nums]
theorem strs_len (l : List (Sl × List UInt8)) : (strs l).length = l.length := by simp [strs]
theorem sls_at {l : List (Sl × List UInt8)} {i : Nat} (h : i < l.length) : (sls l)[i]? = some (Value.slice l[i].1.a l[i].1.len l[i].1.cap) := by simp [sls, h]
theorem nums_at {l : List Int} {i : Nat} (h : i < l.length) : (nums l)[i]? = some (Value.int .i64 l[i]) := by simp [nums, h]
theorem strs_at {l : List (Sl × List UInt8)} {i : Nat} (h : i < l.length) : (strs l)[i]? = some (Value.string ⟨l[i].2.toArray⟩) := by simp [strs, h]
theorem brow_at {l : List (Sl × List UInt8)} {i : Nat} (h : i < l.length) : nthO (l.map brow) i = some (.row 5 1 l[i].1 (bys l[i].2)) := nthO_map brow l h
theorem gs_sb (h : St w0 w (p.gs F)) : p.sb.len = p.bs.length := by have := (h.rd (k := 3) (i := 0) ⟨_, rfl, rfl⟩).1; rw [sls_len] at this; omega
theorem gs_sm (h : St w0 w (p.gs F)) : p.sm.len = p.ms.length := by have := (h.rd (k := 5) (i := 0) ⟨_, rfl, rfl⟩).1; rw [nums_len] at this; omega
theorem gs_sl (h : St w0 w (p.gs F)) : p.sl.len = p.lent.length := by have := (h.rd (k := 6) (i := 0) ⟨_, rfl, rfl⟩).1; rw [bys_length] at this; omega
theorem gs_sf (h : St w0 w (p.gs F)) : p.sf.len = p.fs.length := by have := (h.rd (k := 7) (i := 0) ⟨_, rfl, rfl⟩).1; rw [sls_len] at this; omega
theorem gs_sw (h : St w0 w (p.gs F)) : p.sw.len = p.fs.length := by have := (h.rd (k := 9) (i := 0) ⟨_, rfl, rfl⟩).1; rw [strs_len] at this; omega

theorem bs60 (w : World) (s : Sl) : (Instr.buildSlice 60 1 #[(0, .slice s.a s.len s.cap)]).run Try.prog w = .ok (.slice (some ⟨w.heap.size, 0, none⟩) 1 1) (w.alloc (.cells ⟨[.slice s.a s.len s.cap]⟩ 29)) := by kernel_rfl
theorem bs61 (w : World) (x : Int) : (Instr.buildSlice 61 1 #[(0, .int .i64 x)]).run Try.prog w = .ok (.slice (some ⟨w.heap.size, 0, none⟩) 1 1) (w.alloc (.cells ⟨[.int .i64 x]⟩ 3)) := by kernel_rfl
theorem bs62 (w : World) (x : ByteArray) : (Instr.buildSlice 62 1 #[(0, .string x)]).run Try.prog w = .ok (.slice (some ⟨w.heap.size, 0, none⟩) 1 1) (w.alloc (.cells ⟨[.string x]⟩ 9)) := by kernel_rfl
theorem sls_snoc (l : List (Sl × List UInt8)) (x : Sl × List UInt8) : sls (l ++ [x]) = sls l ++ [.slice x.1.a x.1.len x.1.cap] := by simp [sls]
theorem strs_snoc (l : List (Sl × List UInt8)) (x : Sl × List UInt8) : strs (l ++ [x]) = strs l ++ [.string ⟨x.2.toArray⟩] := by simp [strs]
theorem nums_snoc (l : List Int) (x : Int) : nums (l ++ [x]) = nums l ++ [.int .i64 x] := by simp [nums]
theorem stands_st (h : St w0 w (p.gs F)) (ok : p.Ok n) : CallK Try.prog .bool 22 #[.pointer (some ⟨p.Q, 0, none⟩)] w fun (r : Bool) w' => r = true ∧ St w0 w' (p.gs F) := by
  refine T22.calls ?_
  unfold T22
  have h3 := gs_sb h
  have h5 := gs_sm h
  have hbl := ok.bl
  have h6 := ok.b6
  refine LoopX.mk (fun st w' => ∃ i : Nat, i ≤ p.bs.length ∧ st.1 = (i : Int) ∧ St w0 w' (p.gs F)) (fun st => p.bs.length - st.1.toNat) ⟨0, Nat.zero_le _, rfl, h⟩ ?_
  rintro ⟨i, ⟨⟩⟩ w ⟨i, hi, hii, h⟩ K hK
  dsimp only at hii h hK ⊢
  subst hii
  repeat (first | (with_reducible refine NilP.mk ?_) | ((with_reducible refine RunN.isLoad ?_); (first | refine h.loadB 0 0 ⟨_, rfl, rfl⟩ rfl rfl ?_ | refine h.drew.loadB 0 0 ⟨_, rfl, rfl⟩ rfl rfl ?_)) | ((with_reducible refine ReadN.isLoad ?_); (first | refine h.readB 0 0 ⟨_, rfl, rfl⟩ rfl rfl ?_ | refine h.drew.readB 0 0 ⟨_, rfl, rfl⟩ rfl rfl ?_)) | ((with_reducible refine StillV.isLoad ?_); (first | refine ⟨h.stillB 0 0 ⟨_, rfl, rfl⟩ rfl rfl, ?_⟩)) | ((with_reducible refine RunU.isStor ?_); (first | (refine h.storB 0 0 ⟨_, rfl, rfl⟩ rfl rfl rfl ?_; intro w h; dsimp only [updG, setO] at h) | (refine h.drew.storB 0 0 ⟨_, rfl, rfl⟩ rfl rfl rfl ?_; intro w h; dsimp only [updG, setO] at h))) | ((with_reducible refine RunN.isBox ?_); (first | (refine h.newB run_boxA rfl ?_; intro bn w h; try dsimp only at h) | (refine h.drew.newB run_boxA rfl ?_; intro bn w h; try dsimp only at h))) | ((with_reducible refine RunN.isNew ?_); (first | (refine h.newB (NewC.run _) rfl ?_; intro bn w h) | (refine h.drew.newB (NewC.run _) rfl ?_; intro bn w h))))
  rw [SplitB_iff]
  refine ⟨fun hc => ?_, fun hc => ?_⟩
  · have hc : i < p.bs.length := by have := of_decide_eq_true hc; omega
    have hxl := (h.rd (k := 4) (i := i) ⟨_, rfl, brow_at hc⟩).bys_len
    refine LoopX.mk (fun st w' => ∃ j : Nat, j ≤ p.bs[i].2.length ∧ st.1 = (j : Int) ∧ St w0 w' (p.gs F)) (fun st => p.bs[i].2.length - st.1.toNat) ⟨0, Nat.zero_le _, rfl, h⟩ ?_
    rintro ⟨j, ⟨⟩⟩ w ⟨j, hj, hjj, h⟩ K2 hK2
    dsimp only at hjj h hK2 ⊢
    subst hjj
    repeat (first | (with_reducible refine NilP.mk ?_) | ((with_reducible refine RunN.isLoad ?_); (first | refine h.loadB 0 0 ⟨_, rfl, rfl⟩ rfl rfl ?_ | refine h.drew.loadB 0 0 ⟨_, rfl, rfl⟩ rfl rfl ?_)) | ((with_reducible refine ReadN.isLoad ?_); (first | refine h.readB 0 0 ⟨_, rfl, rfl⟩ rfl rfl ?_ | refine h.drew.readB 0 0 ⟨_, rfl, rfl⟩ rfl rfl ?_)) | ((with_reducible refine StillV.isLoad ?_); (first | refine ⟨h.stillB 0 0 ⟨_, rfl, rfl⟩ rfl rfl, ?_⟩)) | ((with_reducible refine RunU.isStor ?_); (first | (refine h.storB 0 0 ⟨_, rfl, rfl⟩ rfl rfl rfl ?_; intro w h; dsimp only [updG, setO] at h) | (refine h.drew.storB 0 0 ⟨_, rfl, rfl⟩ rfl rfl rfl ?_; intro w h; dsimp only [updG, setO] at h))) | ((with_reducible refine RunN.isBox ?_); (first | (refine h.newB run_boxA rfl ?_; intro bn w h; try dsimp only at h) | (refine h.drew.newB run_boxA rfl ?_; intro bn w h; try dsimp only at h))) | ((with_reducible refine RunN.isNew ?_); (first | (refine h.newB (NewC.run _) rfl ?_; intro bn w h) | (refine h.drew.newB (NewC.run _) rfl ?_; intro bn w h))))
    refine (h.rd (k := 3) (i := 0) ⟨_, rfl, rfl⟩).idxK i rfl (by omega) ?_
    intro b o hb
    refine (h.rd (k := 3) (i := 0) ⟨_, rfl, rfl⟩).el hb (i * 1) rfl (kd := .sl) (x := p.bs[i].1) (by rw [Nat.mul_one]; exact sls_at hc) ?_
    rw [SplitB_iff]
    refine ⟨fun hd => ?_, fun hd => ?_⟩
    · have hd : j < p.bs[i].2.length := by have := of_decide_eq_true hd; omega
      have hmega : p.bs[i].2.length ≤ 9223372036854775807 := by
        rcases (h.ow (k := 4) (i := i) ⟨_, rfl, brow_at hc⟩).2 with h0 | ⟨_, _, _, _, _, _, h1, h2, _⟩
        · rw [h0] at hxl; dsimp only at hxl; omega
        · simp only [maxLen] at h2; omega
      repeat (first | (with_reducible refine NilP.mk ?_) | ((with_reducible refine RunN.isLoad ?_); (first | refine h.loadB 0 0 ⟨_, rfl, rfl⟩ rfl rfl ?_ | refine h.drew.loadB 0 0 ⟨_, rfl, rfl⟩ rfl rfl ?_)) | ((with_reducible refine ReadN.isLoad ?_); (first | refine h.readB 0 0 ⟨_, rfl, rfl⟩ rfl rfl ?_ | refine h.drew.readB 0 0 ⟨_, rfl, rfl⟩ rfl rfl ?_)) | ((with_reducible refine StillV.isLoad ?_); (first | refine ⟨h.stillB 0 0 ⟨_, rfl, rfl⟩ rfl rfl, ?_⟩)) | ((with_reducible refine RunU.isStor ?_); (first | (refine h.storB 0 0 ⟨_, rfl, rfl⟩ rfl rfl rfl ?_; intro w h; dsimp only [updG, setO] at h) | (refine h.drew.storB 0 0 ⟨_, rfl, rfl⟩ rfl rfl rfl ?_; intro w h; dsimp only [updG, setO] at h))) | ((with_reducible refine RunN.isBox ?_); (first | (refine h.newB run_boxA rfl ?_; intro bn w h; try dsimp only at h) | (refine h.drew.newB run_boxA rfl ?_; intro bn w h; try dsimp only at h))) | ((with_reducible refine RunN.isNew ?_); (first | (refine h.newB (NewC.run _) rfl ?_; intro bn w h) | (refine h.drew.newB (NewC.run _) rfl ?_; intro bn w h))))
      refine (h.drew.rd (k := 3) (i := 0) ⟨_, rfl, rfl⟩).idxR i rfl (by omega) ?_
      intro b1 o1 hb1
      refine (h.drew.rd (k := 3) (i := 0) ⟨_, rfl, rfl⟩).elR hb1 (i * 1) rfl (kd := .sl) (x := p.bs[i].1) (by rw [Nat.mul_one]; exact sls_at hc) ?_
      refine (h.drew.rd (k := 4) (i := i) ⟨_, rfl, brow_at hc⟩).idxR j rfl (by omega) ?_
      intro b2 o2 hb2
      refine (h.drew.rd (k := 4) (i := i) ⟨_, rfl, brow_at hc⟩).elR hb2 (j * 1) rfl (kd := .int .u8) (x := (p.bs[i].2[j].toNat : Int)) (by rw [Nat.mul_one]; exact bys_get hd) ?_
      repeat (first | (with_reducible refine NilP.mk ?_) | ((with_reducible refine RunN.isLoad ?_); (first | refine h.loadB 0 0 ⟨_, rfl, rfl⟩ rfl rfl ?_ | refine h.drew.loadB 0 0 ⟨_, rfl, rfl⟩ rfl rfl ?_)) | ((with_reducible refine ReadN.isLoad ?_); (first | refine h.readB 0 0 ⟨_, rfl, rfl⟩ rfl rfl ?_ | refine h.drew.readB 0 0 ⟨_, rfl, rfl⟩ rfl rfl ?_)) | ((with_reducible refine StillV.isLoad ?_); (first | refine ⟨h.stillB 0 0 ⟨_, rfl, rfl⟩ rfl rfl, ?_⟩)) | ((with_reducible refine RunU.isStor ?_); (first | (refine h.storB 0 0 ⟨_, rfl, rfl⟩ rfl rfl rfl ?_; intro w h; dsimp only [updG, setO] at h) | (refine h.drew.storB 0 0 ⟨_, rfl, rfl⟩ rfl rfl rfl ?_; intro w h; dsimp only [updG, setO] at h))) | ((with_reducible refine RunN.isBox ?_); (first | (refine h.newB run_boxA rfl ?_; intro bn w h; try dsimp only at h) | (refine h.drew.newB run_boxA rfl ?_; intro bn w h; try dsimp only at h))) | ((with_reducible refine RunN.isNew ?_); (first | (refine h.newB (NewC.run _) rfl ?_; intro bn w h) | (refine h.drew.newB (NewC.run _) rfl ?_; intro bn w h))))
      refine (h.drew.rd (k := 5) (i := 0) ⟨_, rfl, rfl⟩).idxR i rfl (by omega) ?_
      intro b3 o3 hb3
      refine (h.drew.rd (k := 5) (i := 0) ⟨_, rfl, rfl⟩).elR hb3 (i * 1) rfl (kd := .int .i64) (x := p.ms[i]'(by omega)) (by rw [Nat.mul_one]; exact nums_at (by omega)) ?_
      have he := ok.bm i p.bs[i] (p.ms[i]'(by omega)) (by simp [hc]) (by simp [show i < p.ms.length by omega]) p.bs[i].2[j] (List.getElem_mem _)
      rw [SplitB_iff]
      refine ⟨fun hz => ?_, fun hz => ?_⟩
      · rw [he] at hz; simp at hz
      · exact hK2 _ _ ⟨j + 1, hd, by dsimp only; rw [wr (by omega)]; omega, h.drew⟩ (by dsimp only; rw [wr (by omega)]; omega)
    · exact hK _ _ ⟨i + 1, hc, by dsimp only; rw [wr (by omega)]; omega, h⟩ (by dsimp only; rw [wr (by omega)]; omega)
  · exact ⟨rfl, h⟩

theorem num_st {x : Int} : CallK Try.prog (.int .i64) 9 #[.int .i64 x] w fun (r : Int) w' => w' = w ∧ r = x := T9.calls ⟨rfl, rfl⟩

theorem made_st (h : St w0 w F) {x : Int} : CallK Try.prog (.tup (.cons .ptr (.cons .bool .nilT))) 20 #[.int .i64 x] w fun (r : Option Addr × Bool × Unit) w' =>
    (1 ≤ x ∧ x ≤ 1024 ∧ ∃ p : Pr, p.Ok 0 ∧ p.cap = x ∧ p.xB = [] ∧ r = (some ⟨p.Q, 0, none⟩, true, ()) ∧ St w0 w' (p.gs F)) ∨ (¬ (1 ≤ x ∧ x ≤ 1024) ∧ r = (none, true, ()) ∧ St w0 w' F) := by
  refine T20.calls ?_
  unfold T20
  refine (new_st h (n := x)).mono ?_
  rintro r w (⟨h1, h2, B, rfl, h⟩ | ⟨hx, rfl, h⟩)
  · refine (rnew_st h (n := x)).mono ?_
    rintro r w (⟨_, _, R, rfl, h⟩ | ⟨hx, rfl, h⟩)
    · dsimp only [JoinX]
      refine num_st.mono ?_
      rintro r w ⟨rfl, rfl⟩
      rw [SplitB_iff]
      refine ⟨fun hc => ?_, fun hc => ?_⟩
      · simp at hc
      · skip
        first | refine RunN.pEqS ?_ | refine RunN.pEqN ?_ | refine RunN.pNeS ?_ | refine RunN.pNeN ?_
        first | refine RunN.pEqS ?_ | refine RunN.pEqN ?_ | refine RunN.pNeS ?_ | refine RunN.pNeN ?_
        rw [SplitB_iff]
        refine ⟨fun hc => ?_, fun hc => ?_⟩
        · simp at hc
        · skip
          first | refine RunN.pEqS ?_ | refine RunN.pEqN ?_ | refine RunN.pNeS ?_ | refine RunN.pNeN ?_
          rw [SplitB_iff]
          refine ⟨fun hc => ?_, fun hc => ?_⟩
          · simp at hc
          · skip
            first | refine RunN.pEqS ?_ | refine RunN.pEqN ?_ | refine RunN.pNeS ?_ | refine RunN.pNeN ?_
            rw [SplitB_iff]
            refine ⟨fun hc => ?_, fun hc => ?_⟩
            · simp at hc
            · skip
              first | refine h.newB run_boxA rfl ?_ | refine h.drew.newB run_boxA rfl ?_
              intro Q w h
              try dsimp only at h
              have h := (h.bring 2 rfl).back 1
              have h := (h.nilrow 29 1).back 3
              have h := (St.empty.2 h).back 4
              have h := (h.nilrow 3 1).back 5
              have h := (h.nilrow 5 1).back 6
              have h := (h.nilrow 29 1).back 7
              have h := (St.empty.2 h).back 8
              have h := (h.nilrow 9 1).back 9
              refine .inl ⟨h1, h2, ⟨Q, B, R, x, ⟨none, 0, 0⟩, [], ⟨none, 0, 0⟩, [], ⟨none, 0, 0⟩, [], 0, ⟨none, 0, 0⟩, [], ⟨none, 0, 0⟩, [], ⟨none, 0, 0⟩, [], ⟨none, 0, 0⟩, 0, 0⟩, ?_, rfl, rfl, rfl, ?_⟩
              · exact ⟨rfl, h1, h2, by simp; omega, by simp, rfl, by simp, by simp, by simp, by simp, by simp, by simp, by simp, by simp⟩
              · dsimp only [insO, delO] at h
                exact h
    · exact absurd ⟨h1, h2⟩ hx
  · refine (rnew_st h (n := x)).mono ?_
    rintro r w (⟨h1, h2, R, rfl, h⟩ | ⟨_, rfl, h⟩)
    · exact absurd ⟨h1, h2⟩ hx
    · dsimp only [JoinX]
      refine num_st.mono ?_
      rintro r w ⟨rfl, rfl⟩
      rw [SplitB_iff]
      refine ⟨fun hc => ?_, fun hc => ?_⟩
      · simp at hc
      · skip
        first | refine RunN.pEqS ?_ | refine RunN.pEqN ?_ | refine RunN.pNeS ?_ | refine RunN.pNeN ?_
        first | refine RunN.pEqS ?_ | refine RunN.pEqN ?_ | refine RunN.pNeS ?_ | refine RunN.pNeN ?_
        rw [SplitB_iff]
        refine ⟨fun hc => ?_, fun hc => ?_⟩
        · simp at hc
        · skip
          first | refine RunN.pEqS ?_ | refine RunN.pEqN ?_ | refine RunN.pNeS ?_ | refine RunN.pNeN ?_
          rw [SplitB_iff]
          refine ⟨fun hc => ?_, fun hc => ?_⟩
          · exact .inr ⟨hx, rfl, h⟩
          · simp at hc
end Go.Proofs.Ytmhjlngkdppgpaa
