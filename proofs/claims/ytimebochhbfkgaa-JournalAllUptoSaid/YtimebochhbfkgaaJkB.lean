/- The disk, in memory of one's own: what its methods come to. -/
import Derived.Test.YtimebochhbfkgaaJkA
namespace Go.Proofs.Ytimebochhbfkgaa
open Go Go.Fw Go.RowKit
set_option linter.unusedVariables false
set_option linter.unusedSimpArgs false
set_option maxRecDepth 4000

/-- A disk in memory. -/
structure D where
  b : Nat
  s : Sl
  secs : List (Option (Nat × List UInt8))
  off : Bool
  armed : Bool
  after : Int
  torn : Int
  wr : Int
  tr : List Int
def secp : Option (Nat × List UInt8) → Option Addr
  | none => none
  | some x => some ⟨x.1, 0, none⟩
def secv (o : Option (Nat × List UInt8)) : Value := .pointer (secp o)
def sesl (b : Nat) : Sl := ⟨some ⟨b, 0, none⟩, 512, 512⟩
def sece : Option (Nat × List UInt8) → Ent
  | none => .ro ⟨none, 0, 0⟩ 1 []
  | some x => .row 102 1 (sesl x.1) (bys x.2)
def cont : Option (Nat × List UInt8) → List UInt8
  | none => List.replicate 512 0
  | some x => x.2
def dcel (d : D) : List Value := [.slice d.s.a d.s.len d.s.cap, .bool d.off, .bool d.armed, .int .i64 d.after, .int .i64 d.torn, .int .i64 d.wr] ++ d.tr.map (.int .i64 ·)
def dg (d : D) : List Ent := .cel d.b 77 (dcel d) :: .row 97 1 d.s (d.secs.map secv) :: d.secs.map sece
@[reducible] def D.p (d : D) : Option Addr := some ⟨d.b, 0, none⟩
structure DOk (d : D) : Prop where
  tr : d.tr.length = 64
  full : ∀ x, some x ∈ d.secs → x.2.length = 512
  small : d.secs.length ≤ 65536
  w0 : 0 ≤ d.wr
  torn : 0 ≤ d.torn ∧ d.torn ≤ 512
  after : d.armed = true → 0 ≤ d.after ∧ d.after ≤ 9223372036854775807
/-- What a disk comes to. -/
structure A where
  ims : List (List UInt8)
  off : Bool
  armed : Bool
  after : Int
  torn : Int
  wr : Int
  tr : List Int
def D.abs (d : D) : A := ⟨d.secs.map cont, d.off, d.armed, d.after, d.torn, d.wr, d.tr⟩
def A.reach (a : A) (n : Int) : Int := if a.off then 200 else if 0 ≤ n ∧ n < a.ims.length then 0 else 201
def A.wrote (a : A) (n : Int) (c : List UInt8) : Int × A :=
  if a.armed = true ∧ a.after = 0 then
    (200, { a with tr := a.tr.set (a.wr.toNat % 64) n, wr := a.wr + 1, ims := a.ims.set n.toNat (c.take a.torn.toNat ++ (a.ims.getD n.toNat []).drop a.torn.toNat), off := true, armed := false })
  else (0, { a with tr := a.tr.set (a.wr.toNat % 64) n, wr := a.wr + 1, ims := a.ims.set n.toNat c, after := if a.armed then a.after - 1 else a.after })
def A.write (a : A) (n : Int) (c : List UInt8) : Int × A :=
  if a.reach n ≠ 0 then (a.reach n, a) else if c.length ≠ 512 then (1, a) else a.wrote n c
theorem cont_len {d : D} (ok : DOk d) {n : Nat} (hn : n < d.secs.length) : (cont d.secs[n]).length = 512 := by
  cases hs : d.secs[n] with
  | none => simp [cont]
  | some x => exact ok.full x (hs ▸ List.getElem_mem _)

variable {w0 w : World} {F G : Grps} {d : D}
theorem ros (n : Nat) (h : St w0 w G) : St w0 w (List.replicate n (Ent.ro ⟨none, 0, 0⟩ 1 []) :: G) := by
  induction n with
  | zero => exact St.empty.2 h
  | succ n ih => exact St.one.2 (ih.new (Upd.refl _ _) ⟨⟨fun b hb => by simp [Sl.blk] at hb, Rd.nil _ _⟩, by simp [Ent.vals]⟩ fun j hj => by simp [Ent.blk, Sl.blk] at hj)
theorem dg_len (h : St w0 w (dg d :: F)) : d.s.len = d.secs.length := by
  have := (h.rd (k := 0) (i := 1) ⟨_, rfl, rfl⟩).1
  rw [List.length_map] at this; omega
/-- A new disk. -/
def fresh (b : Nat) (s : Sl) (n : Nat) : D := ⟨b, s, List.replicate n none, false, false, 0, 0, 0, List.replicate 64 0⟩
theorem fresh_ok (b : Nat) (s : Sl) {n : Nat} (hn : n ≤ 65536) : DOk (fresh b s n) :=
  ⟨by simp [fresh], fun x hx => by simp [fresh, List.mem_replicate] at hx, by simpa [fresh] using hn, Int.le_refl _, ⟨by simp [fresh], by simp [fresh]⟩, fun h => by simp [fresh] at h⟩
theorem new_st (h : St w0 w F) {n : Nat} (h1 : 1 ≤ n) (h2 : n ≤ 65536) : CallK Try.prog (.tup (.cons .ptr (.cons (.int .i64) .nilT))) 10 #[.int .i64 (n : Int)] w fun (r : Option Addr × Int × Unit) w' =>
    ∃ b s, r = (some ⟨b, 0, none⟩, 0, ()) ∧ St w0 w' (dg (fresh b s n) :: F) := by
  refine T10.calls ?_
  unfold T10
  refine JoinX.mk (fun j w' => j.1 = false ∧ St w0 w' F) ?_ ?_
  · rintro ⟨_, ⟨⟩⟩ w ⟨hj, h⟩
    dsimp only at hj h ⊢
    subst hj
    rw [SplitB_iff]
    refine ⟨(fun hz => by cases hz), fun _ => ?_⟩
    have h := ros n h
    refine h.makeN (.pointer none) (by kernel_rfl) rfl n rfl rfl (by omega) (by omega) ?_
    intro s w hl hc h
    refine RunN.of (kd := .raw) (build77 _ _ _ _) ?_
    have h := St.one.2 h
    refine h.newB run_boxA (by rfl) ?_
    intro b w h
    have h := St.one.2 h
    refine ⟨b, s, rfl, ?_⟩
    have e1 : List.replicate n (Value.pointer none) = (List.replicate n none).map secv := by rw [List.map_replicate]; rfl
    have e2 : List.replicate n (Ent.ro ⟨none, 0, 0⟩ 1 []) = (List.replicate n none).map sece := by rw [List.map_replicate]; rfl
    rw [e1, e2] at h
    exact h
  · intro k hk
    rw [SplitB_iff]
    refine ⟨fun hz => ?_, fun hz => ?_⟩
    · have := of_decide_eq_true hz; omega
    · refine hk _ _ ⟨?_, h⟩
      dsimp only
      exact decide_eq_false (by omega)
theorem reach_st (h : St w0 w (dg d :: F)) (n : Int) : CallK Try.prog (.int .i64) 55 #[.pointer d.p, .int .i64 n] w fun (r : Int) w' => r = d.abs.reach n ∧ St w0 w' (dg d :: F) := by
  have hl := dg_len h
  refine T55.calls ?_
  unfold T55
  repeat (first | (with_reducible refine NilP.mk ?_) | ((with_reducible refine RunN.isLoad ?_); (first | refine h.loadB 0 0 ⟨_, rfl, rfl⟩ rfl rfl ?_ | refine h.drew.loadB 0 0 ⟨_, rfl, rfl⟩ rfl rfl ?_)) | ((with_reducible refine ReadN.isLoad ?_); (first | refine h.readB 0 0 ⟨_, rfl, rfl⟩ rfl rfl ?_ | refine h.drew.readB 0 0 ⟨_, rfl, rfl⟩ rfl rfl ?_)) | ((with_reducible refine StillV.isLoad ?_); (first | refine ⟨h.stillB 0 0 ⟨_, rfl, rfl⟩ rfl rfl, ?_⟩)) | ((with_reducible refine RunU.isStor ?_); (first | (refine h.storB 0 0 ⟨_, rfl, rfl⟩ rfl rfl rfl ?_; intro w h; dsimp only [updG, setO] at h) | (refine h.drew.storB 0 0 ⟨_, rfl, rfl⟩ rfl rfl rfl ?_; intro w h; dsimp only [updG, setO] at h))) | ((with_reducible refine RunN.isBox ?_); (first | (refine h.newB run_boxA rfl ?_; intro bn w h; try dsimp only at h) | (refine h.drew.newB run_boxA rfl ?_; intro bn w h; try dsimp only at h))) | ((with_reducible refine RunN.isNew ?_); (first | (refine h.newB (NewC.run _) rfl ?_; intro bn w h) | (refine h.drew.newB (NewC.run _) rfl ?_; intro bn w h))))
  rw [SplitB_iff]
  refine ⟨fun hz => ?_, fun hz => ?_⟩
  · exact ⟨by simp [A.reach, D.abs, hz], h⟩
  · refine JoinX.mk (fun j w' => j.1 = decide (¬ (0 ≤ n ∧ n < d.secs.length)) ∧ St w0 w' (dg d :: F)) ?_ ?_
    · rintro ⟨_, ⟨⟩⟩ w ⟨hj, h⟩
      dsimp only at hj h ⊢
      subst hj
      rw [SplitB_iff]
      refine ⟨fun hy => ⟨?_, h⟩, fun hy => ⟨?_, h⟩⟩
      · have hy := of_decide_eq_true hy
        simp [A.reach, D.abs, hz, hy]
      · have hy := of_decide_eq_false hy
        simp at hy
        simp [A.reach, D.abs, hz, hy]
    · intro k hk
      rw [SplitB_iff]
      refine ⟨fun hy => ?_, fun hy => ?_⟩
      · have hy := of_decide_eq_true hy
        exact hk _ _ ⟨(decide_eq_true (by omega)).symm, h⟩
      · have hy := of_decide_eq_false hy
        repeat (first | (with_reducible refine NilP.mk ?_) | ((with_reducible refine RunN.isLoad ?_); (first | refine h.loadB 0 0 ⟨_, rfl, rfl⟩ rfl rfl ?_ | refine h.drew.loadB 0 0 ⟨_, rfl, rfl⟩ rfl rfl ?_)) | ((with_reducible refine ReadN.isLoad ?_); (first | refine h.readB 0 0 ⟨_, rfl, rfl⟩ rfl rfl ?_ | refine h.drew.readB 0 0 ⟨_, rfl, rfl⟩ rfl rfl ?_)) | ((with_reducible refine StillV.isLoad ?_); (first | refine ⟨h.stillB 0 0 ⟨_, rfl, rfl⟩ rfl rfl, ?_⟩)) | ((with_reducible refine RunU.isStor ?_); (first | (refine h.storB 0 0 ⟨_, rfl, rfl⟩ rfl rfl rfl ?_; intro w h; dsimp only [updG, setO] at h) | (refine h.drew.storB 0 0 ⟨_, rfl, rfl⟩ rfl rfl rfl ?_; intro w h; dsimp only [updG, setO] at h))) | ((with_reducible refine RunN.isBox ?_); (first | (refine h.newB run_boxA rfl ?_; intro bn w h; try dsimp only at h) | (refine h.drew.newB run_boxA rfl ?_; intro bn w h; try dsimp only at h))) | ((with_reducible refine RunN.isNew ?_); (first | (refine h.newB (NewC.run _) rfl ?_; intro bn w h) | (refine h.drew.newB (NewC.run _) rfl ?_; intro bn w h))))
        refine hk _ _ ⟨?_, h⟩
        dsimp only
        rw [hl]
        exact decide_eq_decide.2 (by omega)
theorem sec_at {n : Nat} (hn : n < d.secs.length) : (d.secs.map secv)[n * 1]? = some (Value.pointer (secp d.secs[n])) := by
  rw [Nat.mul_one]; simp [hn, secv]
/-- The sector's own bytes. -/
theorem own_st (h : St w0 w (dg d :: F)) {n : Nat} (hn : n < d.secs.length) : CallK Try.prog .sl 56 #[.pointer d.p, .int .i64 (n : Int)] w fun (r : Sl) w' =>
    ∃ x : Nat × List UInt8, r = sesl x.1 ∧ x.2 = cont d.secs[n] ∧ St w0 w' (dg { d with secs := d.secs.set n (some x) } :: F) := by
  have hl := dg_len h
  refine T56.calls ?_
  unfold T56
  refine JoinX.mk (fun _ w' => ∃ x : Nat × List UInt8, x.2 = cont d.secs[n] ∧ St w0 w' (dg { d with secs := d.secs.set n (some x) } :: F)) ?_ ?_
  · rintro ⟨⟩ w ⟨x, hx, h⟩
    repeat (first | (with_reducible refine NilP.mk ?_) | ((with_reducible refine RunN.isLoad ?_); (first | refine h.loadB 0 0 ⟨_, rfl, rfl⟩ rfl rfl ?_ | refine h.drew.loadB 0 0 ⟨_, rfl, rfl⟩ rfl rfl ?_)) | ((with_reducible refine ReadN.isLoad ?_); (first | refine h.readB 0 0 ⟨_, rfl, rfl⟩ rfl rfl ?_ | refine h.drew.readB 0 0 ⟨_, rfl, rfl⟩ rfl rfl ?_)) | ((with_reducible refine StillV.isLoad ?_); (first | refine ⟨h.stillB 0 0 ⟨_, rfl, rfl⟩ rfl rfl, ?_⟩)) | ((with_reducible refine RunU.isStor ?_); (first | (refine h.storB 0 0 ⟨_, rfl, rfl⟩ rfl rfl rfl ?_; intro w h; dsimp only [updG, setO] at h) | (refine h.drew.storB 0 0 ⟨_, rfl, rfl⟩ rfl rfl rfl ?_; intro w h; dsimp only [updG, setO] at h))) | ((with_reducible refine RunN.isBox ?_); (first | (refine h.newB run_boxA rfl ?_; intro bn w h; try dsimp only at h) | (refine h.drew.newB run_boxA rfl ?_; intro bn w h; try dsimp only at h))) | ((with_reducible refine RunN.isNew ?_); (first | (refine h.newB (NewC.run _) rfl ?_; intro bn w h) | (refine h.drew.newB (NewC.run _) rfl ?_; intro bn w h))))
    refine (h.rd (k := 0) (i := 1) ⟨_, rfl, rfl⟩).idxK n rfl (by dsimp only; omega) ?_
    intro b o hb
    refine (h.rd (k := 0) (i := 1) ⟨_, rfl, rfl⟩).el hb (n * 1) rfl (kd := .ptr) (x := some ⟨x.1, 0, none⟩) (by rw [sec_at (d := { d with secs := d.secs.set n (some x) }) (by simpa using hn)]; simp [secp, Kd.val]) ?_
    refine NilP.mk ?_
    refine RunN.arrS rfl ?_
    exact ⟨x, rfl, hx, h⟩
  · intro k hk
    repeat (first | (with_reducible refine NilP.mk ?_) | ((with_reducible refine RunN.isLoad ?_); (first | refine h.loadB 0 0 ⟨_, rfl, rfl⟩ rfl rfl ?_ | refine h.drew.loadB 0 0 ⟨_, rfl, rfl⟩ rfl rfl ?_)) | ((with_reducible refine ReadN.isLoad ?_); (first | refine h.readB 0 0 ⟨_, rfl, rfl⟩ rfl rfl ?_ | refine h.drew.readB 0 0 ⟨_, rfl, rfl⟩ rfl rfl ?_)) | ((with_reducible refine StillV.isLoad ?_); (first | refine ⟨h.stillB 0 0 ⟨_, rfl, rfl⟩ rfl rfl, ?_⟩)) | ((with_reducible refine RunU.isStor ?_); (first | (refine h.storB 0 0 ⟨_, rfl, rfl⟩ rfl rfl rfl ?_; intro w h; dsimp only [updG, setO] at h) | (refine h.drew.storB 0 0 ⟨_, rfl, rfl⟩ rfl rfl rfl ?_; intro w h; dsimp only [updG, setO] at h))) | ((with_reducible refine RunN.isBox ?_); (first | (refine h.newB run_boxA rfl ?_; intro bn w h; try dsimp only at h) | (refine h.drew.newB run_boxA rfl ?_; intro bn w h; try dsimp only at h))) | ((with_reducible refine RunN.isNew ?_); (first | (refine h.newB (NewC.run _) rfl ?_; intro bn w h) | (refine h.drew.newB (NewC.run _) rfl ?_; intro bn w h))))
    refine (h.rd (k := 0) (i := 1) ⟨_, rfl, rfl⟩).idxK n rfl (by omega) ?_
    intro b o hb
    refine (h.rd (k := 0) (i := 1) ⟨_, rfl, rfl⟩).el hb (n * 1) rfl (kd := .ptr) (x := secp d.secs[n]) (sec_at hn) ?_
    cases hs : d.secs[n] with
    | none =>
      dsimp only [secp]
      refine RunN.pEqN ?_
      rw [SplitB_iff]
      refine ⟨fun _ => ?_, (fun hz => by cases hz)⟩
      repeat (first | (with_reducible refine NilP.mk ?_) | ((with_reducible refine RunN.isLoad ?_); (first | refine h.loadB 0 0 ⟨_, rfl, rfl⟩ rfl rfl ?_ | refine h.drew.loadB 0 0 ⟨_, rfl, rfl⟩ rfl rfl ?_)) | ((with_reducible refine ReadN.isLoad ?_); (first | refine h.readB 0 0 ⟨_, rfl, rfl⟩ rfl rfl ?_ | refine h.drew.readB 0 0 ⟨_, rfl, rfl⟩ rfl rfl ?_)) | ((with_reducible refine StillV.isLoad ?_); (first | refine ⟨h.stillB 0 0 ⟨_, rfl, rfl⟩ rfl rfl, ?_⟩)) | ((with_reducible refine RunU.isStor ?_); (first | (refine h.storB 0 0 ⟨_, rfl, rfl⟩ rfl rfl rfl ?_; intro w h; dsimp only [updG, setO] at h) | (refine h.drew.storB 0 0 ⟨_, rfl, rfl⟩ rfl rfl rfl ?_; intro w h; dsimp only [updG, setO] at h))) | ((with_reducible refine RunN.isBox ?_); (first | (refine h.newB run_boxA rfl ?_; intro bn w h; try dsimp only at h) | (refine h.drew.newB run_boxA rfl ?_; intro bn w h; try dsimp only at h))) | ((with_reducible refine RunN.isNew ?_); (first | (refine h.newB (NewC.run _) rfl ?_; intro bn w h) | (refine h.drew.newB (NewC.run _) rfl ?_; intro bn w h))))
      refine RunN.of (kd := .raw) (build102 _) ?_
      refine h.newB run_boxA (by rfl) ?_
      intro bn w h
      have h := h.celRow (n := 512) (by simp) (by decide)
      refine (h.rd (k := 1) (i := 1) ⟨_, rfl, rfl⟩).idxK n rfl (by omega) ?_
      intro b2 o2 hb2
      refine h.storR 1 1 ⟨_, rfl, rfl⟩ hb2 n (by rw [Nat.mul_one]) (by simpa using hn) rfl ?_
      intro w h
      dsimp only [updG, setO, dg] at h
      have h := h.plug (i := n + 2) (d := .ro ⟨none, 0, 0⟩ 1 []) (by
        show nthO (d.secs.map sece) n = _
        rw [nthO_map sece d.secs hn, hs]; rfl)
      dsimp only [setO] at h
      refine hk _ _ ⟨(bn, List.replicate 512 0), by rw [hs]; rfl, ?_⟩
      have e1 : (d.secs.map secv).set n (Value.pointer (some ⟨bn, 0, none⟩)) = (d.secs.set n (some (bn, List.replicate 512 0))).map secv := by rw [List.map_set]; rfl
      have e2 : setO (d.secs.map sece) n (Ent.row 102 1 ⟨some ⟨bn, 0, none⟩, 512, 512⟩ (bys (List.replicate 512 0))) = (d.secs.set n (some (bn, List.replicate 512 0))).map sece := by rw [setO_set, List.map_set]; rfl
      rw [e1, e2] at h
      exact h
    | some x =>
      dsimp only [secp]
      refine RunN.pEqS ?_
      rw [SplitB_iff]
      refine ⟨fun hz => (by cases hz), fun _ => ?_⟩
      have e : d.secs.set n (some x) = d.secs := by rw [← hs]; exact List.set_getElem_self hn
      refine hk _ _ ⟨x, by rw [hs]; rfl, ?_⟩
      rw [e]; exact h
end Go.Proofs.Ytimebochhbfkgaa
