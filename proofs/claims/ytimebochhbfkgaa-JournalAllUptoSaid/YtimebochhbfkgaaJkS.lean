/- The desk: a disk with a journal, and what the document says of both. -/
import Derived.Test.YtimebochhbfkgaaJkR
namespace Go.Proofs.Ytimebochhbfkgaa
open Go Go.Fw Go.RowKit
set_option linter.unusedVariables false
set_option linter.unusedSimpArgs false
set_option maxRecDepth 4000
set_option maxHeartbeats 2000000
variable {w0 w : World} {F G : Grps} {d : D} {j : J}
instance : Sc Try.prog 60 := ⟨by kernel_rfl⟩
instance : Sc Try.prog 62 := ⟨by kernel_rfl⟩
instance : PtE Try.prog 60 := ⟨fun _ _ _ _ => by kernel_rfl, fun _ _ _ => by kernel_rfl, fun _ _ _ _ => by kernel_rfl, fun _ _ _ => by kernel_rfl⟩

structure K where
  b : Nat
  dp : Option Addr
  jp : Option Addr
  im : Sl
  ims : List (List UInt8)
  on : Bool
  left : Int
  torn : Int
  hs : Sl
  H : List Bs
  next : Nat
  dead : Bool
  sp : Option Addr
def kcel (x : K) : List Value := [.pointer x.dp, .pointer x.jp, .slice x.im.a x.im.len x.im.cap, .bool x.on, .int .i64 x.left, .int .i64 x.torn, .slice x.hs.a x.hs.len x.hs.cap, .int .i64 (x.next : Int), .bool x.dead, .pointer x.sp]
def kg (x : K) : List Ent := .cel x.b 64 (kcel x) :: .row 5 1 x.im (bys x.ims.flatten) :: .row 31 1 x.hs (lsl x.H) :: x.H.map (brw 5)
@[reducible] def K.p (x : K) : Option Addr := some ⟨x.b, 0, none⟩
/-- The power, as the document counts it. -/
structure Pw (a : A) (ims : List (List UInt8)) (on : Bool) (left torn : Int) : Prop where
  hims : a.ims = ims
  hon : on = !a.off
  harmed : a.armed = decide (0 ≤ left)
  harm : 0 ≤ left → a.after = left ∧ a.torn = min (max torn 0) 512
  hleft : -1 ≤ left ∧ left ≤ 9223372036854775807
  hoff : on = false → left = -1
/-- What the desk has of the disk and the journal is so. -/
structure Rel (x : K) (d : D) (j : J) : Prop where
  ok : DOk d
  jok : JOk j d
  dp : x.dp = d.p
  jp : x.jp = j.p
  pw : Pw d.abs x.ims x.on x.left x.torn
  next : x.next = j.next
  dead : x.dead = j.dead
  H : x.H.map (·.2) = j.recs.map (·.2)
variable {x : K}
theorem Rel.len (r : Rel x d j) : x.ims.length = d.secs.length := by
  rw [← r.pw.hims]; simp [D.abs]
theorem Rel.l5 (r : Rel x d j) : ∀ s ∈ x.ims, s.length = 512 := by
  rw [← r.pw.hims]; exact ims_len r.ok

/-- One write, as the document says. -/
def wrot (ims : List (List UInt8)) (on : Bool) (left torn : Int) (n : Nat) (c : List UInt8) : List (List UInt8) × Bool × Int :=
  if left = 0 then (ims.set n (c.take (min (max torn 0) 512).toNat ++ (ims.getD n []).drop (min (max torn 0) 512).toNat), false, -1)
  else (ims.set n c, on, left - 1)
theorem Pw.write {a : A} {ims : List (List UInt8)} {on : Bool} {left torn : Int} (h : Pw a ims on left torn) (hon : on = true) {n : Nat} (hn : n < ims.length) {c : List UInt8} (hc : c.length = 512) :
    Pw (a.write n c).2 (wrot ims on left torn n c).1 (wrot ims on left torn n c).2.1 (max (wrot ims on left torn n c).2.2 (-1)) torn ∧ ((a.write n c).1 = 0 ↔ (wrot ims on left torn n c).2.1 = true) := by
  have hoff : a.off = false := by have := h.hon; rw [hon] at this; simpa using this.symm
  have hreach : a.reach n = 0 := by
    have := h.hims
    simp [A.reach, hoff, this, hn]
  have hwr : a.write n c = a.wrote n c := by
    unfold A.write
    rw [if_neg (fun h => h hreach), if_neg (fun h => h hc)]
  rw [hwr]
  have hl := h.hleft
  by_cases h0 : left = 0
  · have hp : a.armed = true ∧ a.after = 0 := by
      refine ⟨?_, ?_⟩
      · rw [h.harmed]; simp [h0]
      · rw [(h.harm (by omega)).1]; exact h0
    have ht := (h.harm (by omega)).2
    have e : a.wrote n c = (200, { a with tr := a.tr.set (a.wr.toNat % 64) n, wr := a.wr + 1, ims := a.ims.set n (c.take a.torn.toNat ++ (a.ims.getD n []).drop a.torn.toNat), off := true, armed := false }) := by
      unfold A.wrote
      rw [if_pos hp]; rfl
    rw [e]
    simp only [wrot, if_pos h0]
    refine ⟨⟨?_, rfl, ?_, ?_, by omega, fun _ => by omega⟩, by simp⟩
    · dsimp only; rw [h.hims, ht]
    · simp
    · intro h; simp at h
  · have hp : ¬ (a.armed = true ∧ a.after = 0) := by
      rintro ⟨h1, h2⟩
      rw [h.harmed] at h1
      have := (h.harm (of_decide_eq_true h1)).1
      omega
    have e : a.wrote n c = (0, { a with tr := a.tr.set (a.wr.toNat % 64) n, wr := a.wr + 1, ims := a.ims.set n c, after := if a.armed then a.after - 1 else a.after }) := by
      unfold A.wrote
      rw [if_neg hp]; rfl
    rw [e]
    simp only [wrot, if_neg h0]
    refine ⟨⟨?_, h.hon, ?_, ?_, by omega, fun h => by rw [hon] at h; cases h⟩, by simp [hon]⟩
    · dsimp only; rw [h.hims]
    · dsimp only; rw [h.harmed]; exact decide_eq_decide.2 (by omega)
    · intro hle
      have h1 : 0 ≤ left := by omega
      have h2 := h.harm h1
      dsimp only
      rw [h.harmed, if_pos (by simpa using h1), h2.1]
      exact ⟨by omega, h2.2⟩

theorem flat_set {l : List (List UInt8)} (h : ∀ x ∈ l, x.length = 512) {n i : Nat} (hn : n < l.length) (hi : i < 512) (v : UInt8) : l.flatten.set (512 * n + i) v = (l.set n (l[n].set i v)).flatten := by
  induction l generalizing n with
  | nil => simp at hn
  | cons x r ih =>
    have hx := h x (List.mem_cons_self ..)
    cases n with
    | zero =>
      simp only [Nat.mul_zero, Nat.zero_add, List.flatten_cons, List.getElem_cons_zero, List.set_cons_zero]
      rw [List.set_append, if_pos (by omega)]
    | succ n =>
      simp only [List.length_cons] at hn
      simp only [List.flatten_cons, List.getElem_cons_succ, List.set_cons_succ]
      rw [List.set_append, if_neg (by omega), ← ih (fun y hy => h y (List.mem_cons_of_mem _ hy)) (by omega)]
      congr 2; omega
theorem set_step (o c : List UInt8) {i : Nat} (hi : i < c.length) (hl : o.length = c.length) : (c.take i ++ o.drop i).set i c[i] = c.take (i + 1) ++ o.drop (i + 1) := by
  have h1 : (c.take i).length = i := by simp; omega
  rw [List.set_append, if_neg (by omega), h1, Nat.sub_self, List.drop_eq_getElem_cons (by omega), List.set_cons_zero, List.take_succ_eq_append_getElem hi, List.append_assoc]
  rfl

/-- The document's write. -/
theorem written_st (h : St w0 w (kg x :: G)) (h5 : ∀ s ∈ x.ims, s.length = 512) {p : Sl} {c : List UInt8} (hp : SeesG w0 G p 1 (bys c)) (hc : c.length = 512) {n : Nat} (hn : n < x.ims.length) (hsm : x.ims.length ≤ 65536) (hl : -1 ≤ x.left ∧ x.left ≤ 9223372036854775807) :
    CallK Try.prog .bool 58 #[.pointer x.p, .int .i64 (n : Int), .slice p.a p.len p.cap] w fun (r : Bool) w' =>
      r = (wrot x.ims x.on x.left x.torn n c).2.1 ∧ St w0 w' (kg { x with ims := (wrot x.ims x.on x.left x.torn n c).1, on := (wrot x.ims x.on x.left x.torn n c).2.1, left := (wrot x.ims x.on x.left x.torn n c).2.2 } :: G) := by
  have hn5 := h5 _ (List.getElem_mem hn)
  have hfl := len_flat h5
  have hpl := (hp _ (h.drop 0)).bys_len
  have hgd : x.ims.getD n [] = x.ims[n] := by simp [List.getD_eq_getElem?_getD, hn]
  refine T58.calls ?_
  unfold T58
  refine JoinX.mk (fun jv w' => ∃ (m : Nat) (on : Bool), jv.1 = (m : Int) ∧ m ≤ 512 ∧ wrot x.ims x.on x.left x.torn n c = (x.ims.set n (c.take m ++ x.ims[n].drop m), on, x.left - 1) ∧ St w0 w' (kg { x with on := on } :: G)) ?_ ?_
  · rintro ⟨_, ⟨⟩⟩ w ⟨m, on, rfl, hm, hwr, h⟩
    rw [hwr]
    dsimp only at h ⊢
    refine LoopX.mk (fun st w' => ∃ i : Nat, st.1 = (i : Int) ∧ i ≤ m ∧ St w0 w' (kg { x with on := on, ims := x.ims.set n (c.take i ++ x.ims[n].drop i) } :: G)) (fun st => m - st.1.toNat) ⟨0, rfl, Nat.zero_le _, by simpa using h⟩ ?_
    clear h
    rintro ⟨_, ⟨⟩⟩ w ⟨i, rfl, hi, h⟩ K hK
    dsimp only at h hK ⊢
    rw [SplitB_iff]
    refine ⟨fun hz => ?_, fun hz => ?_⟩
    · have hz : i < m := by have := of_decide_eq_true hz; omega
      try (with_reducible refine NilP.mk ?_)
      refine h.drew.readB 0 0 ⟨_, rfl, rfl⟩ rfl rfl ?_
      have hpr := hp _ (h.drew.drop 0)
      refine hpr.idxR i rfl (by omega) ?_
      intro b1 o1 hb1
      refine hpr.elR hb1 (i * 1) rfl (kd := .int .u8) (x := ((c[i]'(by omega)).toNat : Int)) (by rw [Nat.mul_one, bys_get (by omega)]; rfl) ?_
      rw [wr (x := (n : Int) * 512) (by omega), wr (x := (n : Int) * 512 + i) (by omega)]
      have hl5 : ∀ s ∈ x.ims.set n (c.take i ++ x.ims[n].drop i), s.length = 512 := by
        intro s hs
        rcases List.mem_or_eq_of_mem_set hs with hs | hs
        · exact h5 s hs
        · subst hs; simp; omega
      have hil := (h.drew.rd (k := 0) (i := 1) ⟨_, rfl, rfl⟩).bys_len
      dsimp only at hil
      rw [len_flat hl5, List.length_set] at hil
      refine (h.drew.rd (k := 0) (i := 1) ⟨_, rfl, rfl⟩).idxR (512 * n + i) (by omega) (by dsimp only; omega) ?_
      intro b2 o2 hb2
      refine h.drew.storR 0 1 ⟨_, rfl, rfl⟩ hb2 (512 * n + i) (by rw [Nat.mul_one]) (by rw [bys_length, len_flat hl5, List.length_set]; omega) rfl ?_
      intro w h
      dsimp only [updG, setO, kg] at h
      have e1 : (bys (x.ims.set n (c.take i ++ x.ims[n].drop i)).flatten).set (512 * n + i) (.int .u8 ((c[i]'(by omega)).toNat : Int)) = bys (x.ims.set n (c.take (i + 1) ++ x.ims[n].drop (i + 1))).flatten := by
        have := bys_set (x.ims.set n (c.take i ++ x.ims[n].drop i)).flatten (512 * n + i) (c[i]'(by omega))
        rw [show Value.int .u8 ((c[i]'(by omega)).toNat : Int) = u8v (c[i]'(by omega)) from rfl, this, flat_set hl5 (by simpa using hn) (by omega)]
        simp only [List.getElem_set_self, List.set_set]
        rw [set_step _ _ (by omega) (by omega)]
      rw [e1] at h
      exact hK _ _ ⟨i + 1, by dsimp only; rw [wr (by omega)]; omega, hz, h⟩ (by dsimp only; rw [wr (by omega)]; omega)
    · have hz : i = m := by have := of_decide_eq_false hz; omega
      subst hz
      try (with_reducible refine NilP.mk ?_)
      refine h.loadB 0 0 ⟨_, rfl, rfl⟩ rfl rfl ?_
      try (with_reducible refine NilP.mk ?_)
      refine h.storB 0 0 ⟨_, rfl, rfl⟩ rfl rfl rfl ?_
      intro w h
      dsimp only [updG, setO, kg] at h
      rw [wr (by omega)] at h
      try (with_reducible refine NilP.mk ?_)
      refine h.loadB 0 0 ⟨_, rfl, rfl⟩ rfl rfl ?_
      exact ⟨rfl, h⟩
  · intro k hk
    try (with_reducible refine NilP.mk ?_)
    refine h.loadB 0 0 ⟨_, rfl, rfl⟩ rfl rfl ?_
    rw [SplitB_iff]
    refine ⟨fun hz => ?_, fun hz => ?_⟩
    · have hz : x.left = 0 := by simpa using hz
      try (with_reducible refine NilP.mk ?_)
      refine h.loadB 0 0 ⟨_, rfl, rfl⟩ rfl rfl ?_
      refine RunN.of (kd := .int .i64) (max_i _ _ _) ?_
      refine RunN.of (kd := .int .i64) (min_i _ _ _) ?_
      try (with_reducible refine NilP.mk ?_)
      refine h.storB 0 0 ⟨_, rfl, rfl⟩ rfl rfl rfl ?_
      intro w h
      refine hk _ _ ⟨(min (max x.torn 0) 512).toNat, false, by dsimp only; omega, by omega, ?_, h⟩
      unfold wrot
      rw [if_pos hz, hgd, hz]; rfl
    · have hz : x.left ≠ 0 := by simpa using hz
      refine hk _ _ ⟨512, x.on, by dsimp only; rw [hpl, hc], by omega, ?_, h⟩
      unfold wrot
      rw [if_neg hz, List.take_of_length_le (by omega), List.drop_of_length_le (by omega), List.append_nil]
end Go.Proofs.Ytimebochhbfkgaa
