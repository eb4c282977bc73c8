/- The cache: New and Pending. -/
import Derived.Test.YtbdhmeefjlkdcaaCkH
namespace Go.Proofs.Ytbdhmeefjlkdcaa
open Go Go.Fw Go.RowKit
set_option linter.unusedVariables false
set_option linter.unusedSimpArgs false
set_option maxRecDepth 4000
set_option maxHeartbeats 2000000
variable {w0 w : World} {F G : Grps}

def ses0 (b : Nat) : Ses := ⟨b, 0, ⟨none, 0, 0⟩, [], List.replicate 16 zrp, 0⟩
theorem build68 (w : World) : (Instr.build 68 #[]).run Try.prog w = .ok (.agg ⟨sesC (ses0 0)⟩) w := by kernel_rfl
theorem bs60 (w : World) (x y : Int) : (Instr.buildSlice 60 1 #[(0, .agg #[.int .i64 x, .int .i64 y])]).run Try.prog w = .ok (.slice (some ⟨w.heap.size, 0, none⟩) 1 1) (w.alloc (.cells ⟨[.int .i64 x, .int .i64 y]⟩ 32)) := by kernel_rfl
def newE (me reps sess room : Int) : Int := if reps < 2 ∨ reps > 16 then 1 else if sess < 1 ∨ sess > 64 ∨ room < 1 ∨ room > 16 then 1 else if me < 0 ∨ me ≥ reps then 3 else 0
theorem ses0_w {b room N : Nat} : SesW room N (ses0 b) := by
  refine ⟨⟨by simp [ses0], by simp [ses0], by simp [ses0, ids]⟩, by simp [ses0], by simp [ses0], by simp [ses0], by simp [ses0], by simp [ses0]⟩
theorem m2none {cb mb m rp sn rm : Nat} {ss : List Ses} (hlt : ∀ i, i < ss.length → m + i * rp < sn) (hr : 2 ≤ rp) : m2get (ccM ⟨cb, mb, m, rp, sn, rm, ss⟩) ((m : Int), ((m + ss.length * rp : Nat) : Int)) = none := by
  refine ccM_none (c := ⟨cb, mb, m, rp, sn, rm, ss⟩) fun j hj => ?_
  have h1 : j < ss.length := hj.1
  have h2 : ((m + ss.length * rp : Nat) : Int) = ((m + j * rp : Nat) : Int) := hj.2
  have h3 : (j + 1) * rp ≤ ss.length * rp := Nat.mul_le_mul_right _ h1
  rw [Nat.add_mul, Nat.one_mul] at h3
  omega
theorem new_st (me reps sess room : Int) : CallK Try.prog (.tup (.cons .ptr (.cons (.int .i64) .nilT))) 15 #[.int .i64 me, .int .i64 reps, .int .i64 sess, .int .i64 room] w fun (r : Option Addr × Int × Unit) w' =>
    (newE me reps sess room ≠ 0 ∧ r = (none, newE me reps sess room, ()) ∧ w' = w) ∨
    (newE me reps sess room = 0 ∧ ∃ c : Cc, r = (c.p, 0, ()) ∧ (c.me : Int) = me ∧ (c.reps : Int) = reps ∧ (c.sess : Int) = sess ∧ (c.room : Int) = room ∧ c.wf 0 ∧ (∀ s ∈ c.ss, s.V = ⟨0, [], []⟩) ∧ St w w' (ccG c [])) := by
  refine T15.calls ?_
  unfold T15
  refine JoinX.mk (fun (y : Bool × Unit) w' => w' = w ∧ y.1 = decide (reps < 2 ∨ reps > 16)) ?_ ?_
  · rintro ⟨y, ⟨⟩⟩ w1 ⟨rfl, hy⟩
    dsimp only at hy
    subst hy
    rw [SplitB_iff]
    refine ⟨fun h1 => ?_, fun h1 => ?_⟩
    · have h1 : reps < 2 ∨ reps > 16 := of_decide_eq_true h1
      have e : newE me reps sess room = 1 := if_pos h1
      exact .inl ⟨by rw [e]; decide, by rw [e], rfl⟩
    have h1 : ¬ (reps < 2 ∨ reps > 16) := of_decide_eq_false h1
    refine JoinX.mk (fun (y : Bool × Unit) w' => w' = w1 ∧ y.1 = decide (sess < 1 ∨ sess > 64 ∨ room < 1 ∨ room > 16)) ?_ ?_
    · rintro ⟨y, ⟨⟩⟩ w2 ⟨rfl, hy⟩
      dsimp only at hy
      subst hy
      rw [SplitB_iff]
      refine ⟨fun h2 => ?_, fun h2 => ?_⟩
      · have h2 : sess < 1 ∨ sess > 64 ∨ room < 1 ∨ room > 16 := of_decide_eq_true h2
        have e : newE me reps sess room = 1 := (if_neg h1).trans (if_pos h2)
        exact .inl ⟨by rw [e]; decide, by rw [e], rfl⟩
      have h2 : ¬ (sess < 1 ∨ sess > 64 ∨ room < 1 ∨ room > 16) := of_decide_eq_false h2
      refine JoinX.mk (fun (y : Bool × Unit) w' => w' = w2 ∧ y.1 = decide (me < 0 ∨ me ≥ reps)) ?_ ?_
      · rintro ⟨y, ⟨⟩⟩ w3 ⟨rfl, hy⟩
        dsimp only at hy
        subst hy
        rw [SplitB_iff]
        refine ⟨fun h3 => ?_, fun h3 => ?_⟩
        · have h3 : me < 0 ∨ me ≥ reps := of_decide_eq_true h3
          have e : newE me reps sess room = 3 := (if_neg h1).trans ((if_neg h2).trans (if_pos h3))
          exact .inl ⟨by rw [e]; decide, by rw [e], rfl⟩
        have h3 : ¬ (me < 0 ∨ me ≥ reps) := of_decide_eq_false h3
        have e : newE me reps sess room = 0 := (if_neg h1).trans ((if_neg h2).trans (if_neg h3))
        obtain ⟨m, hm⟩ := Int.eq_ofNat_of_zero_le (show 0 ≤ me by omega)
        obtain ⟨rp, hrp⟩ := Int.eq_ofNat_of_zero_le (show 0 ≤ reps by omega)
        obtain ⟨sn, hsn⟩ := Int.eq_ofNat_of_zero_le (show 0 ≤ sess by omega)
        obtain ⟨rm, hrm⟩ := Int.eq_ofNat_of_zero_le (show 0 ≤ room by omega)
        subst hm; subst hrp; subst hsn; subst hrm
        have h := St.init w3
        refine h.newMap ?_
        intro mb w4 h
        refine h.newB run_boxA rfl ?_
        intro cb w5 h
        have h : St w3 w5 (ccG ⟨cb, mb, m, rp, sn, rm, []⟩ []) := h.perm (by simp [ccG, ccM, ccC])
        refine LoopX.mk (fun st w' => ∃ ss : List Ses, st = (((m + ss.length * rp : Nat) : Int), ()) ∧ (∀ i, i < ss.length → m + i * rp < sn) ∧ ss.length ≤ 64 ∧ (∀ s ∈ ss, ∃ b, s = ses0 b) ∧ St w3 w' (ccG ⟨cb, mb, m, rp, sn, rm, ss⟩ [])) (fun st => ((sn : Int) - st.1).toNat) ⟨[], by simp, fun i hi => by simp at hi, by simp, fun s hs => by simp at hs, h⟩ ?_
        clear h
        rintro _ w6 ⟨ss, rfl, hlt, h64, hz, h⟩ k hk
        dsimp only at hk ⊢
        have hmul : ∀ i, i ≤ 64 → i * rp ≤ 1024 := fun i hi => Nat.le_trans (Nat.mul_le_mul hi (show rp ≤ 16 by omega)) (by decide)
        have hm1 := hmul _ h64
        rw [SplitB_iff]
        refine ⟨fun hc => ?_, fun hc => ?_⟩
        · have hc : m + ss.length * rp < sn := by have : ((m + ss.length * rp : Nat) : Int) < (sn : Int) := of_decide_eq_true hc; omega
          have hl63 : ss.length < 64 := by
            have := Nat.le_mul_of_pos_right ss.length (show 0 < rp by omega)
            omega
          refine h.loadB 0 0 ⟨_, rfl, rfl⟩ rfl (kd := .map) (x := some mb) rfl ?_
          refine RunN.of (kd := .raw) (build68 _) ?_
          refine h.newB run_boxA rfl ?_
          intro b w7 h
          refine h.mapPut 1 1 ⟨_, rfl, rfl⟩ map62 (m2none hlt (by omega)) ?_
          intro w8 h
          have h := h.nilrow 3 1
          have e2 : ccM ⟨cb, mb, m, rp, sn, rm, ss ++ [ses0 b]⟩ = ccM ⟨cb, mb, m, rp, sn, rm, ss⟩ ++ [(((m : Int), ((m + ss.length * rp : Nat) : Int)), .pointer (some ⟨b, 0, none⟩))] := by
            simp [ccM, List.zipIdx_append, ses0]
          have h := (h.ord 5 [0, 4, 1, 2, 3]).into
          have h := (h.ord 4 [1, 3, 2, 0]).into
          have h := h.ord 3 [1, 0, 2]
          have h : St w3 w8 (ccG ⟨cb, mb, m, rp, sn, rm, ss ++ [ses0 b]⟩ []) := by
            have e3 : ccG ⟨cb, mb, m, rp, sn, rm, ss ++ [ses0 b]⟩ [] = [[.cel cb 64 (ccC ⟨cb, mb, m, rp, sn, rm, ss⟩), .obj mb (m2o (ccM ⟨cb, mb, m, rp, sn, rm, ss⟩ ++ [(((m : Int), ((m + ss.length * rp : Nat) : Int)), .pointer (some ⟨b, 0, none⟩))]))], ss.map sesE ++ [.cel b 68 (sesC (ses0 0))], ss.map sesR ++ [.row 3 1 ⟨none, 0, 0⟩ []]] := by
              rw [ccG, e2, List.map_append, List.map_append]; rfl
            rw [e3]; exact h
          have e4 : IntKind.i64.wrap (((m + ss.length * rp : Nat) : Int) + (rp : Int)) = ((m + (ss ++ [ses0 b]).length * rp : Nat) : Int) := by
            rw [wr (by omega), List.length_append, List.length_cons, List.length_nil, Nat.zero_add, Nat.add_mul, Nat.one_mul]; omega
          rw [e4]
          refine hk _ _ ⟨ss ++ [ses0 b], rfl, fun i hi => ?_, by simp; omega, fun s hs => ?_, h⟩ ?_
          · rw [List.length_append, List.length_cons, List.length_nil] at hi
            rcases Nat.lt_or_ge i ss.length with h4 | h4
            · exact hlt i h4
            · have : i = ss.length := by omega
              subst this; exact hc
          · rcases List.mem_append.1 hs with hs | hs
            · exact hz s hs
            · simp at hs; exact ⟨b, hs⟩
          · rw [List.length_append, List.length_cons, List.length_nil, Nat.zero_add, Nat.add_mul, Nat.one_mul]
            dsimp only; omega
        · have hc : sn ≤ m + ss.length * rp := by have : ¬ ((m + ss.length * rp : Nat) : Int) < (sn : Int) := of_decide_eq_false hc; omega
          refine .inr ⟨e, ⟨cb, mb, m, rp, sn, rm, ss⟩, rfl, rfl, rfl, rfl, rfl, ⟨by dsimp only; omega, by dsimp only; omega, by dsimp only; omega, by dsimp only; omega, fun j => ⟨hlt j, fun hj => ?_⟩, fun s hs => ?_⟩, fun s hs => ?_, h⟩
          · rcases Nat.lt_or_ge j ss.length with h4 | h4
            · exact h4
            · have := Nat.mul_le_mul_right rp h4
              dsimp only at hj
              omega
          · obtain ⟨b, rfl⟩ := hz s hs
            exact ses0_w
          · obtain ⟨b, rfl⟩ := hz s hs
            rfl
      · intro k hk
        rw [SplitB_iff]
        refine ⟨fun hc => ?_, fun hc => ?_⟩
        · have hc : me < 0 := of_decide_eq_true hc
          exact hk _ _ ⟨rfl, by simp [hc]⟩
        · have hc : ¬ me < 0 := of_decide_eq_false hc
          exact hk _ _ ⟨rfl, by simp [hc]⟩
    · intro k hk
      rw [SplitB_iff]
      refine ⟨fun hc => ?_, fun hc => ?_⟩
      · have hc : sess < 1 := of_decide_eq_true hc
        exact hk _ _ ⟨rfl, by simp [hc]⟩
      have hc : ¬ sess < 1 := of_decide_eq_false hc
      rw [SplitB_iff]
      refine ⟨fun hd => ?_, fun hd => ?_⟩
      · have hd : sess > 64 := of_decide_eq_true hd
        exact hk _ _ ⟨rfl, by simp [hd]⟩
      have hd : ¬ sess > 64 := of_decide_eq_false hd
      rw [SplitB_iff]
      refine ⟨fun he => ?_, fun he => ?_⟩
      · have he : room < 1 := of_decide_eq_true he
        exact hk _ _ ⟨rfl, by simp [he]⟩
      have he : ¬ room < 1 := of_decide_eq_false he
      exact hk _ _ ⟨rfl, by simp [hc, hd, he]⟩
  · intro k hk
    rw [SplitB_iff]
    refine ⟨fun hc => ?_, fun hc => ?_⟩
    · have hc : reps < 2 := of_decide_eq_true hc
      exact hk _ _ ⟨rfl, by simp [hc]⟩
    · have hc : ¬ reps < 2 := of_decide_eq_false hc
      exact hk _ _ ⟨rfl, by simp [hc]⟩
end Go.Proofs.Ytbdhmeefjlkdcaa
