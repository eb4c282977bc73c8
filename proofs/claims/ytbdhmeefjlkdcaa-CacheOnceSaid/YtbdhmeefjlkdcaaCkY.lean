/- The pair: made, alive. -/
import Derived.Test.YtbdhmeefjlkdcaaCkX
namespace Go.Proofs.Ytbdhmeefjlkdcaa
open Go Go.Fw Go.RowKit
set_option linter.unusedVariables false
set_option linter.unusedSimpArgs false
set_option maxRecDepth 4000
set_option maxHeartbeats 4000000
variable {w0 w : World} {F G : Grps}

theorem zip_rows : ∀ l : List (Sl × Sl × List Cl), (l.map fun x => Ent.row 32 2 x.2.1 (clvs x.2.2)) = List.zipWith (fun (y : Sl) (x : Sl × List Cl) => Ent.row 32 2 y (clvs x.2)) (l.map (·.2.1)) (l.map fun x => (x.1, x.2.2))
  | [] => rfl
  | x :: l => by simp only [List.map_cons, List.zipWith_cons_cons, zip_rows l]
theorem apart_st {c : Cc} {r : Rc} {p : Po} {N : Nat} (h : St w0 w (prG c r p F)) (hpo : PoW N p) (hN : N ≤ 100000) : CallK Try.prog .bool 14 #[.pointer p.p] w fun (v : Bool) w' => v = true ∧ St w0 w' F := by
  have h : St w0 w (poG c.p r.p p (ccG c (rcG r F))) := h.ord 8 [4, 5, 6, 7, 0, 1, 2, 3]
  have h := St.one.1 h
  have h := (h.ord 2 [1, 0])
  have h := (St.one.1 h).drop 0
  have h := (St.one.1 h).drop 0
  have h := St.one.1 h
  have h := h.ord 6 [2, 0, 4, 1, 5]
  have h : St w0 w ([.cel p.b 57 (poC c.p r.p p)] :: [.row 60 1 p.fs (p.left.map fun x => slv x.1)] :: (p.left.map fun x => .row 32 2 x.1 (clvs x.2.2)) :: [.row 60 1 p.gs (p.left.map fun x => slv x.2.1)] :: (p.left.map fun x => .row 32 2 x.2.1 (clvs x.2.2)) :: ccG c (rcG r F)) := h
  have h : St w0 w (apG p.b (poC c.p r.p p) p.fs (p.left.map fun x => (x.1, x.2.2)) ([.row 60 1 p.gs ((p.left.map (·.2.1)).map slv)] :: (List.zipWith (fun (y : Sl) (x : Sl × List Cl) => Ent.row 32 2 y (clvs x.2)) (p.left.map (·.2.1)) (p.left.map fun x => (x.1, x.2.2))) :: ccG c (rcG r F))) := by
    rw [zip_rows] at h
    simpa [apG, rwE, List.map_map, Function.comp_def] using h
  refine (apart_ap (cs := poC c.p r.p p) (b := p.b) (M := 0) rfl rfl (by have := hpo.left; simp; omega) (fun x hx => ?_) (by simp) h).mono ?_
  · obtain ⟨y, hy, rfl⟩ := List.mem_map.1 hx
    exact hpo.lens y hy
  · rintro v w1 ⟨rfl, h⟩
    exact ⟨rfl, (((h.drop 0).drop 0).drop 0).drop 0⟩
theorem rel0 {c : Cc} {N : Nat} (hw : c.wf N) (hv : ∀ s ∈ c.ss, s.V = ⟨0, [], []⟩) : CRel c.me c.reps c.sess c.room (c.ss.map Ses.V) ⟨List.replicate 64 0, [], []⟩ := by
  refine ⟨fun j => by rw [List.length_map]; exact hw.len j, by simp, fun j hj => ?_, fun y hy => by simp at hy⟩
  rw [List.length_map] at hj
  rw [List.getElem_map, hv _ (List.getElem_mem hj)]
  refine ⟨?_, rfl, by simp, by simp, [], by simp, by simp [ids], by simp, by simp⟩
  have h1 := (hw.len j).1 hj
  have h2 := hw.sess.2
  dsimp only
  rw [List.getElem?_replicate, if_pos (by simp only [ow]; omega)]
theorem made_st (h : St w0 w F) (me reps sess room : Int) : CallK Try.prog (.tup (.cons .ptr (.cons .bool .nilT))) 10 #[.int .i64 me, .int .i64 reps, .int .i64 sess, .int .i64 room] w fun (v : Option Addr × Bool × Unit) w' =>
    (newE me reps sess room ≠ 0 ∧ v = (none, true, ()) ∧ St w0 w' F) ∨
    (newE me reps sess room = 0 ∧ ∃ c r p, v = (p.p, true, ()) ∧ PW c r 0 ∧ PoW 0 p ∧ (c.me : Int) = me ∧ (c.reps : Int) = reps ∧ (c.sess : Int) = sess ∧ (c.room : Int) = room ∧ r.lasts = List.replicate 64 0 ∧ St w0 w' (prG c r p F)) := by
  refine T10.calls ?_
  unfold T10
  refine (new_st (w := w) me reps sess room).mono ?_
  rintro v1 w1 h1
  have hF : newE me reps sess room ≠ 0 ∧ v1 = (none, newE me reps sess room, ()) ∧ St w0 w1 F ∨ newE me reps sess room = 0 ∧ ∃ c : Cc, v1 = (c.p, 0, ()) ∧ (c.me : Int) = me ∧ (c.reps : Int) = reps ∧ (c.sess : Int) = sess ∧ (c.room : Int) = room ∧ c.wf 0 ∧ (∀ s ∈ c.ss, s.V = ⟨0, [], []⟩) ∧ St w0 w1 (ccG c F) := by
    rcases h1 with ⟨a, b, rfl⟩ | ⟨a, c, b, c1, c2, c3, c4, c5, c6, h2⟩
    · exact .inl ⟨a, b, h⟩
    · exact .inr ⟨a, c, b, c1, c2, c3, c4, c5, c6, h.join h2⟩
  clear h h1
  rcases hF with ⟨he, rfl, h⟩ | ⟨he, c, rfl, c1, c2, c3, c4, c5, c6, h⟩
  · refine (rnew_st h me reps sess room).mono ?_
    rintro v2 w2 (⟨_, rfl, h⟩ | ⟨h0, _⟩)
    · refine JoinX.mk (fun (y : Bool × Unit) w' => y.1 = false ∧ St w0 w' F) ?_ ?_
      · rintro ⟨y, ⟨⟩⟩ w3 ⟨hy, h⟩
        dsimp only at hy
        subst hy
        rw [SplitB_iff]
        refine ⟨fun hf => (by cases hf), fun _ => ?_⟩
        refine JoinX.mk (fun (y : Bool × Unit) w' => y.1 = true ∧ St w0 w' F) ?_ ?_
        · rintro ⟨y, ⟨⟩⟩ w4 ⟨hy, h⟩
          dsimp only at hy
          subst hy
          rw [SplitB_iff]
          exact ⟨fun _ => .inl ⟨he, rfl, h⟩, fun hf => by cases hf⟩
        · intro k hk
          refine RunN.pEqN ?_
          rw [SplitB_iff]
          exact ⟨fun _ => hk _ _ ⟨rfl, h⟩, fun hf => by cases hf⟩
      · intro k hk
        refine (num_ok _).mono ?_
        rintro e w3 ⟨rfl, he3⟩
        have he3 : e = newE me reps sess room := he3
        rw [SplitB_iff]
        refine ⟨fun hf => ?_, fun _ => ?_⟩
        · have hf : (e != newE me reps sess room) = true := hf
          rw [he3] at hf; simp at hf
        · refine RunN.pEqN (RunN.pEqN ?_)
          exact hk _ _ ⟨rfl, h⟩
    · exact absurd h0 he
  · refine (rnew_st h me reps sess room).mono ?_
    rintro v2 w2 (⟨h0, _⟩ | ⟨_, r, rfl, r1, r2, r3, r4, r5, r6, h⟩)
    · exact absurd he h0
    · refine JoinX.mk (fun (y : Bool × Unit) w' => y.1 = false ∧ St w0 w' (rcG r (ccG c F))) ?_ ?_
      · rintro ⟨y, ⟨⟩⟩ w3 ⟨hy, h⟩
        dsimp only at hy
        subst hy
        rw [SplitB_iff]
        refine ⟨fun hf => (by cases hf), fun _ => ?_⟩
        refine JoinX.mk (fun (y : Bool × Unit) w' => y.1 = false ∧ St w0 w' (rcG r (ccG c F))) ?_ ?_
        · rintro ⟨y, ⟨⟩⟩ w4 ⟨hy, h⟩
          dsimp only at hy
          subst hy
          rw [SplitB_iff]
          refine ⟨fun hf => (by cases hf), fun _ => ?_⟩
          refine h.newB run_boxA rfl ?_
          intro b w5 h
          have h := (((h.nilrow 60 1).ord 2 [0, 1]).nilrow 60 1)
          have h := (((h.nilrow 3 1)).nilrow 60 1)
          -- gs? rows: 0 ls, 1 ms, 2 fs, 3 gs, 4 cel
          have h := St.empty.2 (St.empty.2 (St.empty.2 h))
          have h : St w0 w5 (prG c r ⟨b, ⟨none, 0, 0⟩, ⟨none, 0, 0⟩, 0, ⟨none, 0, 0⟩, ⟨none, 0, 0⟩, [], []⟩ F) := by
            have h := h.ord 12 [7, 3, 4, 5, 6, 0, 1, 2, 9, 10, 11, 8]
            have h := St.two.2 (St.two.2 (St.two.2 (St.two.2 h)))
            exact h.ord 8 [4, 5, 6, 7, 0, 1, 2, 3]
          refine .inr ⟨he, c, r, ⟨b, ⟨none, 0, 0⟩, ⟨none, 0, 0⟩, 0, ⟨none, 0, 0⟩, ⟨none, 0, 0⟩, [], []⟩, rfl, ⟨c5, r5, ⟨by omega, by omega, by omega, by omega⟩, ?_⟩, ⟨Nat.le_refl _, by simp, by simp, by simp, by simp⟩, c1, c2, c3, c4, congrArg Rv.lasts r6, h⟩
          rw [r6]; exact rel0 c5 c6
        · intro k hk
          refine RunN.pEqS ?_
          rw [SplitB_iff]
          refine ⟨fun hf => (by cases hf), fun _ => ?_⟩
          refine RunN.pEqS ?_
          exact hk _ _ ⟨rfl, h⟩
      · intro k hk
        refine (num_ok _).mono ?_
        rintro e w3 ⟨rfl, he3⟩
        have he3 : e = 0 := he3
        rw [SplitB_iff]
        refine ⟨fun hf => ?_, fun _ => ?_⟩
        · have hf : (e != 0) = true := hf
          rw [he3] at hf; simp at hf
        · refine RunN.pEqS (RunN.pEqS ?_)
          exact hk _ _ ⟨rfl, h⟩
end Go.Proofs.Ytbdhmeefjlkdcaa
