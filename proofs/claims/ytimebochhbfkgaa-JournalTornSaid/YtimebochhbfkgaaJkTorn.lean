/- JournalTorn: whatever the arguments, the law returns true and leaves the arguments as they read before; no condition. -/
import Derived.Test.YtimebochhbfkgaaJkRow3
namespace Go.Proofs.Ytimebochhbfkgaa.journalTorn
open Go.ChangeShapes Go.WideShapes Go.ChangeAt Go.RowKit Go Go.Fw
set_option linter.unusedVariables false

set_option maxRecDepth 100000 in
theorem lifted (os : Os) (started : os.Started) (H : Type) (enc : TypeId × Value → H) :
    ReturnsInHanded {} Try.checked os 6 .any (Rows.journalTornSpec.pre6 enc Try.prog Try.f6 Rows.journalTornRow.domain false) (Rows.journalTornSpec.post enc Try.prog Try.f6 false true false false) := by
  refine returnsInHanded_of_change_sized (C := Try.checked) own started (by kernel_rfl) Try.func6
    (ChangeSpec.witness6 (enc := enc) (C := Try.checked) false ⟨#[], #[.slice none 0 0, .slice none 0 0, .slice none 0 0, .slice none 0 0, .agg #[.int .i64 0, .int .i64 0, .int .i64 0], .agg #[.int .i64 0, .int .i64 0, .int .i64 0]], []⟩ 8 (by kernel_rfl) (by kernel_rfl) (by kernel_rfl) (by kernel_rfl)) ?_
  intro W base args ds gs before hval0 hW hcnd hsz00 _
  have hval : ∀ (j : Nat) t v, Try.f6.params[j]? = some t → args[j]? = some v → Value.okWide Try.prog W .any base t v := hval0
  have hsz0 : (DataW.weightsEach Try.prog (Try.f6.params.toList ++ Rows.journalTornSpec.plain.varTypes Try.prog) (ds ++ gs)).all (· ≤ reachBytes) = true := hsz00
  have hW' := hW
  obtain ⟨p, q, hA0, hV, rfl, hfz, hnd⟩ := hW
  have hA : DataW.TrodAll enc Try.prog W 0 (fun _ => true) true Try.f6.params.toList args.toList ds p := hA0
  rw [Try.params6] at hA hval hsz0
  have hA' := hA
  obtain ⟨v0, v1, v2, v3, v4, v5, d0, d1, d2, d3, d4, d5, p0, p1, p2, p3, p4, p5, rfl, rfl, rfl, h0, h1, h2, h3, h4, h5⟩ := trodAll_six hA
  obtain ⟨rfl, rfl⟩ := trodVars_none hV
  obtain ⟨s, L, rfl, hg, hgl⟩ := recs_of (hval 0 22 v0 rfl rfl) h0 (wt_of_all (t := 22) (d := d0) hsz0 (j := 0) rfl rfl)
  obtain ⟨sa, a, rfl, ha, _⟩ := bys_of (hval 1 31 v1 rfl rfl) h1 (wt_of_all (t := 31) (d := d1) hsz0 (j := 1) rfl rfl)
  obtain ⟨sb, b, rfl, hb, _⟩ := bys_of (hval 2 31 v2 rfl rfl) h2 (wt_of_all (t := 31) (d := d2) hsz0 (j := 2) rfl rfl)
  obtain ⟨sc, c, rfl, hc, _⟩ := bys_of (hval 3 31 v3 rfl rfl) h3 (wt_of_all (t := 31) (d := d3) hsz0 (j := 3) rfl rfl)
  obtain ⟨x0, x1, x2, rfl, hx⟩ := nums_of (hval 4 55 v4 rfl rfl) h4
  obtain ⟨y0, y1, y2, rfl, hy⟩ := nums_of (hval 5 55 v5 rfl rfl) h5
  clear hA0 hval0 hsz00
  have hlt := fun x hx => by simpa using hW'.lt x (List.mem_append_left _ hx)
  refine Calls.mono (law6 hg ha hb hc hx hy) fun e W' ⟨r, he, hu, hr1⟩ => ?_
  subst he; subst hr1
  have bel := hu.below
  exact ⟨_, rfl, _, _, _, [], _, [], hW', trodAll_mk1 (shut_bool u4 _), trodAll_below laidOut bel (by kernel_rfl) hA' hlt, rfl, bel.frame _, fun h => by cases h⟩

theorem proved : Rows.JournalTornSaid :=
  OpenClaim.holds_of_wide 6 Try.f6 rfl rfl rfl rfl rfl rfl rfl ⟨rfl, rfl, rfl, rfl, rfl⟩ rfl rfl rfl rfl rfl (by kernel_rfl) Try.func6 (by kernel_rfl)
    (of_decide_eq_true (by kernel_rfl)) (by unfold Func.isWrapper; first | (rw [if_pos (by decide +kernel)]; kernel_rfl) | (rw [if_neg (by decide +kernel)]; exact ⟨rfl, rfl⟩))
    (fun os started H enc _ => lifted os started H enc)
#print axioms proved
end Go.Proofs.Ytimebochhbfkgaa.journalTorn
