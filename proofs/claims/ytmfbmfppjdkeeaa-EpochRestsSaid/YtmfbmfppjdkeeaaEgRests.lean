/- EpochRests: whatever the arguments, the law returns true and leaves the arguments as they read before; no condition. -/
import Derived.Test.YtmfbmfppjdkeeaaErQ12
namespace Go.Proofs.Ytmfbmfppjdkeeaa.epochRests
open Go.ChangeShapes Go.WideShapes Go.ChangeAt Go.RowKit Go Go.Fw
set_option linter.unusedVariables false

set_option maxRecDepth 100000 in
theorem lifted (os : Os) (started : os.Started) (H : Type) (enc : TypeId × Value → H) :
    ReturnsInHanded {} Try.checked os 8 .any (Rows.epochRestsSpec.pre6 enc Try.prog Try.f8 Rows.epochRestsRow.domain false) (Rows.epochRestsSpec.post enc Try.prog Try.f8 false true false false) := by
  refine returnsInHanded_of_change_sized (C := Try.checked) own started (by kernel_rfl) Try.func8
    (ChangeSpec.witness6 (enc := enc) (C := Try.checked) false ⟨#[], #[.int .i64 0, .slice none 0 0, .slice none 0 0, .slice none 0 0], []⟩ 8 (by kernel_rfl) (by kernel_rfl) (by kernel_rfl) (by kernel_rfl)) ?_
  intro W base args ds gs before hval0 hW hcnd hsz00 _
  have hval : ∀ (j : Nat) t v, Try.f8.params[j]? = some t → args[j]? = some v → Value.okWide Try.prog W .any base t v := hval0
  have hsz0 : (DataW.weightsEach Try.prog (Try.f8.params.toList ++ Rows.epochRestsSpec.plain.varTypes Try.prog) (ds ++ gs)).all (· ≤ reachBytes) = true := hsz00
  have hW' := hW
  obtain ⟨p, q, hA0, hV, rfl, hfz, hnd⟩ := hW
  have hA : DataW.TrodAll enc Try.prog W 0 (fun _ => true) true Try.f8.params.toList args.toList ds p := hA0
  rw [Try.params8] at hA hval hsz0
  have hA' := hA
  obtain ⟨v0, v1, v2, v3, d0, d1, d2, d3, p0, p1, p2, p3, rfl, rfl, rfl, h0, h1, h2, h3⟩ := trodAll_four hA
  obtain ⟨rfl, rfl⟩ := trodVars_none hV
  obtain ⟨n0, rfl, rfl, rfl, wn0⟩ := open_int u3 (hval 0 3 v0 rfl rfl) h0
  obtain ⟨s1, L1, rfl, hg1⟩ := ints_of (hval 1 26 v1 rfl rfl) h1 (wt_of_all (t := 26) (d := d1) hsz0 (j := 1) rfl rfl)
  obtain ⟨s2, L2, rfl, hg2⟩ := stps_of (hval 2 27 v2 rfl rfl) h2 (wt_of_all (t := 27) (d := d2) hsz0 (j := 2) rfl rfl)
  obtain ⟨s3, L3, rfl, hg3⟩ := ints_of2 (hval 3 26 v3 rfl rfl) h3 (wt_of_all (t := 26) (d := d3) hsz0 (j := 3) rfl rfl)
  clear hA0 hval0 hsz00
  have hlt := fun x hx => by simpa using hW'.lt x (List.mem_append_left _ hx)
  refine Calls.mono (law8 hg1 hg2 hg3 wn0) fun e W' ⟨r, he, hu, hr1⟩ => ?_
  subst he; subst hr1
  have bel := hu.below
  exact ⟨_, rfl, _, _, _, [], _, [], hW', trodAll_mk1 (shut_bool u4 _), trodAll_below laidOut bel (by kernel_rfl) hA' hlt, rfl, bel.frame _, fun h => by cases h⟩

theorem proved : Rows.EpochRestsSaid :=
  OpenClaim.holds_of_wide 8 Try.f8 rfl rfl rfl rfl rfl rfl rfl ⟨rfl, rfl, rfl, rfl, rfl⟩ rfl rfl rfl rfl rfl (by kernel_rfl) Try.func8 (by kernel_rfl)
    (of_decide_eq_true (by kernel_rfl)) (by unfold Func.isWrapper; first | (rw [if_pos (by decide +kernel)]; kernel_rfl) | (rw [if_neg (by decide +kernel)]; exact ⟨rfl, rfl⟩))
    (fun os started H enc _ => lifted os started H enc)
#print axioms proved
end Go.Proofs.Ytmfbmfppjdkeeaa.epochRests
