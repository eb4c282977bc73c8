/- FrameAll, where what it reads is of bulk at most the form's bound: whatever the calls, the law returns true and leaves the arguments as they read before; the row and its tied card, with the table as it is laid. -/
import Derived.Test.YtaocddmmgefeoaaDoorFsRow
import Derived.Deep.DeepHandedRow
import Derived.Deep.DeepWitnessRowRef
import Derived.Deep.CondSized
import Derived.Test.YtaocddmmgefeoaaDoorCards
import Derived.Test.YtaocddmmgefeoaaDoorTie
namespace Go.Proofs.YtaocddmmgefeoaaDoor.frameAll
open Go.ChangeShapes Go.WideShapes Go.ChangeAt Go.RowKit Go Go.Fw Go.Frm
set_option linter.unusedVariables false

theorem reads (os : Os) {H : Type} (enc : TypeId × Value → H) : ∃ places, DataW.whole enc Tryd.prog ((World.doorLaid Tryd.prog 400 os).forCall (fun _ _ => 0) ⟨#[], #[.slice none 0 0], []⟩).memory Tryd.f5.params.toList Rows.frameAllSpec.vars false #[Value.slice none 0 0].toList 8 = some ([.nil], [], places) :=
  ⟨[], by kernel_rfl⟩

set_option maxRecDepth 100000 in
theorem lifted (os : Os) (started : os.Started) (H : Type) (enc : TypeId × Value → H) (F : Stop.Interp) :
    ReturnsInHanded {} Tryd.checked os 5 .any ((Rows.OpenSpec.upto Rows.frameAllSpec).preRow enc Tryd.prog Tryd.f5 Rows.frameAllUptoRow.domain false Rows.frameAllUptoRow.laid) (((Rows.OpenSpec.upto Rows.frameAllSpec).at F).post enc Tryd.prog Tryd.f5 false true false false) := by
  obtain ⟨places, hx⟩ := reads os enc
  refine returnsInHanded_of_row (C := Tryd.checked) (s := Rows.OpenSpec.upto Rows.frameAllSpec) ownD started (by kernel_rfl) Tryd.func5
    (witness_row_atRef (enc := enc) (C := Tryd.checked) false (World.doorLaid Tryd.prog 400 os) #[.slice none 0 0] rfl (by kernel_rfl) (by kernel_rfl) (by kernel_rfl)
      (OpenSpec.preRow_of_cond 8 hx (by kernel_rfl) (fun k hk => by cases hk; kernel_rfl) (by kernel_rfl) (door_met os _))) ?_
  intro W base args ds gs before hval0 hW _ hcnd hsz00 hL _ _
  have hval : ∀ (j : Nat) t v, Tryd.f5.params[j]? = some t → args[j]? = some v → Value.okWide Tryd.prog W .any base t v := hval0
  have hsz0 : (DataW.weightsEach Tryd.prog (Tryd.f5.params.toList ++ Rows.frameAllSpec.plain.varTypes Tryd.prog) (ds ++ gs)).all (· ≤ reachBytes) = true := hsz00
  have hW' := hW
  obtain ⟨p, q, hA0, hV, rfl, hfz, hnd⟩ := hW
  have hA : DataW.TrodAll enc Tryd.prog W 0 (fun _ => true) true Tryd.f5.params.toList args.toList ds p := hA0
  rw [Tryd.params5] at hA hval hsz0
  have hA' := hA
  obtain ⟨v0, d0, rfl, rfl, h0⟩ := trodAll_one hA
  obtain ⟨rfl, rfl⟩ := trodVars_none hV
  obtain ⟨s, l, rfl, hr⟩ := cal_of (hval 0 31 v0 rfl rfl) h0 (wt_of_all (t := 31) (d := d0) hsz0 (j := 0) rfl rfl)
  clear hA0 hval0 hsz00
  have hlt := fun x hx => by simpa using hW'.lt x (List.mem_append_left _ hx)
  refine Calls.mono (law5 hr (tab_of_laid hL)) fun e W' ⟨r, he, hu, hr1⟩ => ?_
  subst he; subst hr1
  have bel := hu.below
  exact ⟨_, rfl, _, _, _, [], _, [], hW', trodAll_mk1 (shut_bool u4 _), trodAll_below laidOutD bel (by kernel_rfl) hA' hlt, rfl, bel.frame _, fun h => by cases h⟩

theorem row_holds : Rows.FrameAllUptoSaid :=
  OpenClaim.holds_of_cond 5 Tryd.f5 rfl rfl rfl rfl rfl rfl rfl ⟨rfl, rfl, rfl, rfl, rfl⟩ rfl rfl rfl rfl rfl (by kernel_rfl) Tryd.func5 (by kernel_rfl)
    (of_decide_eq_true (by kernel_rfl)) (by unfold Func.isWrapper; first | (rw [if_pos (by decide +kernel)]; kernel_rfl) | (rw [if_neg (by decide +kernel)]; exact ⟨rfl, rfl⟩))
    (fun os started H enc _ F => by rw [OpenClaim.pre_eq_preRow]; exact lifted os started H enc F)
theorem proved : Rows.FrameAllUptoCardSaid :=
  Claim7.holds_tied_plain_at .later [] [.data] true (true, "b51b637daf07b1c516b81e392dd3adef9276edd451377095f1386cb4716029b6") false
    row_holds (fun _ h => by cases h) (by kernel_rfl) (fun _ h => by cases h) frameAllUpto_row_tie rfl ⟨rfl, rfl⟩ (by kernel_rfl) rfl
    (fun f fn hf hfn => by
      obtain rfl : f = 5 := Option.some.inj ((show Tryd.prog.funcNamed "sluice/sluicelaw1.FrameAll" = some 5 by kernel_rfl).symm.trans hf) |>.symm
      obtain rfl : fn = Tryd.f5 := (Option.some.inj (Tryd.func5.symm.trans hfn)).symm
      exact ⟨by kernel_rfl, fun j t ht => by
        rw [Tryd.params5] at ht
        have hm : t ∈ ([31] : List TypeId) := by simpa using Array.mem_of_getElem? ht
        have hall : (([31] : List TypeId).all fun u => !Tryd.prog.wantsStandIn u) = true := by kernel_rfl
        exact (show Tryd.prog.wantsStandIn t = false by simpa using List.all_eq_true.1 hall t hm)⟩)
    (by kernel_rfl)
#print axioms proved
end Go.Proofs.YtaocddmmgefeoaaDoor.frameAll
