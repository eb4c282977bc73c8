/- From a walk to a row: whatever returns true and changes nothing that was there. -/
import Derived.Test.YtaocddmmgefeoaaDoorFrL2
import Derived.Test.YtaocddmmgefeoaaDoorFwR
import Derived.Test.YtaocddmmgefeoaaDoorRows
import Derived.ProofKit
import Derived.LaidMore
import Derived.OpenShut
import Derived.Stop.Joined
namespace Go.Proofs.YtaocddmmgefeoaaDoor
open Go.ChangeShapes Go.WideShapes Go.ChangeAt Go.RowKit Go Go.Fw Go.Frm
set_option linter.unusedVariables false
set_option linter.unusedSimpArgs false

theorem ownD : ownKnob Tryd.prog.godebug = none := by kernel_rfl
theorem laidOutD : laidOutB Tryd.prog = true := by kernel_rfl
abbrev laid1 : List (String × DataW Unit) := [("sluice/frame.table", Rows.laid_sluice_frame_table)]
theorem gTable : Tryd.prog.globalNamed "sluice/frame.table" = some 0 := by kernel_rfl
theorem tTable : (Tryd.prog.globals[0]?).map (·.type) = some 54 := by kernel_rfl
theorem u54 : Tryd.prog.underlying 54 = some (.array 16 52) := by kernel_rfl
theorem u52 : Tryd.prog.underlying 52 = some (.int .u32) := by kernel_rfl
theorem u22 : Tryd.prog.underlying 22 = some (.slice 5) := by kernel_rfl
theorem u5 : Tryd.prog.underlying 5 = some (.int .u8) := by kernel_rfl
theorem u3 : Tryd.prog.underlying 3 = some (.int .i64) := by kernel_rfl
theorem u4 : Tryd.prog.underlying 4 = some .bool := by kernel_rfl

theorem door_met (os : Os) (args : Array Value) : laidMetH Tryd.prog laid1 ((World.doorLaid Tryd.prog 400 os).forCall (fun _ _ => 0) ⟨#[], args, []⟩).memory :=
  laidMetH_of_parts3 (fuel := 8) (laidMet_of_run' 8 (by kernel_rfl) (by kernel_rfl)) (by kernel_rfl) (by kernel_rfl)

/-- The table's cells, out of the condition. -/
theorem tab_of_laid {W : World} (h : laidMetH Tryd.prog laid1 W) : Tab W := by
  rw [MakeChecks.laidMetH_plain _ _ _ (by kernel_rfl)] at h
  obtain ⟨ps, ⟨g0, t0, cs0, f0, p0, q0, hg0, ht0, hv0, hd0, _⟩, _⟩ := h
  obtain rfl := Option.some.inj (gTable.symm.trans hg0)
  obtain rfl := Option.some.inj (tTable.symm.trans ht0)
  obtain ⟨xs, m1, rfl, hx1, hlen, hn3, hel⟩ := DataW.trod_array u54 hd0
  have c52 : Tryd.prog.cellsOf 52 = 1 := by kernel_rfl
  have c54 : Tryd.prog.cellsOf 54 = 16 := by kernel_rfl
  simp only [Prod.mk.injEq, Rows.laid_sluice_frame_table, DataW.agg.injEq] at hx1
  obtain ⟨hxe, _⟩ := hx1
  intro k hk
  have h0 := hel k hk
  obtain ⟨y, hy⟩ : ∃ y, xs[k]? = some y := ⟨xs[k]'(by omega), List.getElem?_eq_getElem (by omega)⟩
  rw [hy, c52, Nat.mul_one] at h0
  obtain ⟨n, e1, e2, _⟩ := DataW.trod_int u52 h0
  have hn : n = ((tab.getD k 0 : Nat) : Int) := by
    have h1 := congrArg (fun l => l[k]?) hxe
    simp only [List.getElem?_map, hy, Option.map_some, e2] at h1
    have h2 : ∀ j, j < 16 → ([.lit (.int .u32 0), .lit (.int .u32 498536548), .lit (.int .u32 997073096), .lit (.int .u32 651767980), .lit (.int .u32 1994146192), .lit (.int .u32 1802195444), .lit (.int .u32 1303535960), .lit (.int .u32 1342533948), .lit (.int .u32 3988292384), .lit (.int .u32 4027552580), .lit (.int .u32 3604390888), .lit (.int .u32 3412177804), .lit (.int .u32 2607071920), .lit (.int .u32 2262029012), .lit (.int .u32 2685067896), .lit (.int .u32 3183342108)] : List (DataW Unit))[j]? = some (.lit (.int .u32 ((tab.getD j 0 : Nat) : Int))) := by
      intro j hj
      match j, hj with
      | 0, _ => rfl
      | 1, _ => rfl
      | 2, _ => rfl
      | 3, _ => rfl
      | 4, _ => rfl
      | 5, _ => rfl
      | 6, _ => rfl
      | 7, _ => rfl
      | 8, _ => rfl
      | 9, _ => rfl
      | 10, _ => rfl
      | 11, _ => rfl
      | 12, _ => rfl
      | 13, _ => rfl
      | 14, _ => rfl
      | 15, _ => rfl
      | j + 16, h => omega
    first
      | (rw [h2 k hk] at h1; simpa using h1)
      | (rw [h2 k hk] at h1; simpa using h1.symm)
  have hc := World.var?_cell hg0 hv0 k
  rw [hc]
  have h3 := congrArg (fun l => l[0]?) e1
  simp [List.getElem?_take, List.getElem?_drop] at h3
  rw [h3, hn]

/-- The bytes of a slice, as it was handed in. -/
theorem bytes_of {H : Type} {enc : TypeId × Value → H} {W : World} {base : Nat} {spare : Nat → Bool} {held : Bool} {v : Value} {d : DataW H} {ps : List MemPlace} (hval : Value.okWide Tryd.prog W .any base 22 v)
    (hd : DataW.Trod enc Tryd.prog W 0 spare held 22 v d ps) : ∃ (s : Sl) (l : List UInt8), v = .slice s.a s.len s.cap ∧ Rd W s 1 (bys l) := by
  obtain ⟨a0, len, cap, rfl⟩ := okWide_slice u22 hval
  obtain ⟨fuel0, hf⟩ := hd
  rcases open_ints u22 u5 (by kernel_rfl) hf with ⟨hcs, hx⟩ | ⟨a, len', cap', zs, hcs, _, hl, hm, hz, hx, hcell, hwz⟩
  · simp [Value.cells] at hcs
    obtain ⟨rfl, rfl, rfl⟩ := hcs
    exact ⟨⟨none, 0, 0⟩, [], rfl, Rd.nil _ _⟩
  · simp [Value.cells] at hcs
    obtain ⟨rfl, rfl, rfl⟩ := hcs
    have hzl : len ≤ zs.length := by rw [hz]; split <;> omega
    have hv : ∀ z ∈ zs, Value.int .u8 z = u8v (UInt8.ofNat z.toNat) := by
      intro z hzm
      have h := hwz z hzm
      have hmin : IntKind.u8.min = 0 := rfl
      have hmax : IntKind.u8.max = 255 := rfl
      simp [Lit.wf, hmin, hmax] at h
      unfold u8v
      rw [UInt8.toNat_ofNat']
      congr 1; omega
    refine ⟨⟨some a, len, cap⟩, (zs.take len).map (fun z => UInt8.ofNat z.toNat), rfl, by simp; omega, ?_, hl⟩
    by_cases h0 : len = 0
    · left; subst h0; simp [bys]
    right
    have hsp : a.spot = none := by
      have := hcell 0 (by omega)
      unfold Addr.add at this
      simp only [if_pos] at this
      unfold World.cell? at this
      cases hs : a.spot with
      | none => rfl
      | some k =>
        simp only [hs, Option.isSome_some, if_true] at this
        split at this <;> simp at this
    obtain ⟨b, o, sp⟩ := a
    dsimp only at hsp
    subst hsp
    refine ⟨b, o, rfl, fun i v hiv => ?_⟩
    have hil : i < len := by
      have := (List.getElem?_eq_some_iff.1 hiv).1
      simp at this; omega
    have := hcell i (by omega)
    rw [add_lit'] at this
    rw [this]
    simp only [bys, List.getElem?_map, List.getElem?_take, if_pos hil, List.map_map] at hiv
    rw [List.getElem?_eq_getElem (by omega)] at hiv
    simp only [Option.map_some, Option.some.injEq, Function.comp] at hiv
    rw [← hiv, ← hv _ (List.getElem_mem _), List.getD_eq_getElem?_getD, List.getElem?_eq_getElem (by omega)]; rfl

theorem u46 : Tryd.prog.underlying 46 = some (.array 4 5) := by kernel_rfl
/-- Four bytes, as they were handed in. -/
theorem four_of {H : Type} {enc : TypeId × Value → H} {W : World} {base : Nat} {spare : Nat → Bool} {held : Bool} {v : Value} {d : DataW H} {ps : List MemPlace} (hval : Value.okWide Tryd.prog W .any base 46 v)
    (hd : DataW.Trod enc Tryd.prog W 0 spare held 46 v d ps) : ∃ f : Nat → UInt8, v = .agg #[.int .u8 ((f 0).toNat : Int), .int .u8 ((f 1).toNat : Int), .int .u8 ((f 2).toNat : Int), .int .u8 ((f 3).toNat : Int)] := by
  simp only [Value.okWide, u46] at hval
  obtain ⟨cs, rfl, hs, _⟩ := hval
  obtain ⟨fuel, hf⟩ := hd
  obtain ⟨xs, m1, rfl, hx1, hlen, hn3, hel⟩ := DataW.trod_array u46 hf
  have c5 : Tryd.prog.cellsOf 5 = 1 := by kernel_rfl
  have each : ∀ i, i < 4 → ∃ f : UInt8, cs[i]? = some (u8v f) := by
    intro i hi
    have h0 := hel i hi
    obtain ⟨y, hy⟩ : ∃ y, xs[i]? = some y := ⟨xs[i]'(by omega), List.getElem?_eq_getElem (by omega)⟩
    rw [hy, c5, Nat.mul_one] at h0
    obtain ⟨n, e1, e2, hw⟩ := DataW.trod_int u5 h0
    obtain ⟨f, rfl⟩ := byte_of hw
    have h3 := congrArg (fun l => l[0]?) e1
    simp [List.getElem?_take, List.getElem?_drop, Value.cells] at h3
    exact ⟨f, h3⟩
  have h4 : cs.size = 4 := by rw [hs]; kernel_rfl
  obtain ⟨f0, h0⟩ := each 0 (by omega)
  obtain ⟨f1, h1⟩ := each 1 (by omega)
  obtain ⟨f2, h2⟩ := each 2 (by omega)
  obtain ⟨f3, h3⟩ := each 3 (by omega)
  refine ⟨fun i => if i = 0 then f0 else if i = 1 then f1 else if i = 2 then f2 else f3, ?_⟩
  obtain ⟨l⟩ := cs
  match l, h4, h0, h1, h2, h3 with
  | [a, b, c, e], _, h0, h1, h2, h3 =>
    simp at h0 h1 h2 h3
    subst h0; subst h1; subst h2; subst h3
    rfl
end Go.Proofs.YtaocddmmgefeoaaDoor
