/-
  No cell of these rows narrows 'for every input' (looked for: loops, veiled, ifaces, maps, wideKeys, modest, calm, conditions, laid).
  DERIVED. THE GIVEN ROWS OF THIS SEAT. 6 by the template 'for every input the law returns true; each argument reads behind the call as it read before'; 0 by the template 'total and deterministic' (their statements: YtmfbmfppjdkeeaaTotals.lean).
  GIVEN WITH THE SEED: the statements are not yours to turn. If you find one false, say at which input.
  Laid BY PROGRAM, IN A SANDBOX (cutbox-rows.mjs): the forced cells as the released guide's own fill.sh prints them over the translation bcde3ccf6f80e28f… (all of the seat's roots in one cut). By AI agents, Wed Nov 11 2026. No macro, syntax, notation, axiom, sorry.
-/
import Derived.Test.YtmfbmfppjdkeeaaChecked
import GoSem.Claim
import GoSem.ClaimJoined
import GoSem.ClaimMapViews
import Derived.JoinedTies
import Derived.KernelRfl
namespace Go.Proofs.Ytmfbmfppjdkeeaa
/- THE CELL 'sum', in the pinned program and in every row, IS THE sha256 OF THE DUMP (.gsa) THAT YtmfbmfppjdkeeaaProg.lean LOADS. Nothing in Lean hashes anything: it is a label: what it is worth is what the hold of that sum in a sandbox is worth. -/
noncomputable def Try.pinned : Pinned := { name := "ytmfbmfppjdkeeaa", sum := "bcde3ccf6f80e28fc1b2e33f73c861bb63bd52a1bd1c1e218269883e9a0e7f3b", checked := Try.checked }
namespace Rows
def none {H : Type} : Left H := { results := [], args := [] }

/-- 'sluicelaw11.EpochBegins': WHATEVER THE INPUT: true; the input reads as it did. -/
def epochBeginsSpec : ChangeSpec := { name := "epochBegins", fn := fun _ => fun
  | [d1, d2, d3] => { results := [.lit (.bool true)], args := [d1, d2, d3] }
  | _ => none }
def epochBeginsRow : OpenClaim := { program := "ytmfbmfppjdkeeaa", sum := "bcde3ccf6f80e28fc1b2e33f73c861bb63bd52a1bd1c1e218269883e9a0e7f3b", func := "sluice/sluicelaw11.EpochBegins", spec := "epochBegins", recurses := true, apart := false }
def EpochBeginsSaid : Prop := epochBeginsRow.holds Try.pinned (OpenSpec.ofChange epochBeginsSpec)

/-- ITS FALSE NEIGHBOUR: 'it returns false'. Refute it at one input. -/
def epochBeginsWrong : ChangeSpec := { name := "epochBegins", fn := fun _ => fun
  | [d1, d2, d3] => { results := [.lit (.bool false)], args := [d1, d2, d3] }
  | _ => none }
def EpochBeginsWrongFalsely : Prop := epochBeginsRow.holds Try.pinned (OpenSpec.ofChange epochBeginsWrong)

/-- 'sluicelaw11.EpochHears': WHATEVER THE INPUT: true; the input reads as it did. -/
def epochHearsSpec : ChangeSpec := { name := "epochHears", fn := fun _ => fun
  | [d1, d2, d3] => { results := [.lit (.bool true)], args := [d1, d2, d3] }
  | _ => none }
def epochHearsRow : OpenClaim := { program := "ytmfbmfppjdkeeaa", sum := "bcde3ccf6f80e28fc1b2e33f73c861bb63bd52a1bd1c1e218269883e9a0e7f3b", func := "sluice/sluicelaw11.EpochHears", spec := "epochHears", recurses := true, apart := false }
def EpochHearsSaid : Prop := epochHearsRow.holds Try.pinned (OpenSpec.ofChange epochHearsSpec)

/-- ITS FALSE NEIGHBOUR: 'it returns false'. Refute it at one input. -/
def epochHearsWrong : ChangeSpec := { name := "epochHears", fn := fun _ => fun
  | [d1, d2, d3] => { results := [.lit (.bool false)], args := [d1, d2, d3] }
  | _ => none }
def EpochHearsWrongFalsely : Prop := epochHearsRow.holds Try.pinned (OpenSpec.ofChange epochHearsWrong)

/-- 'sluicelaw11.EpochLooks': WHATEVER THE INPUT: true; the input reads as it did. -/
def epochLooksSpec : ChangeSpec := { name := "epochLooks", fn := fun _ => fun
  | [d1, d2, d3] => { results := [.lit (.bool true)], args := [d1, d2, d3] }
  | _ => none }
def epochLooksRow : OpenClaim := { program := "ytmfbmfppjdkeeaa", sum := "bcde3ccf6f80e28fc1b2e33f73c861bb63bd52a1bd1c1e218269883e9a0e7f3b", func := "sluice/sluicelaw11.EpochLooks", spec := "epochLooks", recurses := true, apart := false }
def EpochLooksSaid : Prop := epochLooksRow.holds Try.pinned (OpenSpec.ofChange epochLooksSpec)

/-- ITS FALSE NEIGHBOUR: 'it returns false'. Refute it at one input. -/
def epochLooksWrong : ChangeSpec := { name := "epochLooks", fn := fun _ => fun
  | [d1, d2, d3] => { results := [.lit (.bool false)], args := [d1, d2, d3] }
  | _ => none }
def EpochLooksWrongFalsely : Prop := epochLooksRow.holds Try.pinned (OpenSpec.ofChange epochLooksWrong)

/-- 'sluicelaw11.EpochAll': WHATEVER THE INPUT: true; the input reads as it did. -/
def epochAllSpec : ChangeSpec := { name := "epochAll", fn := fun _ => fun
  | [d1, d2, d3, d4, d5] => { results := [.lit (.bool true)], args := [d1, d2, d3, d4, d5] }
  | _ => none }
def epochAllRow : OpenClaim := { program := "ytmfbmfppjdkeeaa", sum := "bcde3ccf6f80e28fc1b2e33f73c861bb63bd52a1bd1c1e218269883e9a0e7f3b", func := "sluice/sluicelaw11.EpochAll", spec := "epochAll", recurses := true, apart := false }
def EpochAllSaid : Prop := epochAllRow.holds Try.pinned (OpenSpec.ofChange epochAllSpec)

/-- ITS FALSE NEIGHBOUR: 'it returns false'. Refute it at one input. -/
def epochAllWrong : ChangeSpec := { name := "epochAll", fn := fun _ => fun
  | [d1, d2, d3, d4, d5] => { results := [.lit (.bool false)], args := [d1, d2, d3, d4, d5] }
  | _ => none }
def EpochAllWrongFalsely : Prop := epochAllRow.holds Try.pinned (OpenSpec.ofChange epochAllWrong)

/-- 'sluicelaw11.EpochGathers': WHATEVER THE INPUT: true; the input reads as it did. -/
def epochGathersSpec : ChangeSpec := { name := "epochGathers", fn := fun _ => fun
  | [d1, d2, d3] => { results := [.lit (.bool true)], args := [d1, d2, d3] }
  | _ => none }
def epochGathersRow : OpenClaim := { program := "ytmfbmfppjdkeeaa", sum := "bcde3ccf6f80e28fc1b2e33f73c861bb63bd52a1bd1c1e218269883e9a0e7f3b", func := "sluice/sluicelaw11.EpochGathers", spec := "epochGathers", apart := false }
def EpochGathersSaid : Prop := epochGathersRow.holds Try.pinned (OpenSpec.ofChange epochGathersSpec)

/-- ITS FALSE NEIGHBOUR: 'it returns false'. Refute it at one input. -/
def epochGathersWrong : ChangeSpec := { name := "epochGathers", fn := fun _ => fun
  | [d1, d2, d3] => { results := [.lit (.bool false)], args := [d1, d2, d3] }
  | _ => none }
def EpochGathersWrongFalsely : Prop := epochGathersRow.holds Try.pinned (OpenSpec.ofChange epochGathersWrong)

/-- 'sluicelaw11.EpochRests': WHATEVER THE INPUT: true; the input reads as it did. -/
def epochRestsSpec : ChangeSpec := { name := "epochRests", fn := fun _ => fun
  | [d1, d2, d3, d4] => { results := [.lit (.bool true)], args := [d1, d2, d3, d4] }
  | _ => none }
def epochRestsRow : OpenClaim := { program := "ytmfbmfppjdkeeaa", sum := "bcde3ccf6f80e28fc1b2e33f73c861bb63bd52a1bd1c1e218269883e9a0e7f3b", func := "sluice/sluicelaw11.EpochRests", spec := "epochRests", apart := false }
def EpochRestsSaid : Prop := epochRestsRow.holds Try.pinned (OpenSpec.ofChange epochRestsSpec)

/-- ITS FALSE NEIGHBOUR: 'it returns false'. Refute it at one input. -/
def epochRestsWrong : ChangeSpec := { name := "epochRests", fn := fun _ => fun
  | [d1, d2, d3, d4] => { results := [.lit (.bool false)], args := [d1, d2, d3, d4] }
  | _ => none }
def EpochRestsWrongFalsely : Prop := epochRestsRow.holds Try.pinned (OpenSpec.ofChange epochRestsWrong)

/- THE SECOND FORM. 'bulk': how many values and letters a reading holds, each counted each time it is reached (what is shared counts as often as it is met; a slice's spare places count too). A statement '..UptoSaid' is the law's where the arguments, and the package variables that the reading takes, are together of bulk at most 1048576: NARROWER than '..Said'. Prove '..Said' where nothing that the law and all that it calls make is longer than what came in: it says more and counts as full. Else prove '..UptoSaid'. A law counts once. -/
mutual
def uptoBulk {H : Type} : DataW H → Nat
  | .lit (.string bytes) => bytes.length + 1
  | .lit _ => 1
  | .nil => 1
  | .ptr d => uptoBulk d + 1
  | .slice elems spare => uptoBulkAll elems + uptoBulkAll spare + 1
  | .agg parts => uptoBulkAll parts + 1
  | .iface _ d => uptoBulk d + 1
  | .map entries => uptoBulkEntries entries + 1
  | .held _ => 1
def uptoBulkAll {H : Type} : List (DataW H) → Nat
  | [] => 0
  | d :: r => uptoBulk d + uptoBulkAll r
def uptoBulkEntries {H : Type} : List (Lit × DataW H) → Nat
  | [] => 0
  | x :: r => uptoBulkEntry x + uptoBulkEntries r
def uptoBulkEntry {H : Type} : Lit × DataW H → Nat
  | (.string bytes, d) => bytes.length + uptoBulk d + 1
  | (_, d) => uptoBulk d + 1
 end
def uptoSmall : (H : Type) → List (DataW H) → Bool := fun _ ds => decide (uptoBulkAll ds ≤ 1048576)
def OpenSpec.upto (s : _root_.Go.ChangeSpec) : _root_.Go.OpenSpec := { _root_.Go.OpenSpec.ofChange s with cond := some uptoSmall }

/-- 'sluicelaw11.EpochBegins', WHERE WHAT IT READS IS OF BULK AT MOST 1048576: true; the input reads as it did. -/
def epochBeginsUptoRow : OpenClaim := { program := "ytmfbmfppjdkeeaa", sum := "bcde3ccf6f80e28fc1b2e33f73c861bb63bd52a1bd1c1e218269883e9a0e7f3b", func := "sluice/sluicelaw11.EpochBegins", spec := "epochBegins", recurses := true, apart := false, narrowed := true }
def EpochBeginsUptoSaid : Prop := epochBeginsUptoRow.holds Try.pinned (OpenSpec.upto epochBeginsSpec)

/-- 'sluicelaw11.EpochHears', WHERE WHAT IT READS IS OF BULK AT MOST 1048576: true; the input reads as it did. -/
def epochHearsUptoRow : OpenClaim := { program := "ytmfbmfppjdkeeaa", sum := "bcde3ccf6f80e28fc1b2e33f73c861bb63bd52a1bd1c1e218269883e9a0e7f3b", func := "sluice/sluicelaw11.EpochHears", spec := "epochHears", recurses := true, apart := false, narrowed := true }
def EpochHearsUptoSaid : Prop := epochHearsUptoRow.holds Try.pinned (OpenSpec.upto epochHearsSpec)

/-- 'sluicelaw11.EpochLooks', WHERE WHAT IT READS IS OF BULK AT MOST 1048576: true; the input reads as it did. -/
def epochLooksUptoRow : OpenClaim := { program := "ytmfbmfppjdkeeaa", sum := "bcde3ccf6f80e28fc1b2e33f73c861bb63bd52a1bd1c1e218269883e9a0e7f3b", func := "sluice/sluicelaw11.EpochLooks", spec := "epochLooks", recurses := true, apart := false, narrowed := true }
def EpochLooksUptoSaid : Prop := epochLooksUptoRow.holds Try.pinned (OpenSpec.upto epochLooksSpec)

/-- 'sluicelaw11.EpochAll', WHERE WHAT IT READS IS OF BULK AT MOST 1048576: true; the input reads as it did. -/
def epochAllUptoRow : OpenClaim := { program := "ytmfbmfppjdkeeaa", sum := "bcde3ccf6f80e28fc1b2e33f73c861bb63bd52a1bd1c1e218269883e9a0e7f3b", func := "sluice/sluicelaw11.EpochAll", spec := "epochAll", recurses := true, apart := false, narrowed := true }
def EpochAllUptoSaid : Prop := epochAllUptoRow.holds Try.pinned (OpenSpec.upto epochAllSpec)

/-- 'sluicelaw11.EpochGathers', WHERE WHAT IT READS IS OF BULK AT MOST 1048576: true; the input reads as it did. -/
def epochGathersUptoRow : OpenClaim := { program := "ytmfbmfppjdkeeaa", sum := "bcde3ccf6f80e28fc1b2e33f73c861bb63bd52a1bd1c1e218269883e9a0e7f3b", func := "sluice/sluicelaw11.EpochGathers", spec := "epochGathers", apart := false, narrowed := true }
def EpochGathersUptoSaid : Prop := epochGathersUptoRow.holds Try.pinned (OpenSpec.upto epochGathersSpec)

/-- 'sluicelaw11.EpochRests', WHERE WHAT IT READS IS OF BULK AT MOST 1048576: true; the input reads as it did. -/
def epochRestsUptoRow : OpenClaim := { program := "ytmfbmfppjdkeeaa", sum := "bcde3ccf6f80e28fc1b2e33f73c861bb63bd52a1bd1c1e218269883e9a0e7f3b", func := "sluice/sluicelaw11.EpochRests", spec := "epochRests", apart := false, narrowed := true }
def EpochRestsUptoSaid : Prop := epochRestsUptoRow.holds Try.pinned (OpenSpec.upto epochRestsSpec)

end Rows
end Go.Proofs.Ytmfbmfppjdkeeaa
