/-
  No cell of these rows narrows 'for every input' (looked for: loops, veiled, ifaces, maps, wideKeys, modest, calm, conditions, laid).
  DERIVED. THE GIVEN ROWS OF THIS SEAT. 7 by the template 'for every input the law returns true; each argument reads behind the call as it read before'; 0 by the template 'total and deterministic' (their statements: YtpdaoahamgegoaaTotals.lean).
  GIVEN WITH THE SEED: the statements are not yours to turn. If you find one false, say at which input.
  Laid BY PROGRAM, IN A SANDBOX (cutbox-rows.mjs): the forced cells as the released guide's own fill.sh prints them over the translation 4da797a3ae000d25… (all of the seat's roots in one cut). By AI agents, Wed Nov 11 2026. No macro, syntax, notation, axiom, sorry.
-/
import Derived.Test.YtpdaoahamgegoaaChecked
import GoSem.Claim
import GoSem.ClaimJoined
import GoSem.ClaimMapViews
import Derived.JoinedTies
import Derived.KernelRfl
namespace Go.Proofs.Ytpdaoahamgegoaa
/- THE CELL 'sum', in the pinned program and in every row, IS THE sha256 OF THE DUMP (.gsa) THAT YtpdaoahamgegoaaProg.lean LOADS. Nothing in Lean hashes anything: it is a label: what it is worth is what the hold of that sum in a sandbox is worth. -/
noncomputable def Try.pinned : Pinned := { name := "ytpdaoahamgegoaa", sum := "4da797a3ae000d2524a735dc658220eb2a0345567ed92d080e44ef0f0a65b8fe", checked := Try.checked }
namespace Rows
def none {H : Type} : Left H := { results := [], args := [] }

/-- 'sluicelaw20.DiskLasts': WHATEVER THE INPUT: true; the input reads as it did. -/
def diskLastsSpec : ChangeSpec := { name := "diskLasts", fn := fun _ => fun
  | [d1, d2, d3] => { results := [.lit (.bool true)], args := [d1, d2, d3] }
  | _ => none }
def diskLastsRow : OpenClaim := { program := "ytpdaoahamgegoaa", sum := "4da797a3ae000d2524a735dc658220eb2a0345567ed92d080e44ef0f0a65b8fe", func := "sluice/sluicelaw20.DiskLasts", spec := "diskLasts", apart := false }
def DiskLastsSaid : Prop := diskLastsRow.holds Try.pinned (OpenSpec.ofChange diskLastsSpec)

/-- ITS FALSE NEIGHBOUR: 'it returns false'. Refute it at one input. -/
def diskLastsWrong : ChangeSpec := { name := "diskLasts", fn := fun _ => fun
  | [d1, d2, d3] => { results := [.lit (.bool false)], args := [d1, d2, d3] }
  | _ => none }
def DiskLastsWrongFalsely : Prop := diskLastsRow.holds Try.pinned (OpenSpec.ofChange diskLastsWrong)

/-- 'sluicelaw20.DiskTorn': WHATEVER THE INPUT: true; the input reads as it did. -/
def diskTornSpec : ChangeSpec := { name := "diskTorn", fn := fun _ => fun
  | [d1, d2, d3, d4] => { results := [.lit (.bool true)], args := [d1, d2, d3, d4] }
  | _ => none }
def diskTornRow : OpenClaim := { program := "ytpdaoahamgegoaa", sum := "4da797a3ae000d2524a735dc658220eb2a0345567ed92d080e44ef0f0a65b8fe", func := "sluice/sluicelaw20.DiskTorn", spec := "diskTorn", apart := false }
def DiskTornSaid : Prop := diskTornRow.holds Try.pinned (OpenSpec.ofChange diskTornSpec)

/-- ITS FALSE NEIGHBOUR: 'it returns false'. Refute it at one input. -/
def diskTornWrong : ChangeSpec := { name := "diskTorn", fn := fun _ => fun
  | [d1, d2, d3, d4] => { results := [.lit (.bool false)], args := [d1, d2, d3, d4] }
  | _ => none }
def DiskTornWrongFalsely : Prop := diskTornRow.holds Try.pinned (OpenSpec.ofChange diskTornWrong)

/-- 'sluicelaw20.DiskCopy': WHATEVER THE INPUT: true; the input reads as it did. -/
def diskCopySpec : ChangeSpec := { name := "diskCopy", fn := fun _ => fun
  | [d1, d2, d3] => { results := [.lit (.bool true)], args := [d1, d2, d3] }
  | _ => none }
def diskCopyRow : OpenClaim := { program := "ytpdaoahamgegoaa", sum := "4da797a3ae000d2524a735dc658220eb2a0345567ed92d080e44ef0f0a65b8fe", func := "sluice/sluicelaw20.DiskCopy", spec := "diskCopy", apart := false }
def DiskCopySaid : Prop := diskCopyRow.holds Try.pinned (OpenSpec.ofChange diskCopySpec)

/-- ITS FALSE NEIGHBOUR: 'it returns false'. Refute it at one input. -/
def diskCopyWrong : ChangeSpec := { name := "diskCopy", fn := fun _ => fun
  | [d1, d2, d3] => { results := [.lit (.bool false)], args := [d1, d2, d3] }
  | _ => none }
def DiskCopyWrongFalsely : Prop := diskCopyRow.holds Try.pinned (OpenSpec.ofChange diskCopyWrong)

/-- 'sluicelaw20.DiskReads': WHATEVER THE INPUT: true; the input reads as it did. -/
def diskReadsSpec : ChangeSpec := { name := "diskReads", fn := fun _ => fun
  | [d1, d2, d3] => { results := [.lit (.bool true)], args := [d1, d2, d3] }
  | _ => none }
def diskReadsRow : OpenClaim := { program := "ytpdaoahamgegoaa", sum := "4da797a3ae000d2524a735dc658220eb2a0345567ed92d080e44ef0f0a65b8fe", func := "sluice/sluicelaw20.DiskReads", spec := "diskReads", apart := false }
def DiskReadsSaid : Prop := diskReadsRow.holds Try.pinned (OpenSpec.ofChange diskReadsSpec)

/-- ITS FALSE NEIGHBOUR: 'it returns false'. Refute it at one input. -/
def diskReadsWrong : ChangeSpec := { name := "diskReads", fn := fun _ => fun
  | [d1, d2, d3] => { results := [.lit (.bool false)], args := [d1, d2, d3] }
  | _ => none }
def DiskReadsWrongFalsely : Prop := diskReadsRow.holds Try.pinned (OpenSpec.ofChange diskReadsWrong)

/-- 'sluicelaw20.DiskPower': WHATEVER THE INPUT: true; the input reads as it did. -/
def diskPowerSpec : ChangeSpec := { name := "diskPower", fn := fun _ => fun
  | [d1, d2, d3] => { results := [.lit (.bool true)], args := [d1, d2, d3] }
  | _ => none }
def diskPowerRow : OpenClaim := { program := "ytpdaoahamgegoaa", sum := "4da797a3ae000d2524a735dc658220eb2a0345567ed92d080e44ef0f0a65b8fe", func := "sluice/sluicelaw20.DiskPower", spec := "diskPower", apart := false }
def DiskPowerSaid : Prop := diskPowerRow.holds Try.pinned (OpenSpec.ofChange diskPowerSpec)

/-- ITS FALSE NEIGHBOUR: 'it returns false'. Refute it at one input. -/
def diskPowerWrong : ChangeSpec := { name := "diskPower", fn := fun _ => fun
  | [d1, d2, d3] => { results := [.lit (.bool false)], args := [d1, d2, d3] }
  | _ => none }
def DiskPowerWrongFalsely : Prop := diskPowerRow.holds Try.pinned (OpenSpec.ofChange diskPowerWrong)

/-- 'sluicelaw20.DiskImages': WHATEVER THE INPUT: true; the input reads as it did. -/
def diskImagesSpec : ChangeSpec := { name := "diskImages", fn := fun _ => fun
  | [d1, d2, d3] => { results := [.lit (.bool true)], args := [d1, d2, d3] }
  | _ => none }
def diskImagesRow : OpenClaim := { program := "ytpdaoahamgegoaa", sum := "4da797a3ae000d2524a735dc658220eb2a0345567ed92d080e44ef0f0a65b8fe", func := "sluice/sluicelaw20.DiskImages", spec := "diskImages", apart := false }
def DiskImagesSaid : Prop := diskImagesRow.holds Try.pinned (OpenSpec.ofChange diskImagesSpec)

/-- ITS FALSE NEIGHBOUR: 'it returns false'. Refute it at one input. -/
def diskImagesWrong : ChangeSpec := { name := "diskImages", fn := fun _ => fun
  | [d1, d2, d3] => { results := [.lit (.bool false)], args := [d1, d2, d3] }
  | _ => none }
def DiskImagesWrongFalsely : Prop := diskImagesRow.holds Try.pinned (OpenSpec.ofChange diskImagesWrong)

/-- 'sluicelaw20.DiskAll': WHATEVER THE INPUT: true; the input reads as it did. -/
def diskAllSpec : ChangeSpec := { name := "diskAll", fn := fun _ => fun
  | [d1, d2, d3] => { results := [.lit (.bool true)], args := [d1, d2, d3] }
  | _ => none }
def diskAllRow : OpenClaim := { program := "ytpdaoahamgegoaa", sum := "4da797a3ae000d2524a735dc658220eb2a0345567ed92d080e44ef0f0a65b8fe", func := "sluice/sluicelaw20.DiskAll", spec := "diskAll", apart := false }
def DiskAllSaid : Prop := diskAllRow.holds Try.pinned (OpenSpec.ofChange diskAllSpec)

/-- ITS FALSE NEIGHBOUR: 'it returns false'. Refute it at one input. -/
def diskAllWrong : ChangeSpec := { name := "diskAll", fn := fun _ => fun
  | [d1, d2, d3] => { results := [.lit (.bool false)], args := [d1, d2, d3] }
  | _ => none }
def DiskAllWrongFalsely : Prop := diskAllRow.holds Try.pinned (OpenSpec.ofChange diskAllWrong)

/- THE SECOND FORM. 'bulk': how many values and letters a reading holds, each counted each time it is reached (what is shared counts as often as it is met; a slice's spare places count too). A statement '..UptoSaid' is the law's where the arguments, and the package variables that the reading takes, are together of bulk at most 1048576: NARROWER than '..Said'. Prove '..Said' where nothing that the law and all that it calls make is longer than what came in: it says more and counts as full. Else prove '..UptoSaid'. A law counts once. -/
mutual
def uptoBulk {H : Type} : DataW H → Nat
  | .lit (.string bytes) => bytes.length + 1
  | .lit _ => 1
  | .nil => 1
  | .ptr d => uptoBulk d + 1
  | .slice elems spare => uptoBulkAll elems + uptoBulkAll spare + 1
  | .agg parts => uptoBulkAll parts + 1
  | .iface _ d => uptoBulk d + 1
  | .map entries => uptoBulkEntries entries + 1
  | .held _ => 1
def uptoBulkAll {H : Type} : List (DataW H) → Nat
  | [] => 0
  | d :: r => uptoBulk d + uptoBulkAll r
def uptoBulkEntries {H : Type} : List (Lit × DataW H) → Nat
  | [] => 0
  | x :: r => uptoBulkEntry x + uptoBulkEntries r
def uptoBulkEntry {H : Type} : Lit × DataW H → Nat
  | (.string bytes, d) => bytes.length + uptoBulk d + 1
  | (_, d) => uptoBulk d + 1
 end
def uptoSmall : (H : Type) → List (DataW H) → Bool := fun _ ds => decide (uptoBulkAll ds ≤ 1048576)
def OpenSpec.upto (s : _root_.Go.ChangeSpec) : _root_.Go.OpenSpec := { _root_.Go.OpenSpec.ofChange s with cond := some uptoSmall }

/-- 'sluicelaw20.DiskLasts', WHERE WHAT IT READS IS OF BULK AT MOST 1048576: true; the input reads as it did. -/
def diskLastsUptoRow : OpenClaim := { program := "ytpdaoahamgegoaa", sum := "4da797a3ae000d2524a735dc658220eb2a0345567ed92d080e44ef0f0a65b8fe", func := "sluice/sluicelaw20.DiskLasts", spec := "diskLasts", apart := false, narrowed := true }
def DiskLastsUptoSaid : Prop := diskLastsUptoRow.holds Try.pinned (OpenSpec.upto diskLastsSpec)

/-- 'sluicelaw20.DiskTorn', WHERE WHAT IT READS IS OF BULK AT MOST 1048576: true; the input reads as it did. -/
def diskTornUptoRow : OpenClaim := { program := "ytpdaoahamgegoaa", sum := "4da797a3ae000d2524a735dc658220eb2a0345567ed92d080e44ef0f0a65b8fe", func := "sluice/sluicelaw20.DiskTorn", spec := "diskTorn", apart := false, narrowed := true }
def DiskTornUptoSaid : Prop := diskTornUptoRow.holds Try.pinned (OpenSpec.upto diskTornSpec)

/-- 'sluicelaw20.DiskCopy', WHERE WHAT IT READS IS OF BULK AT MOST 1048576: true; the input reads as it did. -/
def diskCopyUptoRow : OpenClaim := { program := "ytpdaoahamgegoaa", sum := "4da797a3ae000d2524a735dc658220eb2a0345567ed92d080e44ef0f0a65b8fe", func := "sluice/sluicelaw20.DiskCopy", spec := "diskCopy", apart := false, narrowed := true }
def DiskCopyUptoSaid : Prop := diskCopyUptoRow.holds Try.pinned (OpenSpec.upto diskCopySpec)

/-- 'sluicelaw20.DiskReads', WHERE WHAT IT READS IS OF BULK AT MOST 1048576: true; the input reads as it did. -/
def diskReadsUptoRow : OpenClaim := { program := "ytpdaoahamgegoaa", sum := "4da797a3ae000d2524a735dc658220eb2a0345567ed92d080e44ef0f0a65b8fe", func := "sluice/sluicelaw20.DiskReads", spec := "diskReads", apart := false, narrowed := true }
def DiskReadsUptoSaid : Prop := diskReadsUptoRow.holds Try.pinned (OpenSpec.upto diskReadsSpec)

/-- 'sluicelaw20.DiskPower', WHERE WHAT IT READS IS OF BULK AT MOST 1048576: true; the input reads as it did. -/
def diskPowerUptoRow : OpenClaim := { program := "ytpdaoahamgegoaa", sum := "4da797a3ae000d2524a735dc658220eb2a0345567ed92d080e44ef0f0a65b8fe", func := "sluice/sluicelaw20.DiskPower", spec := "diskPower", apart := false, narrowed := true }
def DiskPowerUptoSaid : Prop := diskPowerUptoRow.holds Try.pinned (OpenSpec.upto diskPowerSpec)

/-- 'sluicelaw20.DiskImages', WHERE WHAT IT READS IS OF BULK AT MOST 1048576: true; the input reads as it did. -/
def diskImagesUptoRow : OpenClaim := { program := "ytpdaoahamgegoaa", sum := "4da797a3ae000d2524a735dc658220eb2a0345567ed92d080e44ef0f0a65b8fe", func := "sluice/sluicelaw20.DiskImages", spec := "diskImages", apart := false, narrowed := true }
def DiskImagesUptoSaid : Prop := diskImagesUptoRow.holds Try.pinned (OpenSpec.upto diskImagesSpec)

/-- 'sluicelaw20.DiskAll', WHERE WHAT IT READS IS OF BULK AT MOST 1048576: true; the input reads as it did. -/
def diskAllUptoRow : OpenClaim := { program := "ytpdaoahamgegoaa", sum := "4da797a3ae000d2524a735dc658220eb2a0345567ed92d080e44ef0f0a65b8fe", func := "sluice/sluicelaw20.DiskAll", spec := "diskAll", apart := false, narrowed := true }
def DiskAllUptoSaid : Prop := diskAllUptoRow.holds Try.pinned (OpenSpec.upto diskAllSpec)

end Rows
end Go.Proofs.Ytpdaoahamgegoaa
