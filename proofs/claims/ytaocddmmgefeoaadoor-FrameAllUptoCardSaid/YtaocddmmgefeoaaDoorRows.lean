/-
  NARROWER THAN 'FOR EVERY INPUT', by the rows' own cells (each row's printed sentence says how): FrameSeals: laid · FrameOpens: laid · FrameAll: laid · FrameBack: laid · FrameForm: laid · FrameByte: laid · FrameBurst: laid · FrameEnds: laid.
  DERIVED. THE GIVEN ROWS OF THIS SEAT. 8 by the template 'for every input the law returns true; each argument reads behind the call as it read before'; 0 by the template 'total and deterministic' (their statements: YtaocddmmgefeoaaDoorTotals.lean).
  GIVEN WITH THE SEED: the statements are not yours to turn. If you find one false, say at which input.
  Laid BY PROGRAM, IN A SANDBOX (cutbox-rows.mjs): the forced cells as the released guide's own fill.sh prints them over the translation 494fe84631f0158d… (all of the seat's roots in one cut). By AI agents, Wed Nov 11 2026. No macro, syntax, notation, axiom, sorry.
-/
import Derived.Test.YtaocddmmgefeoaaDoorChecked
import GoSem.Claim
import GoSem.ClaimJoined
import GoSem.ClaimMapViews
import Derived.JoinedTies
import Derived.KernelRfl
namespace Go.Proofs.YtaocddmmgefeoaaDoor
/- THE CELL 'sum', in the pinned program and in every row, IS THE sha256 OF THE DUMP (.gsa) THAT YtaocddmmgefeoaaDoorProg.lean LOADS. Nothing in Lean hashes anything: it is a label: what it is worth is what the hold of that sum in a sandbox is worth. -/
noncomputable def Tryd.pinned : Pinned := { name := "ytaocddmmgefeoaadoor", sum := "494fe84631f0158d7bedf164242e075c3703845842dc1776c9f35c41f6b1719e", checked := Tryd.checked }
namespace Rows
def none {H : Type} : Left H := { results := [], args := [] }

/- WHAT THE LISTED PACKAGE-LEVEL VARIABLES READ AS WHEN THE CALL BEGINS. Each datum BY PROGRAM (the guide's laid-datum.mjs) off the statement by which the dump's own 'gosem.cut.vars' lays the variable. In a bare row this is a premise. The card (YtaocddmmgefeoaaDoorCards.lean) ties it to the program's text. -/
def laid_sluice_frame_table {H : Type} : DataW H := .agg [.lit (.int .u32 0), .lit (.int .u32 498536548), .lit (.int .u32 997073096), .lit (.int .u32 651767980), .lit (.int .u32 1994146192), .lit (.int .u32 1802195444), .lit (.int .u32 1303535960), .lit (.int .u32 1342533948), .lit (.int .u32 3988292384), .lit (.int .u32 4027552580), .lit (.int .u32 3604390888), .lit (.int .u32 3412177804), .lit (.int .u32 2607071920), .lit (.int .u32 2262029012), .lit (.int .u32 2685067896), .lit (.int .u32 3183342108)]

/-- 'sluicelaw1.FrameSeals': WHATEVER THE INPUT: true; the input reads as it did. -/
def frameSealsSpec : ChangeSpec := { name := "frameSeals", fn := fun _ => fun
  | [d] => { results := [.lit (.bool true)], args := [d] }
  | _ => none }
def frameSealsRow : OpenClaim := { program := "ytaocddmmgefeoaadoor", sum := "494fe84631f0158d7bedf164242e075c3703845842dc1776c9f35c41f6b1719e", func := "sluice/sluicelaw1.FrameSeals", spec := "frameSeals", named := ["sluice/frame.table"], apart := false, laid := [("sluice/frame.table", laid_sluice_frame_table)] }
def FrameSealsSaid : Prop := frameSealsRow.holds Tryd.pinned (OpenSpec.ofChange frameSealsSpec)

/-- ITS FALSE NEIGHBOUR: 'it returns false'. Refute it at one input. -/
def frameSealsWrong : ChangeSpec := { name := "frameSeals", fn := fun _ => fun
  | [d] => { results := [.lit (.bool false)], args := [d] }
  | _ => none }
def FrameSealsWrongFalsely : Prop := frameSealsRow.holds Tryd.pinned (OpenSpec.ofChange frameSealsWrong)

/-- 'sluicelaw1.FrameOpens': WHATEVER THE INPUT: true; the input reads as it did. -/
def frameOpensSpec : ChangeSpec := { name := "frameOpens", fn := fun _ => fun
  | [d] => { results := [.lit (.bool true)], args := [d] }
  | _ => none }
def frameOpensRow : OpenClaim := { program := "ytaocddmmgefeoaadoor", sum := "494fe84631f0158d7bedf164242e075c3703845842dc1776c9f35c41f6b1719e", func := "sluice/sluicelaw1.FrameOpens", spec := "frameOpens", named := ["sluice/frame.table"], apart := false, laid := [("sluice/frame.table", laid_sluice_frame_table)] }
def FrameOpensSaid : Prop := frameOpensRow.holds Tryd.pinned (OpenSpec.ofChange frameOpensSpec)

/-- ITS FALSE NEIGHBOUR: 'it returns false'. Refute it at one input. -/
def frameOpensWrong : ChangeSpec := { name := "frameOpens", fn := fun _ => fun
  | [d] => { results := [.lit (.bool false)], args := [d] }
  | _ => none }
def FrameOpensWrongFalsely : Prop := frameOpensRow.holds Tryd.pinned (OpenSpec.ofChange frameOpensWrong)

/-- 'sluicelaw1.FrameAll': WHATEVER THE INPUT: true; the input reads as it did. -/
def frameAllSpec : ChangeSpec := { name := "frameAll", fn := fun _ => fun
  | [d] => { results := [.lit (.bool true)], args := [d] }
  | _ => none }
def frameAllRow : OpenClaim := { program := "ytaocddmmgefeoaadoor", sum := "494fe84631f0158d7bedf164242e075c3703845842dc1776c9f35c41f6b1719e", func := "sluice/sluicelaw1.FrameAll", spec := "frameAll", named := ["sluice/frame.table"], apart := false, laid := [("sluice/frame.table", laid_sluice_frame_table)] }
def FrameAllSaid : Prop := frameAllRow.holds Tryd.pinned (OpenSpec.ofChange frameAllSpec)

/-- ITS FALSE NEIGHBOUR: 'it returns false'. Refute it at one input. -/
def frameAllWrong : ChangeSpec := { name := "frameAll", fn := fun _ => fun
  | [d] => { results := [.lit (.bool false)], args := [d] }
  | _ => none }
def FrameAllWrongFalsely : Prop := frameAllRow.holds Tryd.pinned (OpenSpec.ofChange frameAllWrong)

/-- 'sluicelaw1.FrameBack': WHATEVER THE INPUT: true; the input reads as it did. -/
def frameBackSpec : ChangeSpec := { name := "frameBack", fn := fun _ => fun
  | [d] => { results := [.lit (.bool true)], args := [d] }
  | _ => none }
def frameBackRow : OpenClaim := { program := "ytaocddmmgefeoaadoor", sum := "494fe84631f0158d7bedf164242e075c3703845842dc1776c9f35c41f6b1719e", func := "sluice/sluicelaw1.FrameBack", spec := "frameBack", named := ["sluice/frame.table"], apart := false, laid := [("sluice/frame.table", laid_sluice_frame_table)] }
def FrameBackSaid : Prop := frameBackRow.holds Tryd.pinned (OpenSpec.ofChange frameBackSpec)

/-- ITS FALSE NEIGHBOUR: 'it returns false'. Refute it at one input. -/
def frameBackWrong : ChangeSpec := { name := "frameBack", fn := fun _ => fun
  | [d] => { results := [.lit (.bool false)], args := [d] }
  | _ => none }
def FrameBackWrongFalsely : Prop := frameBackRow.holds Tryd.pinned (OpenSpec.ofChange frameBackWrong)

/-- 'sluicelaw1.FrameForm': WHATEVER THE INPUT: true; the input reads as it did. -/
def frameFormSpec : ChangeSpec := { name := "frameForm", fn := fun _ => fun
  | [d] => { results := [.lit (.bool true)], args := [d] }
  | _ => none }
def frameFormRow : OpenClaim := { program := "ytaocddmmgefeoaadoor", sum := "494fe84631f0158d7bedf164242e075c3703845842dc1776c9f35c41f6b1719e", func := "sluice/sluicelaw1.FrameForm", spec := "frameForm", named := ["sluice/frame.table"], apart := false, laid := [("sluice/frame.table", laid_sluice_frame_table)] }
def FrameFormSaid : Prop := frameFormRow.holds Tryd.pinned (OpenSpec.ofChange frameFormSpec)

/-- ITS FALSE NEIGHBOUR: 'it returns false'. Refute it at one input. -/
def frameFormWrong : ChangeSpec := { name := "frameForm", fn := fun _ => fun
  | [d] => { results := [.lit (.bool false)], args := [d] }
  | _ => none }
def FrameFormWrongFalsely : Prop := frameFormRow.holds Tryd.pinned (OpenSpec.ofChange frameFormWrong)

/-- 'sluicelaw1.FrameByte': WHATEVER THE INPUT: true; the input reads as it did. -/
def frameByteSpec : ChangeSpec := { name := "frameByte", fn := fun _ => fun
  | [d1, d2, d3] => { results := [.lit (.bool true)], args := [d1, d2, d3] }
  | _ => none }
def frameByteRow : OpenClaim := { program := "ytaocddmmgefeoaadoor", sum := "494fe84631f0158d7bedf164242e075c3703845842dc1776c9f35c41f6b1719e", func := "sluice/sluicelaw1.FrameByte", spec := "frameByte", named := ["sluice/frame.table"], apart := false, laid := [("sluice/frame.table", laid_sluice_frame_table)] }
def FrameByteSaid : Prop := frameByteRow.holds Tryd.pinned (OpenSpec.ofChange frameByteSpec)

/-- ITS FALSE NEIGHBOUR: 'it returns false'. Refute it at one input. -/
def frameByteWrong : ChangeSpec := { name := "frameByte", fn := fun _ => fun
  | [d1, d2, d3] => { results := [.lit (.bool false)], args := [d1, d2, d3] }
  | _ => none }
def FrameByteWrongFalsely : Prop := frameByteRow.holds Tryd.pinned (OpenSpec.ofChange frameByteWrong)

/-- 'sluicelaw1.FrameBurst': WHATEVER THE INPUT: true; the input reads as it did. -/
def frameBurstSpec : ChangeSpec := { name := "frameBurst", fn := fun _ => fun
  | [d1, d2, d3] => { results := [.lit (.bool true)], args := [d1, d2, d3] }
  | _ => none }
def frameBurstRow : OpenClaim := { program := "ytaocddmmgefeoaadoor", sum := "494fe84631f0158d7bedf164242e075c3703845842dc1776c9f35c41f6b1719e", func := "sluice/sluicelaw1.FrameBurst", spec := "frameBurst", named := ["sluice/frame.table"], apart := false, laid := [("sluice/frame.table", laid_sluice_frame_table)] }
def FrameBurstSaid : Prop := frameBurstRow.holds Tryd.pinned (OpenSpec.ofChange frameBurstSpec)

/-- ITS FALSE NEIGHBOUR: 'it returns false'. Refute it at one input. -/
def frameBurstWrong : ChangeSpec := { name := "frameBurst", fn := fun _ => fun
  | [d1, d2, d3] => { results := [.lit (.bool false)], args := [d1, d2, d3] }
  | _ => none }
def FrameBurstWrongFalsely : Prop := frameBurstRow.holds Tryd.pinned (OpenSpec.ofChange frameBurstWrong)

/-- 'sluicelaw1.FrameEnds': WHATEVER THE INPUT: true; the input reads as it did. -/
def frameEndsSpec : ChangeSpec := { name := "frameEnds", fn := fun _ => fun
  | [d1, d2, d3] => { results := [.lit (.bool true)], args := [d1, d2, d3] }
  | _ => none }
def frameEndsRow : OpenClaim := { program := "ytaocddmmgefeoaadoor", sum := "494fe84631f0158d7bedf164242e075c3703845842dc1776c9f35c41f6b1719e", func := "sluice/sluicelaw1.FrameEnds", spec := "frameEnds", named := ["sluice/frame.table"], apart := false, laid := [("sluice/frame.table", laid_sluice_frame_table)] }
def FrameEndsSaid : Prop := frameEndsRow.holds Tryd.pinned (OpenSpec.ofChange frameEndsSpec)

/-- ITS FALSE NEIGHBOUR: 'it returns false'. Refute it at one input. -/
def frameEndsWrong : ChangeSpec := { name := "frameEnds", fn := fun _ => fun
  | [d1, d2, d3] => { results := [.lit (.bool false)], args := [d1, d2, d3] }
  | _ => none }
def FrameEndsWrongFalsely : Prop := frameEndsRow.holds Tryd.pinned (OpenSpec.ofChange frameEndsWrong)

/- THE SECOND FORM. 'bulk': how many values and letters a reading holds, each counted each time it is reached (what is shared counts as often as it is met; a slice's spare places count too). A statement '..UptoSaid' is the law's where the arguments, and the package variables that the reading takes, are together of bulk at most 1048576: NARROWER than '..Said'. Prove '..Said' where nothing that the law and all that it calls make is longer than what came in: it says more and counts as full. Else prove '..UptoSaid'. A law counts once. -/
mutual
def uptoBulk {H : Type} : DataW H → Nat
  | .lit (.string bytes) => bytes.length + 1
  | .lit _ => 1
  | .nil => 1
  | .ptr d => uptoBulk d + 1
  | .slice elems spare => uptoBulkAll elems + uptoBulkAll spare + 1
  | .agg parts => uptoBulkAll parts + 1
  | .iface _ d => uptoBulk d + 1
  | .map entries => uptoBulkEntries entries + 1
  | .held _ => 1
def uptoBulkAll {H : Type} : List (DataW H) → Nat
  | [] => 0
  | d :: r => uptoBulk d + uptoBulkAll r
def uptoBulkEntries {H : Type} : List (Lit × DataW H) → Nat
  | [] => 0
  | x :: r => uptoBulkEntry x + uptoBulkEntries r
def uptoBulkEntry {H : Type} : Lit × DataW H → Nat
  | (.string bytes, d) => bytes.length + uptoBulk d + 1
  | (_, d) => uptoBulk d + 1
 end
def uptoSmall : (H : Type) → List (DataW H) → Bool := fun _ ds => decide (uptoBulkAll ds ≤ 1048576)
def OpenSpec.upto (s : _root_.Go.ChangeSpec) : _root_.Go.OpenSpec := { _root_.Go.OpenSpec.ofChange s with cond := some uptoSmall }

/-- 'sluicelaw1.FrameSeals', WHERE WHAT IT READS IS OF BULK AT MOST 1048576: true; the input reads as it did. -/
def frameSealsUptoRow : OpenClaim := { program := "ytaocddmmgefeoaadoor", sum := "494fe84631f0158d7bedf164242e075c3703845842dc1776c9f35c41f6b1719e", func := "sluice/sluicelaw1.FrameSeals", spec := "frameSeals", named := ["sluice/frame.table"], apart := false, laid := [("sluice/frame.table", laid_sluice_frame_table)], narrowed := true }
def FrameSealsUptoSaid : Prop := frameSealsUptoRow.holds Tryd.pinned (OpenSpec.upto frameSealsSpec)

/-- 'sluicelaw1.FrameOpens', WHERE WHAT IT READS IS OF BULK AT MOST 1048576: true; the input reads as it did. -/
def frameOpensUptoRow : OpenClaim := { program := "ytaocddmmgefeoaadoor", sum := "494fe84631f0158d7bedf164242e075c3703845842dc1776c9f35c41f6b1719e", func := "sluice/sluicelaw1.FrameOpens", spec := "frameOpens", named := ["sluice/frame.table"], apart := false, laid := [("sluice/frame.table", laid_sluice_frame_table)], narrowed := true }
def FrameOpensUptoSaid : Prop := frameOpensUptoRow.holds Tryd.pinned (OpenSpec.upto frameOpensSpec)

/-- 'sluicelaw1.FrameAll', WHERE WHAT IT READS IS OF BULK AT MOST 1048576: true; the input reads as it did. -/
def frameAllUptoRow : OpenClaim := { program := "ytaocddmmgefeoaadoor", sum := "494fe84631f0158d7bedf164242e075c3703845842dc1776c9f35c41f6b1719e", func := "sluice/sluicelaw1.FrameAll", spec := "frameAll", named := ["sluice/frame.table"], apart := false, laid := [("sluice/frame.table", laid_sluice_frame_table)], narrowed := true }
def FrameAllUptoSaid : Prop := frameAllUptoRow.holds Tryd.pinned (OpenSpec.upto frameAllSpec)

/-- 'sluicelaw1.FrameBack', WHERE WHAT IT READS IS OF BULK AT MOST 1048576: true; the input reads as it did. -/
def frameBackUptoRow : OpenClaim := { program := "ytaocddmmgefeoaadoor", sum := "494fe84631f0158d7bedf164242e075c3703845842dc1776c9f35c41f6b1719e", func := "sluice/sluicelaw1.FrameBack", spec := "frameBack", named := ["sluice/frame.table"], apart := false, laid := [("sluice/frame.table", laid_sluice_frame_table)], narrowed := true }
def FrameBackUptoSaid : Prop := frameBackUptoRow.holds Tryd.pinned (OpenSpec.upto frameBackSpec)

/-- 'sluicelaw1.FrameForm', WHERE WHAT IT READS IS OF BULK AT MOST 1048576: true; the input reads as it did. -/
def frameFormUptoRow : OpenClaim := { program := "ytaocddmmgefeoaadoor", sum := "494fe84631f0158d7bedf164242e075c3703845842dc1776c9f35c41f6b1719e", func := "sluice/sluicelaw1.FrameForm", spec := "frameForm", named := ["sluice/frame.table"], apart := false, laid := [("sluice/frame.table", laid_sluice_frame_table)], narrowed := true }
def FrameFormUptoSaid : Prop := frameFormUptoRow.holds Tryd.pinned (OpenSpec.upto frameFormSpec)

/-- 'sluicelaw1.FrameByte', WHERE WHAT IT READS IS OF BULK AT MOST 1048576: true; the input reads as it did. -/
def frameByteUptoRow : OpenClaim := { program := "ytaocddmmgefeoaadoor", sum := "494fe84631f0158d7bedf164242e075c3703845842dc1776c9f35c41f6b1719e", func := "sluice/sluicelaw1.FrameByte", spec := "frameByte", named := ["sluice/frame.table"], apart := false, laid := [("sluice/frame.table", laid_sluice_frame_table)], narrowed := true }
def FrameByteUptoSaid : Prop := frameByteUptoRow.holds Tryd.pinned (OpenSpec.upto frameByteSpec)

/-- 'sluicelaw1.FrameBurst', WHERE WHAT IT READS IS OF BULK AT MOST 1048576: true; the input reads as it did. -/
def frameBurstUptoRow : OpenClaim := { program := "ytaocddmmgefeoaadoor", sum := "494fe84631f0158d7bedf164242e075c3703845842dc1776c9f35c41f6b1719e", func := "sluice/sluicelaw1.FrameBurst", spec := "frameBurst", named := ["sluice/frame.table"], apart := false, laid := [("sluice/frame.table", laid_sluice_frame_table)], narrowed := true }
def FrameBurstUptoSaid : Prop := frameBurstUptoRow.holds Tryd.pinned (OpenSpec.upto frameBurstSpec)

/-- 'sluicelaw1.FrameEnds', WHERE WHAT IT READS IS OF BULK AT MOST 1048576: true; the input reads as it did. -/
def frameEndsUptoRow : OpenClaim := { program := "ytaocddmmgefeoaadoor", sum := "494fe84631f0158d7bedf164242e075c3703845842dc1776c9f35c41f6b1719e", func := "sluice/sluicelaw1.FrameEnds", spec := "frameEnds", named := ["sluice/frame.table"], apart := false, laid := [("sluice/frame.table", laid_sluice_frame_table)], narrowed := true }
def FrameEndsUptoSaid : Prop := frameEndsUptoRow.holds Tryd.pinned (OpenSpec.upto frameEndsSpec)

end Rows
end Go.Proofs.YtaocddmmgefeoaaDoor
