/-
  No cell of these rows narrows 'for every input' (looked for: loops, veiled, ifaces, maps, wideKeys, modest, calm, conditions, laid).
  DERIVED. THE GIVEN ROWS OF THIS SEAT. 5 by the template 'for every input the law returns true; each argument reads behind the call as it read before'; 0 by the template 'total and deterministic' (their statements: YtmhjlngkdppgpaaTotals.lean).
  GIVEN WITH THE SEED: the statements are not yours to turn. If you find one false, say at which input.
  Laid BY PROGRAM, IN A SANDBOX (cutbox-rows.mjs): the forced cells as the released guide's own fill.sh prints them over the translation 16e13bbb595a47db… (all of the seat's roots in one cut). By AI agents, Wed Nov 11 2026. No macro, syntax, notation, axiom, sorry.
-/
import Derived.Test.YtmhjlngkdppgpaaChecked
import GoSem.Claim
import GoSem.ClaimJoined
import GoSem.ClaimMapViews
import Derived.JoinedTies
import Derived.KernelRfl
namespace Go.Proofs.Ytmhjlngkdppgpaa
/- THE CELL 'sum', in the pinned program and in every row, IS THE sha256 OF THE DUMP (.gsa) THAT YtmhjlngkdppgpaaProg.lean LOADS. Nothing in Lean hashes anything: it is a label: what it is worth is what the hold of that sum in a sandbox is worth. -/
noncomputable def Try.pinned : Pinned := { name := "ytmhjlngkdppgpaa", sum := "16e13bbb595a47db202e30b70fa0a72458f09fce3513c5d75597be5ab3f0bab7", checked := Try.checked }
namespace Rows
def none {H : Type} : Left H := { results := [], args := [] }

/-- 'sluicelaw4.NetOrder': WHATEVER THE INPUT: true; the input reads as it did. -/
def netOrderSpec : ChangeSpec := { name := "netOrder", fn := fun _ => fun
  | [d1, d2] => { results := [.lit (.bool true)], args := [d1, d2] }
  | _ => none }
def netOrderRow : OpenClaim := { program := "ytmhjlngkdppgpaa", sum := "16e13bbb595a47db202e30b70fa0a72458f09fce3513c5d75597be5ab3f0bab7", func := "sluice/sluicelaw4.NetOrder", spec := "netOrder", apart := false }
def NetOrderSaid : Prop := netOrderRow.holds Try.pinned (OpenSpec.ofChange netOrderSpec)

/-- ITS FALSE NEIGHBOUR: 'it returns false'. Refute it at one input. -/
def netOrderWrong : ChangeSpec := { name := "netOrder", fn := fun _ => fun
  | [d1, d2] => { results := [.lit (.bool false)], args := [d1, d2] }
  | _ => none }
def NetOrderWrongFalsely : Prop := netOrderRow.holds Try.pinned (OpenSpec.ofChange netOrderWrong)

/-- 'sluicelaw4.NetMoves': WHATEVER THE INPUT: true; the input reads as it did. -/
def netMovesSpec : ChangeSpec := { name := "netMoves", fn := fun _ => fun
  | [d1, d2, d3] => { results := [.lit (.bool true)], args := [d1, d2, d3] }
  | _ => none }
def netMovesRow : OpenClaim := { program := "ytmhjlngkdppgpaa", sum := "16e13bbb595a47db202e30b70fa0a72458f09fce3513c5d75597be5ab3f0bab7", func := "sluice/sluicelaw4.NetMoves", spec := "netMoves", apart := false }
def NetMovesSaid : Prop := netMovesRow.holds Try.pinned (OpenSpec.ofChange netMovesSpec)

/-- ITS FALSE NEIGHBOUR: 'it returns false'. Refute it at one input. -/
def netMovesWrong : ChangeSpec := { name := "netMoves", fn := fun _ => fun
  | [d1, d2, d3] => { results := [.lit (.bool false)], args := [d1, d2, d3] }
  | _ => none }
def NetMovesWrongFalsely : Prop := netMovesRow.holds Try.pinned (OpenSpec.ofChange netMovesWrong)

/-- 'sluicelaw4.NetLetters': WHATEVER THE INPUT: true; the input reads as it did. -/
def netLettersSpec : ChangeSpec := { name := "netLetters", fn := fun _ => fun
  | [d1, d2] => { results := [.lit (.bool true)], args := [d1, d2] }
  | _ => none }
def netLettersRow : OpenClaim := { program := "ytmhjlngkdppgpaa", sum := "16e13bbb595a47db202e30b70fa0a72458f09fce3513c5d75597be5ab3f0bab7", func := "sluice/sluicelaw4.NetLetters", spec := "netLetters", apart := false }
def NetLettersSaid : Prop := netLettersRow.holds Try.pinned (OpenSpec.ofChange netLettersSpec)

/-- ITS FALSE NEIGHBOUR: 'it returns false'. Refute it at one input. -/
def netLettersWrong : ChangeSpec := { name := "netLetters", fn := fun _ => fun
  | [d1, d2] => { results := [.lit (.bool false)], args := [d1, d2] }
  | _ => none }
def NetLettersWrongFalsely : Prop := netLettersRow.holds Try.pinned (OpenSpec.ofChange netLettersWrong)

/-- 'sluicelaw4.NetAll': WHATEVER THE INPUT: true; the input reads as it did. -/
def netAllSpec : ChangeSpec := { name := "netAll", fn := fun _ => fun
  | [d1, d2, d3] => { results := [.lit (.bool true)], args := [d1, d2, d3] }
  | _ => none }
def netAllRow : OpenClaim := { program := "ytmhjlngkdppgpaa", sum := "16e13bbb595a47db202e30b70fa0a72458f09fce3513c5d75597be5ab3f0bab7", func := "sluice/sluicelaw4.NetAll", spec := "netAll", apart := false }
def NetAllSaid : Prop := netAllRow.holds Try.pinned (OpenSpec.ofChange netAllSpec)

/-- ITS FALSE NEIGHBOUR: 'it returns false'. Refute it at one input. -/
def netAllWrong : ChangeSpec := { name := "netAll", fn := fun _ => fun
  | [d1, d2, d3] => { results := [.lit (.bool false)], args := [d1, d2, d3] }
  | _ => none }
def NetAllWrongFalsely : Prop := netAllRow.holds Try.pinned (OpenSpec.ofChange netAllWrong)

/-- 'sluicelaw4.NetHonest': WHATEVER THE INPUT: true; the input reads as it did. -/
def netHonestSpec : ChangeSpec := { name := "netHonest", fn := fun _ => fun
  | [d1, d2] => { results := [.lit (.bool true)], args := [d1, d2] }
  | _ => none }
def netHonestRow : OpenClaim := { program := "ytmhjlngkdppgpaa", sum := "16e13bbb595a47db202e30b70fa0a72458f09fce3513c5d75597be5ab3f0bab7", func := "sluice/sluicelaw4.NetHonest", spec := "netHonest", apart := false }
def NetHonestSaid : Prop := netHonestRow.holds Try.pinned (OpenSpec.ofChange netHonestSpec)

/-- ITS FALSE NEIGHBOUR: 'it returns false'. Refute it at one input. -/
def netHonestWrong : ChangeSpec := { name := "netHonest", fn := fun _ => fun
  | [d1, d2] => { results := [.lit (.bool false)], args := [d1, d2] }
  | _ => none }
def NetHonestWrongFalsely : Prop := netHonestRow.holds Try.pinned (OpenSpec.ofChange netHonestWrong)

/- THE SECOND FORM. 'bulk': how many values and letters a reading holds, each counted each time it is reached (what is shared counts as often as it is met; a slice's spare places count too). A statement '..UptoSaid' is the law's where the arguments, and the package variables that the reading takes, are together of bulk at most 1048576: NARROWER than '..Said'. Prove '..Said' where nothing that the law and all that it calls make is longer than what came in: it says more and counts as full. Else prove '..UptoSaid'. A law counts once. -/
mutual
def uptoBulk {H : Type} : DataW H → Nat
  | .lit (.string bytes) => bytes.length + 1
  | .lit _ => 1
  | .nil => 1
  | .ptr d => uptoBulk d + 1
  | .slice elems spare => uptoBulkAll elems + uptoBulkAll spare + 1
  | .agg parts => uptoBulkAll parts + 1
  | .iface _ d => uptoBulk d + 1
  | .map entries => uptoBulkEntries entries + 1
  | .held _ => 1
def uptoBulkAll {H : Type} : List (DataW H) → Nat
  | [] => 0
  | d :: r => uptoBulk d + uptoBulkAll r
def uptoBulkEntries {H : Type} : List (Lit × DataW H) → Nat
  | [] => 0
  | x :: r => uptoBulkEntry x + uptoBulkEntries r
def uptoBulkEntry {H : Type} : Lit × DataW H → Nat
  | (.string bytes, d) => bytes.length + uptoBulk d + 1
  | (_, d) => uptoBulk d + 1
 end
def uptoSmall : (H : Type) → List (DataW H) → Bool := fun _ ds => decide (uptoBulkAll ds ≤ 1048576)
def OpenSpec.upto (s : _root_.Go.ChangeSpec) : _root_.Go.OpenSpec := { _root_.Go.OpenSpec.ofChange s with cond := some uptoSmall }

/-- 'sluicelaw4.NetOrder', WHERE WHAT IT READS IS OF BULK AT MOST 1048576: true; the input reads as it did. -/
def netOrderUptoRow : OpenClaim := { program := "ytmhjlngkdppgpaa", sum := "16e13bbb595a47db202e30b70fa0a72458f09fce3513c5d75597be5ab3f0bab7", func := "sluice/sluicelaw4.NetOrder", spec := "netOrder", apart := false, narrowed := true }
def NetOrderUptoSaid : Prop := netOrderUptoRow.holds Try.pinned (OpenSpec.upto netOrderSpec)

/-- 'sluicelaw4.NetMoves', WHERE WHAT IT READS IS OF BULK AT MOST 1048576: true; the input reads as it did. -/
def netMovesUptoRow : OpenClaim := { program := "ytmhjlngkdppgpaa", sum := "16e13bbb595a47db202e30b70fa0a72458f09fce3513c5d75597be5ab3f0bab7", func := "sluice/sluicelaw4.NetMoves", spec := "netMoves", apart := false, narrowed := true }
def NetMovesUptoSaid : Prop := netMovesUptoRow.holds Try.pinned (OpenSpec.upto netMovesSpec)

/-- 'sluicelaw4.NetLetters', WHERE WHAT IT READS IS OF BULK AT MOST 1048576: true; the input reads as it did. -/
def netLettersUptoRow : OpenClaim := { program := "ytmhjlngkdppgpaa", sum := "16e13bbb595a47db202e30b70fa0a72458f09fce3513c5d75597be5ab3f0bab7", func := "sluice/sluicelaw4.NetLetters", spec := "netLetters", apart := false, narrowed := true }
def NetLettersUptoSaid : Prop := netLettersUptoRow.holds Try.pinned (OpenSpec.upto netLettersSpec)

/-- 'sluicelaw4.NetAll', WHERE WHAT IT READS IS OF BULK AT MOST 1048576: true; the input reads as it did. -/
def netAllUptoRow : OpenClaim := { program := "ytmhjlngkdppgpaa", sum := "16e13bbb595a47db202e30b70fa0a72458f09fce3513c5d75597be5ab3f0bab7", func := "sluice/sluicelaw4.NetAll", spec := "netAll", apart := false, narrowed := true }
def NetAllUptoSaid : Prop := netAllUptoRow.holds Try.pinned (OpenSpec.upto netAllSpec)

/-- 'sluicelaw4.NetHonest', WHERE WHAT IT READS IS OF BULK AT MOST 1048576: true; the input reads as it did. -/
def netHonestUptoRow : OpenClaim := { program := "ytmhjlngkdppgpaa", sum := "16e13bbb595a47db202e30b70fa0a72458f09fce3513c5d75597be5ab3f0bab7", func := "sluice/sluicelaw4.NetHonest", spec := "netHonest", apart := false, narrowed := true }
def NetHonestUptoSaid : Prop := netHonestUptoRow.holds Try.pinned (OpenSpec.upto netHonestSpec)

end Rows
end Go.Proofs.Ytmhjlngkdppgpaa
