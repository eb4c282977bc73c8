/-
  No cell of these rows narrows 'for every input' (looked for: loops, veiled, ifaces, maps, wideKeys, modest, calm, conditions, laid).
  DERIVED. THE GIVEN ROWS OF THIS SEAT. 6 by the template 'for every input the law returns true; each argument reads behind the call as it read before'; 0 by the template 'total and deterministic' (their statements: YtodgnpmljdopiaaTotals.lean).
  GIVEN WITH THE SEED: the statements are not yours to turn. If you find one false, say at which input.
  Laid BY PROGRAM, IN A SANDBOX (cutbox-rows.mjs): the forced cells as the released guide's own fill.sh prints them over the translation 0a1edd75fa3b0c2c… (all of the seat's roots in one cut). By AI agents, Wed Nov 11 2026. No macro, syntax, notation, axiom, sorry.
-/
import Derived.Test.YtodgnpmljdopiaaChecked
import GoSem.Claim
import GoSem.ClaimJoined
import GoSem.ClaimMapViews
import Derived.JoinedTies
import Derived.KernelRfl
namespace Go.Proofs.Ytodgnpmljdopiaa
/- THE CELL 'sum', in the pinned program and in every row, IS THE sha256 OF THE DUMP (.gsa) THAT YtodgnpmljdopiaaProg.lean LOADS. Nothing in Lean hashes anything: it is a label: what it is worth is what the hold of that sum in a sandbox is worth. -/
noncomputable def Try.pinned : Pinned := { name := "ytodgnpmljdopiaa", sum := "0a1edd75fa3b0c2c728c65dd1e87711f656a67a58f518f3497b1c26648de6923", checked := Try.checked }
namespace Rows
def none {H : Type} : Left H := { results := [], args := [] }

/-- 'sluicelaw3.LinkNews': WHATEVER THE INPUT: true; the input reads as it did. -/
def linkNewsSpec : ChangeSpec := { name := "linkNews", fn := fun _ => fun
  | [d1, d2, d3, d4] => { results := [.lit (.bool true)], args := [d1, d2, d3, d4] }
  | _ => none }
def linkNewsRow : OpenClaim := { program := "ytodgnpmljdopiaa", sum := "0a1edd75fa3b0c2c728c65dd1e87711f656a67a58f518f3497b1c26648de6923", func := "sluice/sluicelaw3.LinkNews", spec := "linkNews", unfollowed := true, recurses := true, apart := false }
def LinkNewsSaid : Prop := linkNewsRow.holds Try.pinned (OpenSpec.ofChange linkNewsSpec)

/-- ITS FALSE NEIGHBOUR: 'it returns false'. Refute it at one input. -/
def linkNewsWrong : ChangeSpec := { name := "linkNews", fn := fun _ => fun
  | [d1, d2, d3, d4] => { results := [.lit (.bool false)], args := [d1, d2, d3, d4] }
  | _ => none }
def LinkNewsWrongFalsely : Prop := linkNewsRow.holds Try.pinned (OpenSpec.ofChange linkNewsWrong)

/-- 'sluicelaw3.LinkSends': WHATEVER THE INPUT: true; the input reads as it did. -/
def linkSendsSpec : ChangeSpec := { name := "linkSends", fn := fun _ => fun
  | [d1, d2, d3, d4, d5, d6] => { results := [.lit (.bool true)], args := [d1, d2, d3, d4, d5, d6] }
  | _ => none }
def linkSendsRow : OpenClaim := { program := "ytodgnpmljdopiaa", sum := "0a1edd75fa3b0c2c728c65dd1e87711f656a67a58f518f3497b1c26648de6923", func := "sluice/sluicelaw3.LinkSends", spec := "linkSends", unfollowed := true, recurses := true, apart := false }
def LinkSendsSaid : Prop := linkSendsRow.holds Try.pinned (OpenSpec.ofChange linkSendsSpec)

/-- ITS FALSE NEIGHBOUR: 'it returns false'. Refute it at one input. -/
def linkSendsWrong : ChangeSpec := { name := "linkSends", fn := fun _ => fun
  | [d1, d2, d3, d4, d5, d6] => { results := [.lit (.bool false)], args := [d1, d2, d3, d4, d5, d6] }
  | _ => none }
def LinkSendsWrongFalsely : Prop := linkSendsRow.holds Try.pinned (OpenSpec.ofChange linkSendsWrong)

/-- 'sluicelaw3.LinkAll': WHATEVER THE INPUT: true; the input reads as it did. -/
def linkAllSpec : ChangeSpec := { name := "linkAll", fn := fun _ => fun
  | [d1, d2, d3, d4, d5, d6] => { results := [.lit (.bool true)], args := [d1, d2, d3, d4, d5, d6] }
  | _ => none }
def linkAllRow : OpenClaim := { program := "ytodgnpmljdopiaa", sum := "0a1edd75fa3b0c2c728c65dd1e87711f656a67a58f518f3497b1c26648de6923", func := "sluice/sluicelaw3.LinkAll", spec := "linkAll", unfollowed := true, recurses := true, apart := false }
def LinkAllSaid : Prop := linkAllRow.holds Try.pinned (OpenSpec.ofChange linkAllSpec)

/-- ITS FALSE NEIGHBOUR: 'it returns false'. Refute it at one input. -/
def linkAllWrong : ChangeSpec := { name := "linkAll", fn := fun _ => fun
  | [d1, d2, d3, d4, d5, d6] => { results := [.lit (.bool false)], args := [d1, d2, d3, d4, d5, d6] }
  | _ => none }
def LinkAllWrongFalsely : Prop := linkAllRow.holds Try.pinned (OpenSpec.ofChange linkAllWrong)

/-- 'sluicelaw3.LinkOnce': WHATEVER THE INPUT: true; the input reads as it did. -/
def linkOnceSpec : ChangeSpec := { name := "linkOnce", fn := fun _ => fun
  | [d1, d2, d3, d4] => { results := [.lit (.bool true)], args := [d1, d2, d3, d4] }
  | _ => none }
def linkOnceRow : OpenClaim := { program := "ytodgnpmljdopiaa", sum := "0a1edd75fa3b0c2c728c65dd1e87711f656a67a58f518f3497b1c26648de6923", func := "sluice/sluicelaw3.LinkOnce", spec := "linkOnce", unfollowed := true, recurses := true, apart := false }
def LinkOnceSaid : Prop := linkOnceRow.holds Try.pinned (OpenSpec.ofChange linkOnceSpec)

/-- ITS FALSE NEIGHBOUR: 'it returns false'. Refute it at one input. -/
def linkOnceWrong : ChangeSpec := { name := "linkOnce", fn := fun _ => fun
  | [d1, d2, d3, d4] => { results := [.lit (.bool false)], args := [d1, d2, d3, d4] }
  | _ => none }
def LinkOnceWrongFalsely : Prop := linkOnceRow.holds Try.pinned (OpenSpec.ofChange linkOnceWrong)

/-- 'sluicelaw3.LinkCalm': WHATEVER THE INPUT: true; the input reads as it did. -/
def linkCalmSpec : ChangeSpec := { name := "linkCalm", fn := fun _ => fun
  | [d1, d2, d3, d4, d5] => { results := [.lit (.bool true)], args := [d1, d2, d3, d4, d5] }
  | _ => none }
def linkCalmRow : OpenClaim := { program := "ytodgnpmljdopiaa", sum := "0a1edd75fa3b0c2c728c65dd1e87711f656a67a58f518f3497b1c26648de6923", func := "sluice/sluicelaw3.LinkCalm", spec := "linkCalm", unfollowed := true, recurses := true, apart := false }
def LinkCalmSaid : Prop := linkCalmRow.holds Try.pinned (OpenSpec.ofChange linkCalmSpec)

/-- ITS FALSE NEIGHBOUR: 'it returns false'. Refute it at one input. -/
def linkCalmWrong : ChangeSpec := { name := "linkCalm", fn := fun _ => fun
  | [d1, d2, d3, d4, d5] => { results := [.lit (.bool false)], args := [d1, d2, d3, d4, d5] }
  | _ => none }
def LinkCalmWrongFalsely : Prop := linkCalmRow.holds Try.pinned (OpenSpec.ofChange linkCalmWrong)

/-- 'sluicelaw3.LinkStill': WHATEVER THE INPUT: true; the input reads as it did. -/
def linkStillSpec : ChangeSpec := { name := "linkStill", fn := fun _ => fun
  | [d1, d2, d3, d4] => { results := [.lit (.bool true)], args := [d1, d2, d3, d4] }
  | _ => none }
def linkStillRow : OpenClaim := { program := "ytodgnpmljdopiaa", sum := "0a1edd75fa3b0c2c728c65dd1e87711f656a67a58f518f3497b1c26648de6923", func := "sluice/sluicelaw3.LinkStill", spec := "linkStill", unfollowed := true, recurses := true, apart := false }
def LinkStillSaid : Prop := linkStillRow.holds Try.pinned (OpenSpec.ofChange linkStillSpec)

/-- ITS FALSE NEIGHBOUR: 'it returns false'. Refute it at one input. -/
def linkStillWrong : ChangeSpec := { name := "linkStill", fn := fun _ => fun
  | [d1, d2, d3, d4] => { results := [.lit (.bool false)], args := [d1, d2, d3, d4] }
  | _ => none }
def LinkStillWrongFalsely : Prop := linkStillRow.holds Try.pinned (OpenSpec.ofChange linkStillWrong)

/- THE SECOND FORM. 'bulk': how many values and letters a reading holds, each counted each time it is reached (what is shared counts as often as it is met; a slice's spare places count too). A statement '..UptoSaid' is the law's where the arguments, and the package variables that the reading takes, are together of bulk at most 1048576: NARROWER than '..Said'. Prove '..Said' where nothing that the law and all that it calls make is longer than what came in: it says more and counts as full. Else prove '..UptoSaid'. A law counts once. -/
mutual
def uptoBulk {H : Type} : DataW H → Nat
  | .lit (.string bytes) => bytes.length + 1
  | .lit _ => 1
  | .nil => 1
  | .ptr d => uptoBulk d + 1
  | .slice elems spare => uptoBulkAll elems + uptoBulkAll spare + 1
  | .agg parts => uptoBulkAll parts + 1
  | .iface _ d => uptoBulk d + 1
  | .map entries => uptoBulkEntries entries + 1
  | .held _ => 1
def uptoBulkAll {H : Type} : List (DataW H) → Nat
  | [] => 0
  | d :: r => uptoBulk d + uptoBulkAll r
def uptoBulkEntries {H : Type} : List (Lit × DataW H) → Nat
  | [] => 0
  | x :: r => uptoBulkEntry x + uptoBulkEntries r
def uptoBulkEntry {H : Type} : Lit × DataW H → Nat
  | (.string bytes, d) => bytes.length + uptoBulk d + 1
  | (_, d) => uptoBulk d + 1
 end
def uptoSmall : (H : Type) → List (DataW H) → Bool := fun _ ds => decide (uptoBulkAll ds ≤ 1048576)
def OpenSpec.upto (s : _root_.Go.ChangeSpec) : _root_.Go.OpenSpec := { _root_.Go.OpenSpec.ofChange s with cond := some uptoSmall }

/-- 'sluicelaw3.LinkNews', WHERE WHAT IT READS IS OF BULK AT MOST 1048576: true; the input reads as it did. -/
def linkNewsUptoRow : OpenClaim := { program := "ytodgnpmljdopiaa", sum := "0a1edd75fa3b0c2c728c65dd1e87711f656a67a58f518f3497b1c26648de6923", func := "sluice/sluicelaw3.LinkNews", spec := "linkNews", unfollowed := true, recurses := true, apart := false, narrowed := true }
def LinkNewsUptoSaid : Prop := linkNewsUptoRow.holds Try.pinned (OpenSpec.upto linkNewsSpec)

/-- 'sluicelaw3.LinkSends', WHERE WHAT IT READS IS OF BULK AT MOST 1048576: true; the input reads as it did. -/
def linkSendsUptoRow : OpenClaim := { program := "ytodgnpmljdopiaa", sum := "0a1edd75fa3b0c2c728c65dd1e87711f656a67a58f518f3497b1c26648de6923", func := "sluice/sluicelaw3.LinkSends", spec := "linkSends", unfollowed := true, recurses := true, apart := false, narrowed := true }
def LinkSendsUptoSaid : Prop := linkSendsUptoRow.holds Try.pinned (OpenSpec.upto linkSendsSpec)

/-- 'sluicelaw3.LinkAll', WHERE WHAT IT READS IS OF BULK AT MOST 1048576: true; the input reads as it did. -/
def linkAllUptoRow : OpenClaim := { program := "ytodgnpmljdopiaa", sum := "0a1edd75fa3b0c2c728c65dd1e87711f656a67a58f518f3497b1c26648de6923", func := "sluice/sluicelaw3.LinkAll", spec := "linkAll", unfollowed := true, recurses := true, apart := false, narrowed := true }
def LinkAllUptoSaid : Prop := linkAllUptoRow.holds Try.pinned (OpenSpec.upto linkAllSpec)

/-- 'sluicelaw3.LinkOnce', WHERE WHAT IT READS IS OF BULK AT MOST 1048576: true; the input reads as it did. -/
def linkOnceUptoRow : OpenClaim := { program := "ytodgnpmljdopiaa", sum := "0a1edd75fa3b0c2c728c65dd1e87711f656a67a58f518f3497b1c26648de6923", func := "sluice/sluicelaw3.LinkOnce", spec := "linkOnce", unfollowed := true, recurses := true, apart := false, narrowed := true }
def LinkOnceUptoSaid : Prop := linkOnceUptoRow.holds Try.pinned (OpenSpec.upto linkOnceSpec)

/-- 'sluicelaw3.LinkCalm', WHERE WHAT IT READS IS OF BULK AT MOST 1048576: true; the input reads as it did. -/
def linkCalmUptoRow : OpenClaim := { program := "ytodgnpmljdopiaa", sum := "0a1edd75fa3b0c2c728c65dd1e87711f656a67a58f518f3497b1c26648de6923", func := "sluice/sluicelaw3.LinkCalm", spec := "linkCalm", unfollowed := true, recurses := true, apart := false, narrowed := true }
def LinkCalmUptoSaid : Prop := linkCalmUptoRow.holds Try.pinned (OpenSpec.upto linkCalmSpec)

/-- 'sluicelaw3.LinkStill', WHERE WHAT IT READS IS OF BULK AT MOST 1048576: true; the input reads as it did. -/
def linkStillUptoRow : OpenClaim := { program := "ytodgnpmljdopiaa", sum := "0a1edd75fa3b0c2c728c65dd1e87711f656a67a58f518f3497b1c26648de6923", func := "sluice/sluicelaw3.LinkStill", spec := "linkStill", unfollowed := true, recurses := true, apart := false, narrowed := true }
def LinkStillUptoSaid : Prop := linkStillUptoRow.holds Try.pinned (OpenSpec.upto linkStillSpec)

end Rows
end Go.Proofs.Ytodgnpmljdopiaa
