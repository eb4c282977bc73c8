/-
  No cell of these rows narrows 'for every input' (looked for: loops, veiled, ifaces, maps, wideKeys, modest, calm, conditions, laid).
  DERIVED. THE GIVEN ROWS OF THIS SEAT. 7 by the template 'for every input the law returns true; each argument reads behind the call as it read before'; 0 by the template 'total and deterministic' (their statements: YtimebochhbfkgaaTotals.lean).
  GIVEN WITH THE SEED: the statements are not yours to turn. If you find one false, say at which input.
  Laid BY PROGRAM, IN A SANDBOX (cutbox-rows.mjs): the forced cells as the released guide's own fill.sh prints them over the translation ece32ce26d2a9b33… (all of the seat's roots in one cut). By AI agents, Wed Nov 11 2026. No macro, syntax, notation, axiom, sorry.
-/
import Derived.Test.YtimebochhbfkgaaChecked
import GoSem.Claim
import GoSem.ClaimJoined
import GoSem.ClaimMapViews
import Derived.JoinedTies
import Derived.KernelRfl
namespace Go.Proofs.Ytimebochhbfkgaa
/- THE CELL 'sum', in the pinned program and in every row, IS THE sha256 OF THE DUMP (.gsa) THAT YtimebochhbfkgaaProg.lean LOADS. Nothing in Lean hashes anything: it is a label: what it is worth is what the hold of that sum in a sandbox is worth. -/
noncomputable def Try.pinned : Pinned := { name := "ytimebochhbfkgaa", sum := "ece32ce26d2a9b333c5f3db1d77f6a49bd2a380f83657d12d321fda2c9cb85ee", checked := Try.checked }
namespace Rows
def none {H : Type} : Left H := { results := [], args := [] }

/-- 'sluicelaw21.JournalApart': WHATEVER THE INPUT: true; the input reads as it did. -/
def journalApartSpec : ChangeSpec := { name := "journalApart", fn := fun _ => fun
  | [d1, d2] => { results := [.lit (.bool true)], args := [d1, d2] }
  | _ => none }
def journalApartRow : OpenClaim := { program := "ytimebochhbfkgaa", sum := "ece32ce26d2a9b333c5f3db1d77f6a49bd2a380f83657d12d321fda2c9cb85ee", func := "sluice/sluicelaw21.JournalApart", spec := "journalApart", unfollowed := true, recurses := true, apart := false }
def JournalApartSaid : Prop := journalApartRow.holds Try.pinned (OpenSpec.ofChange journalApartSpec)

/-- ITS FALSE NEIGHBOUR: 'it returns false'. Refute it at one input. -/
def journalApartWrong : ChangeSpec := { name := "journalApart", fn := fun _ => fun
  | [d1, d2] => { results := [.lit (.bool false)], args := [d1, d2] }
  | _ => none }
def JournalApartWrongFalsely : Prop := journalApartRow.holds Try.pinned (OpenSpec.ofChange journalApartWrong)

/-- 'sluicelaw21.JournalFills': WHATEVER THE INPUT: true; the input reads as it did. -/
def journalFillsSpec : ChangeSpec := { name := "journalFills", fn := fun _ => fun
  | [d1, d2] => { results := [.lit (.bool true)], args := [d1, d2] }
  | _ => none }
def journalFillsRow : OpenClaim := { program := "ytimebochhbfkgaa", sum := "ece32ce26d2a9b333c5f3db1d77f6a49bd2a380f83657d12d321fda2c9cb85ee", func := "sluice/sluicelaw21.JournalFills", spec := "journalFills", unfollowed := true, recurses := true, apart := false }
def JournalFillsSaid : Prop := journalFillsRow.holds Try.pinned (OpenSpec.ofChange journalFillsSpec)

/-- ITS FALSE NEIGHBOUR: 'it returns false'. Refute it at one input. -/
def journalFillsWrong : ChangeSpec := { name := "journalFills", fn := fun _ => fun
  | [d1, d2] => { results := [.lit (.bool false)], args := [d1, d2] }
  | _ => none }
def JournalFillsWrongFalsely : Prop := journalFillsRow.holds Try.pinned (OpenSpec.ofChange journalFillsWrong)

/-- 'sluicelaw21.JournalLasts': WHATEVER THE INPUT: true; the input reads as it did. -/
def journalLastsSpec : ChangeSpec := { name := "journalLasts", fn := fun _ => fun
  | [d1, d2] => { results := [.lit (.bool true)], args := [d1, d2] }
  | _ => none }
def journalLastsRow : OpenClaim := { program := "ytimebochhbfkgaa", sum := "ece32ce26d2a9b333c5f3db1d77f6a49bd2a380f83657d12d321fda2c9cb85ee", func := "sluice/sluicelaw21.JournalLasts", spec := "journalLasts", unfollowed := true, recurses := true, apart := false }
def JournalLastsSaid : Prop := journalLastsRow.holds Try.pinned (OpenSpec.ofChange journalLastsSpec)

/-- ITS FALSE NEIGHBOUR: 'it returns false'. Refute it at one input. -/
def journalLastsWrong : ChangeSpec := { name := "journalLasts", fn := fun _ => fun
  | [d1, d2] => { results := [.lit (.bool false)], args := [d1, d2] }
  | _ => none }
def JournalLastsWrongFalsely : Prop := journalLastsRow.holds Try.pinned (OpenSpec.ofChange journalLastsWrong)

/-- 'sluicelaw21.JournalTorn': WHATEVER THE INPUT: true; the input reads as it did. -/
def journalTornSpec : ChangeSpec := { name := "journalTorn", fn := fun _ => fun
  | [d1, d2, d3, d4, d5, d6] => { results := [.lit (.bool true)], args := [d1, d2, d3, d4, d5, d6] }
  | _ => none }
def journalTornRow : OpenClaim := { program := "ytimebochhbfkgaa", sum := "ece32ce26d2a9b333c5f3db1d77f6a49bd2a380f83657d12d321fda2c9cb85ee", func := "sluice/sluicelaw21.JournalTorn", spec := "journalTorn", unfollowed := true, recurses := true, apart := false }
def JournalTornSaid : Prop := journalTornRow.holds Try.pinned (OpenSpec.ofChange journalTornSpec)

/-- ITS FALSE NEIGHBOUR: 'it returns false'. Refute it at one input. -/
def journalTornWrong : ChangeSpec := { name := "journalTorn", fn := fun _ => fun
  | [d1, d2, d3, d4, d5, d6] => { results := [.lit (.bool false)], args := [d1, d2, d3, d4, d5, d6] }
  | _ => none }
def JournalTornWrongFalsely : Prop := journalTornRow.holds Try.pinned (OpenSpec.ofChange journalTornWrong)

/-- 'sluicelaw21.JournalOpens': WHATEVER THE INPUT: true; the input reads as it did. -/
def journalOpensSpec : ChangeSpec := { name := "journalOpens", fn := fun _ => fun
  | [d1, d2] => { results := [.lit (.bool true)], args := [d1, d2] }
  | _ => none }
def journalOpensRow : OpenClaim := { program := "ytimebochhbfkgaa", sum := "ece32ce26d2a9b333c5f3db1d77f6a49bd2a380f83657d12d321fda2c9cb85ee", func := "sluice/sluicelaw21.JournalOpens", spec := "journalOpens", unfollowed := true, recurses := true, apart := false }
def JournalOpensSaid : Prop := journalOpensRow.holds Try.pinned (OpenSpec.ofChange journalOpensSpec)

/-- ITS FALSE NEIGHBOUR: 'it returns false'. Refute it at one input. -/
def journalOpensWrong : ChangeSpec := { name := "journalOpens", fn := fun _ => fun
  | [d1, d2] => { results := [.lit (.bool false)], args := [d1, d2] }
  | _ => none }
def JournalOpensWrongFalsely : Prop := journalOpensRow.holds Try.pinned (OpenSpec.ofChange journalOpensWrong)

/-- 'sluicelaw21.JournalAppends': WHATEVER THE INPUT: true; the input reads as it did. -/
def journalAppendsSpec : ChangeSpec := { name := "journalAppends", fn := fun _ => fun
  | [d1, d2] => { results := [.lit (.bool true)], args := [d1, d2] }
  | _ => none }
def journalAppendsRow : OpenClaim := { program := "ytimebochhbfkgaa", sum := "ece32ce26d2a9b333c5f3db1d77f6a49bd2a380f83657d12d321fda2c9cb85ee", func := "sluice/sluicelaw21.JournalAppends", spec := "journalAppends", unfollowed := true, recurses := true, apart := false }
def JournalAppendsSaid : Prop := journalAppendsRow.holds Try.pinned (OpenSpec.ofChange journalAppendsSpec)

/-- ITS FALSE NEIGHBOUR: 'it returns false'. Refute it at one input. -/
def journalAppendsWrong : ChangeSpec := { name := "journalAppends", fn := fun _ => fun
  | [d1, d2] => { results := [.lit (.bool false)], args := [d1, d2] }
  | _ => none }
def JournalAppendsWrongFalsely : Prop := journalAppendsRow.holds Try.pinned (OpenSpec.ofChange journalAppendsWrong)

/-- 'sluicelaw21.JournalAll': WHATEVER THE INPUT: true; the input reads as it did. -/
def journalAllSpec : ChangeSpec := { name := "journalAll", fn := fun _ => fun
  | [d1, d2, d3] => { results := [.lit (.bool true)], args := [d1, d2, d3] }
  | _ => none }
def journalAllRow : OpenClaim := { program := "ytimebochhbfkgaa", sum := "ece32ce26d2a9b333c5f3db1d77f6a49bd2a380f83657d12d321fda2c9cb85ee", func := "sluice/sluicelaw21.JournalAll", spec := "journalAll", unfollowed := true, recurses := true, apart := false }
def JournalAllSaid : Prop := journalAllRow.holds Try.pinned (OpenSpec.ofChange journalAllSpec)

/-- ITS FALSE NEIGHBOUR: 'it returns false'. Refute it at one input. -/
def journalAllWrong : ChangeSpec := { name := "journalAll", fn := fun _ => fun
  | [d1, d2, d3] => { results := [.lit (.bool false)], args := [d1, d2, d3] }
  | _ => none }
def JournalAllWrongFalsely : Prop := journalAllRow.holds Try.pinned (OpenSpec.ofChange journalAllWrong)

/- THE SECOND FORM. 'bulk': how many values and letters a reading holds, each counted each time it is reached (what is shared counts as often as it is met; a slice's spare places count too). A statement '..UptoSaid' is the law's where the arguments, and the package variables that the reading takes, are together of bulk at most 1048576: NARROWER than '..Said'. Prove '..Said' where nothing that the law and all that it calls make is longer than what came in: it says more and counts as full. Else prove '..UptoSaid'. A law counts once. -/
mutual
def uptoBulk {H : Type} : DataW H → Nat
  | .lit (.string bytes) => bytes.length + 1
  | .lit _ => 1
  | .nil => 1
  | .ptr d => uptoBulk d + 1
  | .slice elems spare => uptoBulkAll elems + uptoBulkAll spare + 1
  | .agg parts => uptoBulkAll parts + 1
  | .iface _ d => uptoBulk d + 1
  | .map entries => uptoBulkEntries entries + 1
  | .held _ => 1
def uptoBulkAll {H : Type} : List (DataW H) → Nat
  | [] => 0
  | d :: r => uptoBulk d + uptoBulkAll r
def uptoBulkEntries {H : Type} : List (Lit × DataW H) → Nat
  | [] => 0
  | x :: r => uptoBulkEntry x + uptoBulkEntries r
def uptoBulkEntry {H : Type} : Lit × DataW H → Nat
  | (.string bytes, d) => bytes.length + uptoBulk d + 1
  | (_, d) => uptoBulk d + 1
 end
def uptoSmall : (H : Type) → List (DataW H) → Bool := fun _ ds => decide (uptoBulkAll ds ≤ 1048576)
def OpenSpec.upto (s : _root_.Go.ChangeSpec) : _root_.Go.OpenSpec := { _root_.Go.OpenSpec.ofChange s with cond := some uptoSmall }

/-- 'sluicelaw21.JournalApart', WHERE WHAT IT READS IS OF BULK AT MOST 1048576: true; the input reads as it did. -/
def journalApartUptoRow : OpenClaim := { program := "ytimebochhbfkgaa", sum := "ece32ce26d2a9b333c5f3db1d77f6a49bd2a380f83657d12d321fda2c9cb85ee", func := "sluice/sluicelaw21.JournalApart", spec := "journalApart", unfollowed := true, recurses := true, apart := false, narrowed := true }
def JournalApartUptoSaid : Prop := journalApartUptoRow.holds Try.pinned (OpenSpec.upto journalApartSpec)

/-- 'sluicelaw21.JournalFills', WHERE WHAT IT READS IS OF BULK AT MOST 1048576: true; the input reads as it did. -/
def journalFillsUptoRow : OpenClaim := { program := "ytimebochhbfkgaa", sum := "ece32ce26d2a9b333c5f3db1d77f6a49bd2a380f83657d12d321fda2c9cb85ee", func := "sluice/sluicelaw21.JournalFills", spec := "journalFills", unfollowed := true, recurses := true, apart := false, narrowed := true }
def JournalFillsUptoSaid : Prop := journalFillsUptoRow.holds Try.pinned (OpenSpec.upto journalFillsSpec)

/-- 'sluicelaw21.JournalLasts', WHERE WHAT IT READS IS OF BULK AT MOST 1048576: true; the input reads as it did. -/
def journalLastsUptoRow : OpenClaim := { program := "ytimebochhbfkgaa", sum := "ece32ce26d2a9b333c5f3db1d77f6a49bd2a380f83657d12d321fda2c9cb85ee", func := "sluice/sluicelaw21.JournalLasts", spec := "journalLasts", unfollowed := true, recurses := true, apart := false, narrowed := true }
def JournalLastsUptoSaid : Prop := journalLastsUptoRow.holds Try.pinned (OpenSpec.upto journalLastsSpec)

/-- 'sluicelaw21.JournalTorn', WHERE WHAT IT READS IS OF BULK AT MOST 1048576: true; the input reads as it did. -/
def journalTornUptoRow : OpenClaim := { program := "ytimebochhbfkgaa", sum := "ece32ce26d2a9b333c5f3db1d77f6a49bd2a380f83657d12d321fda2c9cb85ee", func := "sluice/sluicelaw21.JournalTorn", spec := "journalTorn", unfollowed := true, recurses := true, apart := false, narrowed := true }
def JournalTornUptoSaid : Prop := journalTornUptoRow.holds Try.pinned (OpenSpec.upto journalTornSpec)

/-- 'sluicelaw21.JournalOpens', WHERE WHAT IT READS IS OF BULK AT MOST 1048576: true; the input reads as it did. -/
def journalOpensUptoRow : OpenClaim := { program := "ytimebochhbfkgaa", sum := "ece32ce26d2a9b333c5f3db1d77f6a49bd2a380f83657d12d321fda2c9cb85ee", func := "sluice/sluicelaw21.JournalOpens", spec := "journalOpens", unfollowed := true, recurses := true, apart := false, narrowed := true }
def JournalOpensUptoSaid : Prop := journalOpensUptoRow.holds Try.pinned (OpenSpec.upto journalOpensSpec)

/-- 'sluicelaw21.JournalAppends', WHERE WHAT IT READS IS OF BULK AT MOST 1048576: true; the input reads as it did. -/
def journalAppendsUptoRow : OpenClaim := { program := "ytimebochhbfkgaa", sum := "ece32ce26d2a9b333c5f3db1d77f6a49bd2a380f83657d12d321fda2c9cb85ee", func := "sluice/sluicelaw21.JournalAppends", spec := "journalAppends", unfollowed := true, recurses := true, apart := false, narrowed := true }
def JournalAppendsUptoSaid : Prop := journalAppendsUptoRow.holds Try.pinned (OpenSpec.upto journalAppendsSpec)

/-- 'sluicelaw21.JournalAll', WHERE WHAT IT READS IS OF BULK AT MOST 1048576: true; the input reads as it did. -/
def journalAllUptoRow : OpenClaim := { program := "ytimebochhbfkgaa", sum := "ece32ce26d2a9b333c5f3db1d77f6a49bd2a380f83657d12d321fda2c9cb85ee", func := "sluice/sluicelaw21.JournalAll", spec := "journalAll", unfollowed := true, recurses := true, apart := false, narrowed := true }
def JournalAllUptoSaid : Prop := journalAllUptoRow.holds Try.pinned (OpenSpec.upto journalAllSpec)

end Rows
end Go.Proofs.Ytimebochhbfkgaa
