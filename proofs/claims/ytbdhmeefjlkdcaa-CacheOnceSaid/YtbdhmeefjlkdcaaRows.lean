/-
  No cell of these rows narrows 'for every input' (looked for: loops, veiled, ifaces, maps, wideKeys, modest, calm, conditions, laid).
  DERIVED. THE GIVEN ROWS OF THIS SEAT. 5 by the template 'for every input the law returns true; each argument reads behind the call as it read before'; 0 by the template 'total and deterministic' (their statements: YtbdhmeefjlkdcaaTotals.lean).
  GIVEN WITH THE SEED: the statements are not yours to turn. If you find one false, say at which input.
  Laid BY PROGRAM, IN A SANDBOX (cutbox-rows.mjs): the forced cells as the released guide's own fill.sh prints them over the translation d806a0d3d9849ff7… (all of the seat's roots in one cut). By AI agents, Wed Nov 11 2026. No macro, syntax, notation, axiom, sorry.
-/
import Derived.Test.YtbdhmeefjlkdcaaChecked
import GoSem.Claim
import GoSem.ClaimJoined
import GoSem.ClaimMapViews
import Derived.JoinedTies
import Derived.KernelRfl
namespace Go.Proofs.Ytbdhmeefjlkdcaa
/- THE CELL 'sum', in the pinned program and in every row, IS THE sha256 OF THE DUMP (.gsa) THAT YtbdhmeefjlkdcaaProg.lean LOADS. Nothing in Lean hashes anything: it is a label: what it is worth is what the hold of that sum in a sandbox is worth. -/
noncomputable def Try.pinned : Pinned := { name := "ytbdhmeefjlkdcaa", sum := "d806a0d3d9849ff7a1bbf9d6b7306fd251e943b8ecbf241ebbd1e14504236fed", checked := Try.checked }
namespace Rows
def none {H : Type} : Left H := { results := [], args := [] }

/-- 'sluicelaw13.CacheRequests': WHATEVER THE INPUT: true; the input reads as it did. -/
def cacheRequestsSpec : ChangeSpec := { name := "cacheRequests", fn := fun _ => fun
  | [d1, d2, d3, d4, d5] => { results := [.lit (.bool true)], args := [d1, d2, d3, d4, d5] }
  | _ => none }
def cacheRequestsRow : OpenClaim := { program := "ytbdhmeefjlkdcaa", sum := "d806a0d3d9849ff7a1bbf9d6b7306fd251e943b8ecbf241ebbd1e14504236fed", func := "sluice/sluicelaw13.CacheRequests", spec := "cacheRequests", unfollowed := true, recurses := true, plainKeys := false, apart := false }
def CacheRequestsSaid : Prop := cacheRequestsRow.holds Try.pinned (OpenSpec.ofChange cacheRequestsSpec)

/-- ITS FALSE NEIGHBOUR: 'it returns false'. Refute it at one input. -/
def cacheRequestsWrong : ChangeSpec := { name := "cacheRequests", fn := fun _ => fun
  | [d1, d2, d3, d4, d5] => { results := [.lit (.bool false)], args := [d1, d2, d3, d4, d5] }
  | _ => none }
def CacheRequestsWrongFalsely : Prop := cacheRequestsRow.holds Try.pinned (OpenSpec.ofChange cacheRequestsWrong)

/-- 'sluicelaw13.CacheLooks': WHATEVER THE INPUT: true; the input reads as it did. -/
def cacheLooksSpec : ChangeSpec := { name := "cacheLooks", fn := fun _ => fun
  | [d1, d2, d3, d4, d5] => { results := [.lit (.bool true)], args := [d1, d2, d3, d4, d5] }
  | _ => none }
def cacheLooksRow : OpenClaim := { program := "ytbdhmeefjlkdcaa", sum := "d806a0d3d9849ff7a1bbf9d6b7306fd251e943b8ecbf241ebbd1e14504236fed", func := "sluice/sluicelaw13.CacheLooks", spec := "cacheLooks", unfollowed := true, recurses := true, plainKeys := false, apart := false }
def CacheLooksSaid : Prop := cacheLooksRow.holds Try.pinned (OpenSpec.ofChange cacheLooksSpec)

/-- ITS FALSE NEIGHBOUR: 'it returns false'. Refute it at one input. -/
def cacheLooksWrong : ChangeSpec := { name := "cacheLooks", fn := fun _ => fun
  | [d1, d2, d3, d4, d5] => { results := [.lit (.bool false)], args := [d1, d2, d3, d4, d5] }
  | _ => none }
def CacheLooksWrongFalsely : Prop := cacheLooksRow.holds Try.pinned (OpenSpec.ofChange cacheLooksWrong)

/-- 'sluicelaw13.CacheAll': WHATEVER THE INPUT: true; the input reads as it did. -/
def cacheAllSpec : ChangeSpec := { name := "cacheAll", fn := fun _ => fun
  | [d1, d2, d3, d4, d5, d6] => { results := [.lit (.bool true)], args := [d1, d2, d3, d4, d5, d6] }
  | _ => none }
def cacheAllRow : OpenClaim := { program := "ytbdhmeefjlkdcaa", sum := "d806a0d3d9849ff7a1bbf9d6b7306fd251e943b8ecbf241ebbd1e14504236fed", func := "sluice/sluicelaw13.CacheAll", spec := "cacheAll", unfollowed := true, recurses := true, plainKeys := false, apart := false }
def CacheAllSaid : Prop := cacheAllRow.holds Try.pinned (OpenSpec.ofChange cacheAllSpec)

/-- ITS FALSE NEIGHBOUR: 'it returns false'. Refute it at one input. -/
def cacheAllWrong : ChangeSpec := { name := "cacheAll", fn := fun _ => fun
  | [d1, d2, d3, d4, d5, d6] => { results := [.lit (.bool false)], args := [d1, d2, d3, d4, d5, d6] }
  | _ => none }
def CacheAllWrongFalsely : Prop := cacheAllRow.holds Try.pinned (OpenSpec.ofChange cacheAllWrong)

/-- 'sluicelaw13.CacheOnce': WHATEVER THE INPUT: true; the input reads as it did. -/
def cacheOnceSpec : ChangeSpec := { name := "cacheOnce", fn := fun _ => fun
  | [d1, d2, d3] => { results := [.lit (.bool true)], args := [d1, d2, d3] }
  | _ => none }
def cacheOnceRow : OpenClaim := { program := "ytbdhmeefjlkdcaa", sum := "d806a0d3d9849ff7a1bbf9d6b7306fd251e943b8ecbf241ebbd1e14504236fed", func := "sluice/sluicelaw13.CacheOnce", spec := "cacheOnce", unfollowed := true, recurses := true, plainKeys := false, apart := false }
def CacheOnceSaid : Prop := cacheOnceRow.holds Try.pinned (OpenSpec.ofChange cacheOnceSpec)

/-- ITS FALSE NEIGHBOUR: 'it returns false'. Refute it at one input. -/
def cacheOnceWrong : ChangeSpec := { name := "cacheOnce", fn := fun _ => fun
  | [d1, d2, d3] => { results := [.lit (.bool false)], args := [d1, d2, d3] }
  | _ => none }
def CacheOnceWrongFalsely : Prop := cacheOnceRow.holds Try.pinned (OpenSpec.ofChange cacheOnceWrong)

/-- 'sluicelaw13.CacheOrder': WHATEVER THE INPUT: true; the input reads as it did. -/
def cacheOrderSpec : ChangeSpec := { name := "cacheOrder", fn := fun _ => fun
  | [d1, d2, d3] => { results := [.lit (.bool true)], args := [d1, d2, d3] }
  | _ => none }
def cacheOrderRow : OpenClaim := { program := "ytbdhmeefjlkdcaa", sum := "d806a0d3d9849ff7a1bbf9d6b7306fd251e943b8ecbf241ebbd1e14504236fed", func := "sluice/sluicelaw13.CacheOrder", spec := "cacheOrder", unfollowed := true, recurses := true, plainKeys := false, apart := false }
def CacheOrderSaid : Prop := cacheOrderRow.holds Try.pinned (OpenSpec.ofChange cacheOrderSpec)

/-- ITS FALSE NEIGHBOUR: 'it returns false'. Refute it at one input. -/
def cacheOrderWrong : ChangeSpec := { name := "cacheOrder", fn := fun _ => fun
  | [d1, d2, d3] => { results := [.lit (.bool false)], args := [d1, d2, d3] }
  | _ => none }
def CacheOrderWrongFalsely : Prop := cacheOrderRow.holds Try.pinned (OpenSpec.ofChange cacheOrderWrong)

/- THE SECOND FORM. 'bulk': how many values and letters a reading holds, each counted each time it is reached (what is shared counts as often as it is met; a slice's spare places count too). A statement '..UptoSaid' is the law's where the arguments, and the package variables that the reading takes, are together of bulk at most 1048576: NARROWER than '..Said'. Prove '..Said' where nothing that the law and all that it calls make is longer than what came in: it says more and counts as full. Else prove '..UptoSaid'. A law counts once. -/
mutual
def uptoBulk {H : Type} : DataW H → Nat
  | .lit (.string bytes) => bytes.length + 1
  | .lit _ => 1
  | .nil => 1
  | .ptr d => uptoBulk d + 1
  | .slice elems spare => uptoBulkAll elems + uptoBulkAll spare + 1
  | .agg parts => uptoBulkAll parts + 1
  | .iface _ d => uptoBulk d + 1
  | .map entries => uptoBulkEntries entries + 1
  | .held _ => 1
def uptoBulkAll {H : Type} : List (DataW H) → Nat
  | [] => 0
  | d :: r => uptoBulk d + uptoBulkAll r
def uptoBulkEntries {H : Type} : List (Lit × DataW H) → Nat
  | [] => 0
  | x :: r => uptoBulkEntry x + uptoBulkEntries r
def uptoBulkEntry {H : Type} : Lit × DataW H → Nat
  | (.string bytes, d) => bytes.length + uptoBulk d + 1
  | (_, d) => uptoBulk d + 1
 end
def uptoSmall : (H : Type) → List (DataW H) → Bool := fun _ ds => decide (uptoBulkAll ds ≤ 1048576)
def OpenSpec.upto (s : _root_.Go.ChangeSpec) : _root_.Go.OpenSpec := { _root_.Go.OpenSpec.ofChange s with cond := some uptoSmall }

/-- 'sluicelaw13.CacheRequests', WHERE WHAT IT READS IS OF BULK AT MOST 1048576: true; the input reads as it did. -/
def cacheRequestsUptoRow : OpenClaim := { program := "ytbdhmeefjlkdcaa", sum := "d806a0d3d9849ff7a1bbf9d6b7306fd251e943b8ecbf241ebbd1e14504236fed", func := "sluice/sluicelaw13.CacheRequests", spec := "cacheRequests", unfollowed := true, recurses := true, plainKeys := false, apart := false, narrowed := true }
def CacheRequestsUptoSaid : Prop := cacheRequestsUptoRow.holds Try.pinned (OpenSpec.upto cacheRequestsSpec)

/-- 'sluicelaw13.CacheLooks', WHERE WHAT IT READS IS OF BULK AT MOST 1048576: true; the input reads as it did. -/
def cacheLooksUptoRow : OpenClaim := { program := "ytbdhmeefjlkdcaa", sum := "d806a0d3d9849ff7a1bbf9d6b7306fd251e943b8ecbf241ebbd1e14504236fed", func := "sluice/sluicelaw13.CacheLooks", spec := "cacheLooks", unfollowed := true, recurses := true, plainKeys := false, apart := false, narrowed := true }
def CacheLooksUptoSaid : Prop := cacheLooksUptoRow.holds Try.pinned (OpenSpec.upto cacheLooksSpec)

/-- 'sluicelaw13.CacheAll', WHERE WHAT IT READS IS OF BULK AT MOST 1048576: true; the input reads as it did. -/
def cacheAllUptoRow : OpenClaim := { program := "ytbdhmeefjlkdcaa", sum := "d806a0d3d9849ff7a1bbf9d6b7306fd251e943b8ecbf241ebbd1e14504236fed", func := "sluice/sluicelaw13.CacheAll", spec := "cacheAll", unfollowed := true, recurses := true, plainKeys := false, apart := false, narrowed := true }
def CacheAllUptoSaid : Prop := cacheAllUptoRow.holds Try.pinned (OpenSpec.upto cacheAllSpec)

/-- 'sluicelaw13.CacheOnce', WHERE WHAT IT READS IS OF BULK AT MOST 1048576: true; the input reads as it did. -/
def cacheOnceUptoRow : OpenClaim := { program := "ytbdhmeefjlkdcaa", sum := "d806a0d3d9849ff7a1bbf9d6b7306fd251e943b8ecbf241ebbd1e14504236fed", func := "sluice/sluicelaw13.CacheOnce", spec := "cacheOnce", unfollowed := true, recurses := true, plainKeys := false, apart := false, narrowed := true }
def CacheOnceUptoSaid : Prop := cacheOnceUptoRow.holds Try.pinned (OpenSpec.upto cacheOnceSpec)

/-- 'sluicelaw13.CacheOrder', WHERE WHAT IT READS IS OF BULK AT MOST 1048576: true; the input reads as it did. -/
def cacheOrderUptoRow : OpenClaim := { program := "ytbdhmeefjlkdcaa", sum := "d806a0d3d9849ff7a1bbf9d6b7306fd251e943b8ecbf241ebbd1e14504236fed", func := "sluice/sluicelaw13.CacheOrder", spec := "cacheOrder", unfollowed := true, recurses := true, plainKeys := false, apart := false, narrowed := true }
def CacheOrderUptoSaid : Prop := cacheOrderUptoRow.holds Try.pinned (OpenSpec.upto cacheOrderSpec)

end Rows
end Go.Proofs.Ytbdhmeefjlkdcaa
