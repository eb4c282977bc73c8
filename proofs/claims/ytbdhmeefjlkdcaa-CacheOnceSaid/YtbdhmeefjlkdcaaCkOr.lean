/- The order of a session's requests: what Begin answers where nothing has ended. -/
import Derived.Test.YtbdhmeefjlkdcaaCkRow
namespace Go.Proofs.Ytbdhmeefjlkdcaa
open Go Go.Fw Go.RowKit
set_option linter.unusedVariables false
set_option linter.unusedSimpArgs false
set_option maxRecDepth 4000

theorem beg_e {a : Av} {id : Int} (hk : a.kept = []) (h0 : 0 ≤ a.last) (h1 : a.last ≤ 1000) :
    ((beginV a id).1.2.2 = 0 ↔ id = a.last + 1) ∧ ((beginV a id).1.2.2 = 131 ↔ id > a.last + 1 ∧ id ≤ 1099511627776) ∧ (beginV a id).2.last = (if id = a.last + 1 then id else a.last) ∧ (beginV a id).2.kept = [] := by
  rw [beginV]
  by_cases c1 : id < 1 ∨ id > 1099511627776
  · rw [if_pos c1, if_neg (by omega)]
    exact ⟨⟨fun h => (by cases h), fun h => by omega⟩, ⟨fun h => (by cases h), fun h => by omega⟩, rfl, hk⟩
  rw [if_neg c1]
  by_cases c2 : id > a.last + 1
  · rw [if_pos c2, if_neg (by omega)]
    exact ⟨⟨fun h => (by cases h), fun h => by omega⟩, ⟨fun _ => by omega, fun _ => rfl⟩, rfl, hk⟩
  rw [if_neg c2]
  by_cases c3 : id = a.last + 1
  · rw [if_pos c3, if_pos c3]
    exact ⟨⟨fun _ => c3, fun _ => rfl⟩, ⟨fun h => (by cases h), fun h => by omega⟩, rfl, hk⟩
  rw [if_neg c3, if_neg c3]
  by_cases c4 : id ∈ a.pend
  · rw [if_pos c4]
    exact ⟨⟨fun h => (by cases h), fun h => absurd h c3⟩, ⟨fun h => (by cases h), fun h => by omega⟩, rfl, hk⟩
  · rw [if_neg c4, hk]
    exact ⟨⟨fun h => (by cases h), fun h => absurd h c3⟩, ⟨fun h => (by cases h), fun h => by omega⟩, rfl, hk⟩
end Go.Proofs.Ytbdhmeefjlkdcaa
