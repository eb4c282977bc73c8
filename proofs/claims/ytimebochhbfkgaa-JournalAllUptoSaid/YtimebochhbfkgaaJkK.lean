/- What stands on a disk: sectors that nothing was written on, sectors that are put, an Append that fits. -/
import Derived.Test.YtimebochhbfkgaaJkI
namespace Go.Proofs.Ytimebochhbfkgaa
open Go Go.Fw Go.RowKit
set_option linter.unusedVariables false
set_option linter.unusedSimpArgs false
set_option maxRecDepth 4000
set_option maxHeartbeats 2000000

theorem good_last {a p n : Nat} {s : List UInt8} (h : goodS a p n s = true) : s.getD 511 0 = if p + 1 = cnt n then 2 else 1 := by
  simp only [goodS, Bool.and_eq_true, decide_eq_true_eq] at h
  have := congrArg (fun l => l.getD 7 0) h.2
  simp only [List.getD_eq_getElem?_getD, List.getElem?_drop] at this
  rw [List.getD_eq_getElem?_getD]
  exact this
theorem recGo_last {a n : Nat} {l : List (List UInt8)} {p k : Nat} {b : List UInt8} (h : recGo a n l p k = some b) (h1 : 1 ≤ k) (hk : p + k = cnt n) : ∃ s ∈ l, s.getD 511 0 = 2 := by
  induction k generalizing l p b with
  | zero => omega
  | succ k ih =>
    cases l with
    | nil => simp [recGo] at h
    | cons s r =>
      simp only [recGo] at h
      split at h
      · rename_i hg
        rcases Nat.eq_zero_or_pos k with h0 | h0
        · refine ⟨s, List.mem_cons_self .., ?_⟩
          rw [good_last hg, if_pos (by omega)]
        · rw [Option.map_eq_some_iff] at h
          obtain ⟨c, hc, rfl⟩ := h
          obtain ⟨s', hs', he⟩ := ih hc h0 (by omega)
          exact ⟨s', List.mem_cons_of_mem _ hs', he⟩
      · cases h
/-- Sectors of which none ends a record: none stands there. -/
theorem recAt_fresh {a : Nat} {l : List (List UInt8)} (h : ∀ s ∈ l, s.getD 511 0 ≠ 2) : recAt a l = none := by
  cases l with
  | nil => rfl
  | cons s r =>
    cases hr : recAt a (s :: r) with
    | none => rfl
    | some b =>
      simp only [recAt] at hr
      split at hr
      · obtain ⟨s', hs', he⟩ := recGo_last hr (cnt_pos _) (by omega)
        exact absurd he (h s' hs')
      · cases hr
theorem zer_fresh (n : Nat) : ∀ s ∈ zer n, s.getD 511 0 ≠ 2 := by
  intro s hs
  rw [zer, List.mem_replicate] at hs
  rw [hs.2]; simp [List.getD_eq_getElem?_getD, List.getElem?_replicate]

/-! ### what is opened is one thing -/
def scanN (ims : List (List UInt8)) : Nat → List (List UInt8) × Nat
  | 0 => ([], 0)
  | k + 1 => match recAt ((scanN ims k).1.length + 1) (ims.drop (scanN ims k).2) with
    | none => scanN ims k
    | some b => ((scanN ims k).1 ++ [b], (scanN ims k).2 + cnt b.length)
theorem Scan.eq {ims l : List (List UInt8)} {n : Nat} (h : Scan ims l n) : scanN ims l.length = (l, n) := by
  induction h with
  | nil => rfl
  | @snoc l n b hs hr ih =>
    rw [List.length_append, List.length_cons, List.length_nil, Nat.zero_add]
    simp only [scanN, ih, hr]
theorem Opened.eq {ims l : List (List UInt8)} {n : Nat} (h : Opened ims l n) (k : Nat) : scanN ims (l.length + k) = (l, n) := by
  induction k with
  | zero => exact h.1.eq
  | succ k ih =>
    rw [← Nat.add_assoc]
    simp only [scanN, ih, h.2]
theorem Opened.uniq {ims l l' : List (List UInt8)} {n n' : Nat} (h : Opened ims l n) (h' : Opened ims l' n') : l = l' ∧ n = n' := by
  have e1 := h.eq l'.length
  have e2 := h'.eq l.length
  rw [Nat.add_comm] at e1
  rw [e1] at e2
  exact ⟨congrArg Prod.fst e2, congrArg Prod.snd e2⟩
theorem zer_opened {m : Nat} {l : List (List UInt8)} {n : Nat} (h : Opened (zer m) l n) : l = [] ∧ n = 0 :=
  h.uniq ⟨.nil, recAt_fresh (zer_fresh m)⟩

/-! ### sectors that are put -/
def splice (l : List (List UInt8)) (n : Nat) (m : List (List UInt8)) : List (List UInt8) := l.take n ++ m ++ l.drop (n + m.length)
theorem splice_len {l : List (List UInt8)} {n : Nat} {m : List (List UInt8)} (h : n + m.length ≤ l.length) : (splice l n m).length = l.length := by
  simp only [splice, List.length_append, List.length_take, List.length_drop]; omega
theorem splice_cons (l : List (List UInt8)) {n : Nat} (c : List UInt8) (m : List (List UInt8)) (h : n < l.length) : splice (l.set n c) (n + 1) m = splice l n (c :: m) := by
  unfold splice
  rw [List.take_succ_eq_append_getElem (by simpa using h), List.getElem_set_self, List.take_set_of_le (Nat.le_refl _), List.drop_set_of_lt (by omega)]
  simp only [List.append_assoc, List.cons_append, List.nil_append, List.length_cons]
  congr 4
  omega
theorem puts_ok {a : A} {n : Nat} {l : List (List UInt8)} (ho : a.off = false) (ha : a.armed = false) (hl : ∀ c ∈ l, c.length = 512) (hn : n + l.length ≤ a.ims.length) :
    (a.puts n l).1 = 0 ∧ (a.puts n l).2.off = false ∧ (a.puts n l).2.armed = false ∧ (a.puts n l).2.ims = splice a.ims n l ∧ (a.puts n l).2.wr = a.wr + l.length := by
  induction l generalizing a n with
  | nil => refine ⟨rfl, ho, ha, ?_, by simp [A.puts]⟩; simp [A.puts, splice]
  | cons c r ih =>
    rw [List.length_cons] at hn
    have hw := A.write_ok ho ha (n := n) (by omega) (hl c (List.mem_cons_self ..))
    simp only [A.puts]
    rw [if_neg (by rw [hw]; simp), hw]
    have := ih (a := { a with tr := a.tr.set (a.wr.toNat % 64) n, wr := a.wr + 1, ims := a.ims.set n c }) (n := n + 1) ho ha (fun x hx => hl x (List.mem_cons_of_mem _ hx)) (by simp; omega)
    obtain ⟨h1, h2, h3, h4, h5⟩ := this
    refine ⟨h1, h2, h3, ?_, ?_⟩
    · rw [h4]; exact splice_cons _ _ _ (by omega)
    · rw [h5]; dsimp only; rw [List.length_cons]; omega
theorem secs_512 (a : Nat) (b : List UInt8) : ∀ c ∈ secs a b, c.length = 512 := by
  intro c hc
  simp only [secs, List.mem_map] at hc
  obtain ⟨p, _, rfl⟩ := hc
  exact sec_len _ _ _
theorem JA.append_ok {x : JA} {a : A} {b : List UInt8} (hd : x.dead = false) (ho : a.off = false) (ha : a.armed = false) (hb : b.length ≤ 8192) (hr : x.next + cnt b.length ≤ a.ims.length) :
    ∃ a' : A, x.append a b = (0, { x with recs := x.recs ++ [b], next := x.next + cnt b.length }, a') ∧ a'.off = false ∧ a'.armed = false ∧ a'.ims = splice a.ims x.next (secs (x.recs.length + 1) b) ∧ a'.wr = a.wr + cnt b.length := by
  obtain ⟨h1, h2, h3, h4, h5⟩ := puts_ok (n := x.next) (l := secs (x.recs.length + 1) b) ho ha (secs_512 _ _) (by rw [secs_len]; exact hr)
  rw [secs_len] at h5
  refine ⟨_, ?_, h2, h3, h4, h5⟩
  unfold JA.append
  rw [if_neg (by simp [hd, ho]), if_neg (by omega), if_neg (by omega), if_neg (fun h => h h1)]
theorem JA.append_space {x : JA} {a : A} {b : List UInt8} (hd : x.dead = false) (ho : a.off = false) (hb : b.length ≤ 8192) (hr : a.ims.length < x.next + cnt b.length) : x.append a b = (211, x, a) := by
  unfold JA.append
  rw [if_neg (by simp [hd, ho]), if_neg (by omega), if_pos (by omega)]
theorem JA.append_long {x : JA} {a : A} {b : List UInt8} (hd : x.dead = false) (ho : a.off = false) (hb : 8192 < b.length) : x.append a b = (2, x, a) := by
  unfold JA.append
  rw [if_neg (by simp [hd, ho]), if_pos (by omega)]
end Go.Proofs.Ytimebochhbfkgaa
