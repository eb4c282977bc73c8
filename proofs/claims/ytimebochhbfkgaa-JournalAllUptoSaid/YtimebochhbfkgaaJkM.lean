/- Power that fails in the midst of an Append: what stands on the disk then. -/
import Derived.Test.YtimebochhbfkgaaJkAp
namespace Go.Proofs.Ytimebochhbfkgaa
open Go Go.Fw Go.RowKit
set_option linter.unusedVariables false
set_option linter.unusedSimpArgs false
set_option maxRecDepth 4000
set_option maxHeartbeats 2000000

/-! ### a record that is written stands there -/
theorem by8_nat (n : Nat) : (by8 (n : Int)).toNat = n % 256 := by
  have := by8_n (n : Int)
  rw [IntKind.wrap_u8] at this
  omega
theorem fdiv256 (n : Nat) : Int.fdiv (n : Int) 256 = ((n / 256 : Nat) : Int) := by
  rw [Int.fdiv_eq_ediv_of_nonneg _ (by decide)]; omega
theorem hdr_sec {a : Nat} {b : List UInt8} (hb : b.length ≤ 8192) (p : Nat) : hdr (sec a b p) = b.length := by
  have e5 : (sec a b p).getD 5 0 = by8 b.length := rfl
  have e6 : (sec a b p).getD 6 0 = by8 (Int.fdiv b.length 256) := rfl
  unfold hdr
  rw [e5, e6, fdiv256, by8_nat, by8_nat]
  omega
theorem good_sec (a : Nat) (b : List UInt8) (p : Nat) : goodS a p b.length (sec a b p) = true := by
  have h1 : (sec a b p).take 8 = mk a p b.length := by
    unfold sec
    rw [List.append_assoc, List.take_append_of_le_length (by simp), List.take_of_length_le (by simp)]
  have h2 : (sec a b p).drop 504 = mk a p b.length := by
    have : 504 = (mk a p b.length ++ chunk b p).length := by simp [chunk_len]
    unfold sec
    rw [this, List.drop_left]
  simp [goodS, h1, h2]
theorem chunk_sec (a : Nat) (b : List UInt8) (p : Nat) : chunkS b.length p (sec a b p) = (b.drop (p * 496)).take 496 := by
  have h1 : (sec a b p).drop 8 = chunk b p ++ mk a p b.length := by
    have : 8 = (mk a p b.length).length := by simp
    unfold sec
    rw [List.append_assoc, this, List.drop_left]
  have hl : ((b.drop (p * 496)).take 496).length = min 496 (b.length - p * 496) := by simp
  unfold chunkS
  rw [h1, chunk, List.append_assoc, ← hl, List.take_left]
theorem recGo_secs {a : Nat} {b : List UInt8} {R : List (List UInt8)} (k p : Nat) (hk : p + k = cnt b.length) : recGo a b.length ((secs a b).drop p ++ R) p k = some (b.drop (p * 496)) := by
  induction k generalizing p with
  | zero =>
    simp only [recGo]
    rw [List.drop_of_length_le]
    unfold cnt at hk; omega
  | succ k ih =>
    rw [secs_drop a b (by omega), List.cons_append]
    simp only [recGo]
    rw [if_pos (good_sec a b p), ih (p + 1) (by omega), Option.map_some, chunk_sec]
    congr 1
    rw [Nat.add_mul, Nat.one_mul, ← List.drop_drop]
    exact List.take_append_drop 496 _
theorem recAt_secs {a : Nat} {b : List UInt8} {R : List (List UInt8)} (hb : b.length ≤ 8192) : recAt a (secs a b ++ R) = some b := by
  have h := recGo_secs (a := a) (b := b) (R := R) (cnt b.length) 0 (by omega)
  have hd := secs_drop a b (p := 0) (cnt_pos _)
  rw [List.drop_zero] at hd h
  rw [Nat.zero_mul, List.drop_zero] at h
  rw [hd, List.cons_append] at h ⊢
  simp only [recAt]
  rw [hdr_sec hb, if_pos hb]
  exact h
/-- What stands there depends on its own sectors alone. -/
theorem recGo_congr {a n : Nat} {l l' : List (List UInt8)} {p k : Nat} {b : List UInt8} (h : recGo a n l p k = some b) (he : l'.take k = l.take k) : recGo a n l' p k = some b := by
  induction k generalizing l l' p b with
  | zero => simpa [recGo] using h
  | succ k ih =>
    cases l with
    | nil => simp [recGo] at h
    | cons s r =>
      cases l' with
      | nil => simp at he
      | cons s' r' =>
        simp only [List.take_succ_cons, List.cons.injEq] at he
        obtain ⟨rfl, he⟩ := he
        simp only [recGo] at h ⊢
        split at h
        · rename_i hg
          rw [if_pos hg]
          rw [Option.map_eq_some_iff] at h ⊢
          obtain ⟨c, hc, rfl⟩ := h
          exact ⟨c, ih hc he, rfl⟩
        · cases h
theorem recAt_congr {a : Nat} {l l' : List (List UInt8)} {b : List UInt8} (hl : ∀ s ∈ l, s.length = 512) (h : recAt a l = some b) (he : l'.take (cnt b.length) = l.take (cnt b.length)) : recAt a l' = some b := by
  have hc := cnt_pos b.length
  cases l with
  | nil => cases h
  | cons s r =>
    cases l' with
    | nil =>
      obtain ⟨m, hm⟩ : ∃ m, cnt b.length = m + 1 := ⟨cnt b.length - 1, by omega⟩
      rw [hm] at he; simp at he
    | cons s' r' =>
      obtain ⟨m, hm⟩ : ∃ m, cnt b.length = m + 1 := ⟨cnt b.length - 1, by omega⟩
      have he2 := he
      rw [hm] at he2
      simp only [List.take_succ_cons, List.cons.injEq] at he2
      obtain ⟨rfl, _⟩ := he2
      simp only [recAt] at h ⊢
      split at h
      · rename_i h8
        rw [if_pos h8]
        have hbl := (recGo_len hl h (by omega)).1
        simp only [Nat.zero_mul, Nat.sub_zero] at hbl
        rw [← hbl] at h ⊢
        exact recGo_congr h he
      · cases h
theorem Scan.congr {ims ims' l : List (List UInt8)} {n : Nat} (h5 : ∀ s ∈ ims, s.length = 512) (h : Scan ims l n) (he : ims'.take n = ims.take n) : Scan ims' l n := by
  induction h with
  | nil => exact .nil
  | @snoc l n b hs hr ih =>
    have e1 : ims'.take n = ims.take n := by
      have := congrArg (List.take n) he
      rw [List.take_take, List.take_take, Nat.min_eq_left (by omega)] at this
      exact this
    refine .snoc (ih e1) (recAt_congr (fun s hs => h5 s (List.mem_of_mem_drop hs)) hr ?_)
    have := congrArg (List.drop n) he
    rw [List.drop_take, List.drop_take, Nat.add_sub_cancel_left] at this
    exact this

/-! ### sectors that no record ends -/
def Fresh (l : List (List UInt8)) : Prop := ∀ s ∈ l, s.getD 511 0 ≠ 2
/-- Just these records stand there, and behind them none. -/
def Good (ims l : List (List UInt8)) : Prop := ∃ n, Scan ims l n ∧ Fresh (ims.drop n)
theorem Good.opened {ims l l' : List (List UInt8)} {n : Nat} (h : Good ims l) (ho : Opened ims l' n) : l' = l ∧ Scan ims l n ∧ Fresh (ims.drop n) := by
  obtain ⟨m, h1, h2⟩ := h
  obtain ⟨rfl, rfl⟩ := ho.uniq ⟨h1, recAt_fresh h2⟩
  exact ⟨rfl, h1, h2⟩
theorem zer_good (n : Nat) : Good (zer n) [] := ⟨0, .nil, zer_fresh n⟩
theorem splice_take (l : List (List UInt8)) {n : Nat} (m : List (List UInt8)) (h : n ≤ l.length) : (splice l n m).take n = l.take n := by
  unfold splice
  rw [List.append_assoc, List.take_append_of_le_length (by simp; omega), List.take_take, Nat.min_self]
theorem splice_drop (l : List (List UInt8)) {n : Nat} (m : List (List UInt8)) (h : n ≤ l.length) : (splice l n m).drop n = m ++ l.drop (n + m.length) := by
  unfold splice
  have : (l.take n).length = n := by simp; omega
  rw [List.append_assoc, List.drop_append_of_le_length (by omega), List.drop_of_length_le (by omega), List.nil_append]
theorem splice_drop2 (l : List (List UInt8)) {n : Nat} (m : List (List UInt8)) (h : n + m.length ≤ l.length) : (splice l n m).drop (n + m.length) = l.drop (n + m.length) := by
  rw [← List.drop_drop, splice_drop _ _ (by omega), List.drop_append_of_le_length (Nat.le_refl _), List.drop_length, List.nil_append]
theorem sec_last (a : Nat) (b : List UInt8) (p : Nat) : (sec a b p).getD 511 0 = if p + 1 = cnt b.length then 2 else 1 := good_last (good_sec a b p)
/-- An Append that came to its end. -/
theorem good_whole {ims l : List (List UInt8)} {n : Nat} {b : List UInt8} (h5 : ∀ s ∈ ims, s.length = 512) (hs : Scan ims l n) (hf : Fresh (ims.drop n)) (hb : b.length ≤ 8192) (hn : n + cnt b.length ≤ ims.length) :
    Scan (splice ims n (secs (l.length + 1) b)) (l ++ [b]) (n + cnt b.length) ∧ Fresh ((splice ims n (secs (l.length + 1) b)).drop (n + cnt b.length)) := by
  constructor
  · refine .snoc (hs.congr h5 (splice_take _ _ (by omega))) ?_
    rw [splice_drop _ _ (by omega)]
    exact recAt_secs hb
  · have := splice_drop2 ims (n := n) (secs (l.length + 1) b) (by rw [secs_len]; exact hn)
    rw [secs_len] at this
    rw [this]
    intro s hs
    refine hf s ?_
    rw [← List.drop_drop] at hs
    exact List.mem_of_mem_drop hs
/-- An Append that was torn. -/
theorem good_torn {ims l : List (List UInt8)} {n : Nat} {b : List UInt8} (h5 : ∀ s ∈ ims, s.length = 512) (hs : Scan ims l n) (hf : Fresh (ims.drop n)) (hb : b.length ≤ 8192) (hn : n + cnt b.length ≤ ims.length)
    {q t : Nat} (hq : q < cnt b.length) (ht : t ≤ 512) {ims' : List (List UInt8)} (him : ims' = splice ims n ((secs (l.length + 1) b).take q ++ [(sec (l.length + 1) b q).take t ++ (ims.getD (n + q) []).drop t])) :
    Good ims' l ∨ Good ims' (l ++ [b]) := by
  have hql : ((secs (l.length + 1) b).take q ++ [(sec (l.length + 1) b q).take t ++ (ims.getD (n + q) []).drop t]).length = q + 1 := by simp [secs_len]; omega
  have hold : ims.getD (n + q) [] = ims[n + q]'(by omega) := by simp [List.getD_eq_getElem?_getD, show n + q < ims.length by omega]
  have hol : (ims.getD (n + q) []).length = 512 := by rw [hold]; exact h5 _ (List.getElem_mem _)
  have hsl := sec_len (l.length + 1) b q
  by_cases hw : t = 512 ∧ q + 1 = cnt b.length
  · right
    have e : (secs (l.length + 1) b).take q ++ [(sec (l.length + 1) b q).take t ++ (ims.getD (n + q) []).drop t] = secs (l.length + 1) b := by
      rw [hw.1, List.take_of_length_le (l := sec (l.length + 1) b q) (by omega), List.drop_of_length_le (l := ims.getD (n + q) []) (by omega), List.append_nil]
      have := List.take_append_drop q (secs (l.length + 1) b)
      rw [secs_drop _ _ hq, List.drop_of_length_le (by rw [secs_len]; omega)] at this
      exact this
    rw [e] at him
    rw [him]
    exact ⟨_, good_whole h5 hs hf hb hn⟩
  · left
    refine ⟨n, ?_, ?_⟩
    · rw [him]; exact hs.congr h5 (splice_take _ _ (by omega))
    · rw [him, splice_drop _ _ (by omega), hql]
      intro s hsm
      rcases List.mem_append.1 hsm with hsm | hsm
      · rcases List.mem_append.1 hsm with hsm | hsm
        · obtain ⟨i, hi, rfl⟩ := List.getElem_of_mem hsm
          simp only [List.length_take, secs_len] at hi
          simp only [List.getElem_take]
          have : (secs (l.length + 1) b)[i]'(by rw [secs_len]; omega) = sec (l.length + 1) b i := by simp [secs]
          rw [this, sec_last, if_neg (by omega)]; decide
        · simp only [List.mem_cons, List.not_mem_nil, or_false] at hsm
          subst hsm
          rw [List.getD_eq_getElem?_getD, List.getElem?_append]
          by_cases h1 : 511 < t
          · have ht2 : t = 512 := by omega
            have : ((sec (l.length + 1) b q).take t).length = 512 := by rw [ht2, List.length_take, hsl]; rfl
            rw [if_pos (by omega), ht2, List.getElem?_take, if_pos (by decide), ← List.getD_eq_getElem?_getD, sec_last, if_neg (fun h => hw ⟨ht2, h⟩)]; decide
          · have hl : ((sec (l.length + 1) b q).take t).length = t := by rw [List.length_take, hsl]; omega
            rw [if_neg (by omega), hl, List.getElem?_drop, show t + (511 - t) = 511 by omega, ← List.getD_eq_getElem?_getD, hold]
            refine hf _ ?_
            have : ims[n + q]'(by omega) = (ims.drop n)[q]'(by simp; omega) := by simp
            rw [this]; exact List.getElem_mem _
      · refine hf s ?_
        rw [← List.drop_drop] at hsm
        exact List.mem_of_mem_drop hsm

/-- Sectors that are put one behind the other: all of them, or the power fails in the midst of one. -/
theorem puts_any {a : A} {n : Nat} {l : List (List UInt8)} (ho : a.off = false) (hl : ∀ c ∈ l, c.length = 512) (hn : n + l.length ≤ a.ims.length) :
    ((a.puts n l).1 = 0 ∧ (a.puts n l).2.off = false ∧ (a.puts n l).2.torn = a.torn ∧ ((a.puts n l).2.armed = true → a.armed = true) ∧ (a.puts n l).2.ims = splice a.ims n l) ∨
    ((a.puts n l).1 = 200 ∧ (a.puts n l).2.off = true ∧ (a.puts n l).2.armed = false ∧ a.armed = true ∧ ∃ (q : Nat) (hq : q < l.length), (a.puts n l).2.ims = splice a.ims n (l.take q ++ [l[q].take a.torn.toNat ++ (a.ims.getD (n + q) []).drop a.torn.toNat])) := by
  induction l generalizing a n with
  | nil => left; refine ⟨rfl, ho, rfl, fun h => h, ?_⟩; simp [A.puts, splice]
  | cons c r ih =>
    rw [List.length_cons] at hn
    have hreach : a.reach n = 0 := by simp [A.reach, ho]; omega
    have hc := hl c (List.mem_cons_self ..)
    have hwr : a.write n c = a.wrote n c := by
      unfold A.write
      rw [if_neg (fun h => h hreach), if_neg (fun h => h hc)]
    simp only [A.puts, hwr]
    by_cases hp : a.armed = true ∧ a.after = 0
    · right
      have e : a.wrote n c = (200, { a with tr := a.tr.set (a.wr.toNat % 64) n, wr := a.wr + 1, ims := a.ims.set n (c.take a.torn.toNat ++ (a.ims.getD n []).drop a.torn.toNat), off := true, armed := false }) := by
        unfold A.wrote
        rw [if_pos hp]; rfl
      rw [e, if_pos (by simp)]
      refine ⟨rfl, rfl, rfl, hp.1, 0, by simp, ?_⟩
      have := splice_cons a.ims (n := n) (c.take a.torn.toNat ++ (a.ims.getD n []).drop a.torn.toNat) [] (by omega)
      simp only [List.take_zero, List.nil_append, List.getElem_cons_zero, Nat.add_zero]
      rw [← this]; simp [splice]
    · have e : a.wrote n c = (0, { a with tr := a.tr.set (a.wr.toNat % 64) n, wr := a.wr + 1, ims := a.ims.set n c, after := if a.armed then a.after - 1 else a.after }) := by
        unfold A.wrote
        rw [if_neg hp]; rfl
      rw [e, if_neg (by simp)]
      have := ih (a := { a with tr := a.tr.set (a.wr.toNat % 64) n, wr := a.wr + 1, ims := a.ims.set n c, after := if a.armed then a.after - 1 else a.after }) (n := n + 1) ho (fun x hx => hl x (List.mem_cons_of_mem _ hx)) (by simp; omega)
      rcases this with ⟨h1, h2, h3, h4, h5⟩ | ⟨h1, h2, h3, h4, q, hq, h5⟩
      · left
        refine ⟨h1, h2, h3, h4, ?_⟩
        rw [h5]; exact splice_cons _ _ _ (by omega)
      · right
        refine ⟨h1, h2, h3, h4, q + 1, by simp; omega, ?_⟩
        rw [h5]
        have e2 : (a.ims.set n c).getD (n + 1 + q) [] = a.ims.getD (n + (q + 1)) [] := by
          rw [List.getD_eq_getElem?_getD, List.getD_eq_getElem?_getD, List.getElem?_set_ne (by omega)]
          congr 2; omega
        dsimp only
        rw [e2, splice_cons _ _ _ (by omega)]
        simp
/-- What an Append comes to on a disk that is on. -/
theorem append_any_pure {x : JA} {a : A} {b : List UInt8} (h5 : ∀ s ∈ a.ims, s.length = 512) (hd : x.dead = false) (ho : a.off = false) (ht : 0 ≤ a.torn ∧ a.torn ≤ 512) (hs : Scan a.ims x.recs x.next) (hf : Fresh (a.ims.drop x.next)) :
    (8192 < b.length ∧ x.append a b = (2, x, a)) ∨
    (b.length ≤ 8192 ∧ (a.ims.length : Int) - x.next < 17 ∧ x.append a b = (211, x, a)) ∨
    (b.length ≤ 8192 ∧ ∃ a', x.append a b = (0, { x with recs := x.recs ++ [b], next := x.next + cnt b.length }, a') ∧ a'.off = false ∧ (a'.armed = true → a.armed = true) ∧ x.next + cnt b.length ≤ a.ims.length ∧ Scan a'.ims (x.recs ++ [b]) (x.next + cnt b.length) ∧ Fresh (a'.ims.drop (x.next + cnt b.length))) ∨
    (b.length ≤ 8192 ∧ ∃ a', x.append a b = (200, { x with dead := true }, a') ∧ a.armed = true ∧ a'.off = true ∧ a'.armed = false ∧ (Good a'.ims x.recs ∨ Good a'.ims (x.recs ++ [b]))) := by
  rcases Nat.lt_or_ge 8192 b.length with hb | hb
  · exact .inl ⟨hb, JA.append_long hd ho hb⟩
  right
  have hc17 := cnt_le hb
  rcases Nat.lt_or_ge a.ims.length (x.next + cnt b.length) with hr | hr
  · exact .inl ⟨hb, by omega, JA.append_space hd ho hb hr⟩
  right
  have key : x.append a b = (if (a.puts x.next (secs (x.recs.length + 1) b)).1 ≠ 0 then (200, { x with dead := true }, (a.puts x.next (secs (x.recs.length + 1) b)).2)
      else (0, { x with recs := x.recs ++ [b], next := x.next + cnt b.length }, (a.puts x.next (secs (x.recs.length + 1) b)).2)) := by
    unfold JA.append
    rw [if_neg (by simp [hd, ho]), if_neg (by omega), if_neg (by omega)]
  rcases puts_any (n := x.next) (l := secs (x.recs.length + 1) b) ho (secs_512 _ _) (by rw [secs_len]; exact hr) with ⟨h1, h2, h3, h4, h6⟩ | ⟨h1, h2, h3, h4, q, hq, h6⟩
  · left
    rw [if_neg (fun h => h h1)] at key
    refine ⟨hb, _, key, h2, h4, hr, ?_⟩
    rw [h6]
    exact good_whole h5 hs hf hb hr
  · right
    rw [if_pos (by rw [h1]; decide)] at key
    refine ⟨hb, _, key, h4, h2, h3, ?_⟩
    rw [secs_len] at hq
    refine good_torn (q := q) (t := a.torn.toNat) h5 hs hf hb hr hq (by omega) ?_
    rw [h6]
    have : (secs (x.recs.length + 1) b)[q]'(by rw [secs_len]; exact hq) = sec (x.recs.length + 1) b q := by simp [secs]
    rw [this]
end Go.Proofs.Ytimebochhbfkgaa
