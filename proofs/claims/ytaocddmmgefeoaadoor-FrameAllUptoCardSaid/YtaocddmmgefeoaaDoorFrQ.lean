/- What a frame's sum finds: plain mathematics. No program in sight. -/
import Derived.Test.YtaocddmmgefeoaaDoorFrP
set_option linter.unusedSimpArgs false
namespace Go.Frm

theorem bit_inj {x y : BitVec 32} (h : bit x = bit y) : x = y := by
  have top : ∀ a : BitVec 32, (bit a).getLsbD 31 = a.getLsbD 0 := by
    intro a
    unfold bit
    rw [BitVec.getLsbD_xor, BitVec.getLsbD_ushiftRight, BitVec.getLsbD_of_ge a (1 + 31) (by omega), Bool.false_xor]
    cases a.getLsbD 0 <;> rfl
  have h0 : x.getLsbD 0 = y.getLsbD 0 := by rw [← top x, ← top y, h]
  have hs : x >>> 1 = y >>> 1 := by
    unfold bit at h
    rw [h0] at h
    generalize (if y.getLsbD 0 then poly else 0#32) = z at h
    have h2 := congrArg (fun v => v ^^^ z) h
    simpa [BitVec.xor_assoc, BitVec.xor_self] using h2
  apply BitVec.eq_of_getLsbD_eq
  intro i hi
  cases i with
  | zero => exact h0
  | succ i =>
    have := congrArg (fun v => v.getLsbD i) hs
    simp only [BitVec.getLsbD_ushiftRight] at this
    rwa [Nat.add_comm 1 i] at this
def b8 (a : BitVec 32) : BitVec 32 := nib (nib a)
theorem b8_inj {x y : BitVec 32} (h : b8 x = b8 y) : x = y := by
  unfold b8 at h
  rw [nib_eq, nib_eq, nib_eq, nib_eq] at h
  unfold bit4 at h
  exact bit_inj (bit_inj (bit_inj (bit_inj (bit_inj (bit_inj (bit_inj (bit_inj h)))))))
theorem b8_xor (x y : BitVec 32) : b8 (x ^^^ y) = b8 x ^^^ b8 y := by unfold b8; rw [nib_xor, nib_xor]
theorem step_eq (s : BitVec 32) (c : UInt8) : step s c = b8 (s ^^^ byt c) := rfl
theorem run_inj : ∀ (l : List UInt8) {s t : BitVec 32}, run s l = run t l → s = t
  | [], s, t, h => h
  | c :: r, s, t, h => by
    have h1 : step s c = step t c := run_inj r (by simpa [run] using h)
    rw [step_eq, step_eq] at h1
    have h2 := congrArg (fun v => v ^^^ byt c) (b8_inj h1)
    simpa [BitVec.xor_assoc, BitVec.xor_self] using h2

/-- A number whose low nibble is nought is only shifted. -/
theorem nib_shift (a : BitVec 32) (h : a &&& 15#32 = 0#32) : nib a = a >>> 4 := by
  unfold nib; rw [h]; simp [tab]
theorem b8_shift (c : UInt8) (k : Nat) (hk : k = 1 ∨ k = 2 ∨ k = 3) : b8 (byt c <<< (8 * k)) = byt c <<< (8 * (k - 1)) := by
  have hb : ∀ i, 8 ≤ i → (byt c).getLsbD i = false := by
    intro i hi
    unfold byt
    rw [BitVec.getLsbD_ofNat]
    have : c.toNat.testBit i = false := Nat.testBit_lt_two_pow (Nat.lt_of_lt_of_le c.toNat_lt (Nat.pow_le_pow_right (by omega) hi))
    rw [this, Bool.and_false]
  have z1 : (byt c <<< (8 * k)) &&& 15#32 = 0#32 := by
    apply BitVec.eq_of_getLsbD_eq
    intro i hi
    rw [BitVec.getLsbD_and, BitVec.getLsbD_shiftLeft]
    by_cases h : i < 4
    · have : i < 8 * k := by omega
      simp [this]
    · have : (15#32).getLsbD i = false := by
        have : ∀ j, j < 32 → ¬ j < 4 → (15#32).getLsbD j = false := by decide
        exact this i hi h
      rw [this, Bool.and_false]; simp
  have z2 : (byt c <<< (8 * k)) >>> 4 &&& 15#32 = 0#32 := by
    apply BitVec.eq_of_getLsbD_eq
    intro i hi
    rw [BitVec.getLsbD_and, BitVec.getLsbD_ushiftRight, BitVec.getLsbD_shiftLeft]
    by_cases h : i < 4
    · have : 4 + i < 8 * k := by omega
      simp [this]
    · have : (15#32).getLsbD i = false := by
        have : ∀ j, j < 32 → ¬ j < 4 → (15#32).getLsbD j = false := by decide
        exact this i hi h
      rw [this, Bool.and_false]; simp
  unfold b8
  rw [nib_shift _ z1, nib_shift _ z2]
  apply BitVec.eq_of_getLsbD_eq
  intro i hi
  rw [BitVec.getLsbD_ushiftRight, BitVec.getLsbD_ushiftRight, BitVec.getLsbD_shiftLeft, BitVec.getLsbD_shiftLeft]
  have e : 4 + (4 + i) - 8 * k = i - 8 * (k - 1) ∨ i < 8 * (k - 1) := by omega
  by_cases h1 : i < 8 * (k - 1)
  · have : 4 + (4 + i) < 8 * k := by omega
    simp [h1, this]
  · have h2 : ¬ (4 + (4 + i) < 8 * k) := by omega
    have h3 : 4 + (4 + i) - 8 * k = i - 8 * (k - 1) := by omega
    rw [h3]
    by_cases h4 : 4 + (4 + i) < 32
    · simp [h1, h2, h4, hi]
    · have : 8 ≤ i - 8 * (k - 1) := by omega
      simp [hb _ this]

def word (a b c d : UInt8) : BitVec 32 := byt a ^^^ (byt b <<< 8 ^^^ (byt c <<< 16 ^^^ byt d <<< 24))
def b32 (x : BitVec 32) : BitVec 32 := b8 (b8 (b8 (b8 x)))
theorem run4 (s : BitVec 32) (a b c d : UInt8) : run s [a, b, c, d] = b32 (s ^^^ word a b c d) := by
  have h1 := b8_shift b 1 (by omega)
  have h2 := b8_shift c 2 (by omega)
  have h2' := b8_shift c 1 (by omega)
  have h3 := b8_shift d 3 (by omega)
  have h3' := b8_shift d 2 (by omega)
  have h3'' := b8_shift d 1 (by omega)
  simp only [Nat.mul_one, Nat.sub_self, Nat.mul_zero, BitVec.shiftLeft_zero, show 8 * 2 = 16 from rfl, show 2 - 1 = 1 from rfl, show 8 * 3 = 24 from rfl, show 3 - 1 = 2 from rfl] at h1 h2 h2' h3 h3' h3''
  simp only [run, List.foldl_cons, List.foldl_nil, step_eq, b32, word]
  simp only [b8_xor, h1, h2, h2', h3, h3', h3'', BitVec.xor_assoc]
theorem word_inj {a b c d a' b' c' d' : UInt8} (h : word a b c d = word a' b' c' d') : a = a' ∧ b = b' ∧ c = c' ∧ d = d' := by
  have hb : ∀ (c : UInt8) i, 8 ≤ i → (byt c).getLsbD i = false := by
    intro c i hi
    unfold byt
    rw [BitVec.getLsbD_ofNat]
    have : c.toNat.testBit i = false := Nat.testBit_lt_two_pow (Nat.lt_of_lt_of_le c.toNat_lt (Nat.pow_le_pow_right (by omega) hi))
    rw [this, Bool.and_false]
  have ext : ∀ x y : UInt8, (∀ i, i < 8 → (byt x).getLsbD i = (byt y).getLsbD i) → x = y := by
    intro x y hxy
    have : byt x = byt y := by
      apply BitVec.eq_of_getLsbD_eq
      intro i hi
      rcases Nat.lt_or_ge i 8 with h | h
      · exact hxy i h
      · rw [hb x i h, hb y i h]
    have h2 := congrArg BitVec.toNat this
    unfold byt at h2
    rw [BitVec.toNat_ofNat, BitVec.toNat_ofNat, Nat.mod_eq_of_lt (by have := x.toNat_lt; omega), Nat.mod_eq_of_lt (by have := y.toNat_lt; omega)] at h2
    exact UInt8.toNat_inj.1 h2
  have g : ∀ i, (word a b c d).getLsbD i = (word a' b' c' d').getLsbD i := fun i => by rw [h]
  unfold word at g
  simp only [BitVec.getLsbD_xor, BitVec.getLsbD_shiftLeft] at g
  refine ⟨ext _ _ fun i hi => ?_, ext _ _ fun i hi => ?_, ext _ _ fun i hi => ?_, ext _ _ fun i hi => ?_⟩
  · have := g i
    simpa [show i < 8 from hi, show i < 16 from by omega, show i < 24 from by omega] using this
  · have := g (8 + i)
    simp only [hb a (8 + i) (by omega), hb a' (8 + i) (by omega), show 8 + i < 32 from by omega, show ¬ (8 + i < 8) from by omega, show 8 + i < 16 from by omega, show 8 + i < 24 from by omega, show 8 + i - 8 = i from by omega, decide_true, decide_false, Bool.not_false, Bool.not_true, Bool.true_and, Bool.false_and, Bool.and_false, Bool.and_true, Bool.false_xor, Bool.xor_false] at this
    exact this
  · have := g (16 + i)
    simp only [hb a (16 + i) (by omega), hb a' (16 + i) (by omega), hb b (16 + i - 8) (by omega), hb b' (16 + i - 8) (by omega), show 16 + i < 32 from by omega, show ¬ (16 + i < 8) from by omega, show ¬ (16 + i < 16) from by omega, show 16 + i < 24 from by omega, show 16 + i - 16 = i from by omega, decide_true, decide_false, Bool.not_false, Bool.not_true, Bool.true_and, Bool.false_and, Bool.and_false, Bool.and_true, Bool.false_xor, Bool.xor_false] at this
    exact this
  · have := g (24 + i)
    simp only [hb a (24 + i) (by omega), hb a' (24 + i) (by omega), hb b (24 + i - 8) (by omega), hb b' (24 + i - 8) (by omega), hb c (24 + i - 16) (by omega), hb c' (24 + i - 16) (by omega), show 24 + i < 32 from by omega, show ¬ (24 + i < 8) from by omega, show ¬ (24 + i < 16) from by omega, show ¬ (24 + i < 24) from by omega, show 24 + i - 24 = i from by omega, decide_true, decide_false, Bool.not_false, Bool.not_true, Bool.true_and, Bool.false_and, Bool.and_false, Bool.and_true, Bool.false_xor, Bool.xor_false] at this
    exact this

theorem run_four {x y : List UInt8} {s : BitVec 32} (hx : x.length = 4) (hy : y.length = 4) (h : run s x = run s y) : x = y := by
  match x, hx, y, hy with
  | [a, b, c, d], _, [a', b', c', d'], _ =>
    rw [run4, run4] at h
    have h1 := b8_inj (b8_inj (b8_inj (b8_inj h)))
    have h2 := congrArg (fun v => s ^^^ v) h1
    simp only [xx] at h2
    obtain ⟨rfl, rfl, rfl, rfl⟩ := word_inj h2
    rfl
/-- Up to four bytes side by side. -/
theorem run_burst {x y q p : List UInt8} (hl : x.length = y.length) (h4 : x.length ≤ 4) (h : run ones (p ++ x ++ q) = run ones (p ++ y ++ q)) : x = y := by
  rw [run_append, run_append, run_append, run_append] at h
  have h1 := run_inj q h
  have h2 : run (run (run ones p) x) (List.replicate (4 - x.length) 0) = run (run (run ones p) y) (List.replicate (4 - x.length) 0) := congrArg (fun s => run s (List.replicate (4 - x.length) 0)) h1
  rw [← run_append (run ones p) x, ← run_append (run ones p) y] at h2
  have h3 := run_four (x := x ++ List.replicate (4 - x.length) 0) (y := y ++ List.replicate (4 - x.length) 0) (by simp; omega) (by simp; omega) h2
  exact (List.append_inj h3 hl).1

/-- The four bytes behind are right just if the whole comes to this. -/
def good : BitVec 32 := b32 ones
theorem byt_bit (n j : Nat) : (byt (UInt8.ofNat n)).getLsbD j = (decide (j < 8) && n.testBit j) := by
  unfold byt
  rw [BitVec.getLsbD_ofNat, UInt8.toNat_ofNat', show (2 : Nat) ^ 8 = 2 ^ 8 from rfl, Nat.testBit_mod_two_pow]
  by_cases h : j < 8
  · simp [h, show j < 32 from by omega]
  · simp [h]
theorem word_of (x : BitVec 32) : word (UInt8.ofNat x.toNat) (UInt8.ofNat (x.toNat / 256)) (UInt8.ofNat (x.toNat / 65536)) (UInt8.ofNat (x.toNat / 16777216)) = x := by
  apply BitVec.eq_of_getLsbD_eq
  intro i hi
  have hd : ∀ k j, (x.toNat / 2 ^ k).testBit j = x.getLsbD (k + j) := fun k j => by
    rw [Nat.testBit_div_two_pow, ← BitVec.testBit_toNat, Nat.add_comm]
  have h0 : ∀ j, x.toNat.testBit j = x.getLsbD j := fun j => BitVec.testBit_toNat x
  have h1 := hd 8
  have h2 := hd 16
  have h3 := hd 24
  simp only [show (2 : Nat) ^ 8 = 256 from rfl, show (2 : Nat) ^ 16 = 65536 from rfl, show (2 : Nat) ^ 24 = 16777216 from rfl] at h1 h2 h3
  unfold word
  simp only [BitVec.getLsbD_xor, BitVec.getLsbD_shiftLeft, byt_bit, h0, h1, h2, h3, hi, decide_true, Bool.true_and]
  rcases Nat.lt_or_ge i 8 with c1 | c1
  · simp only [c1, show i < 16 from by omega, show i < 24 from by omega, decide_true, Bool.not_true, Bool.false_and, Bool.true_and, Bool.xor_false]
  · rcases Nat.lt_or_ge i 16 with c2 | c2
    · simp only [show ¬ (i < 8) from by omega, c2, show i < 24 from by omega, show i - 8 < 8 from by omega, show 8 + (i - 8) = i from by omega, decide_true, decide_false, Bool.not_true, Bool.not_false, Bool.false_and, Bool.true_and, Bool.xor_false, Bool.false_xor]
    · rcases Nat.lt_or_ge i 24 with c3 | c3
      · simp only [show ¬ (i < 8) from by omega, show ¬ (i < 16) from by omega, c3, show ¬ (i - 8 < 8) from by omega, show i - 16 < 8 from by omega, show 16 + (i - 16) = i from by omega, decide_true, decide_false, Bool.not_true, Bool.not_false, Bool.false_and, Bool.true_and, Bool.and_false, Bool.xor_false, Bool.false_xor]
      · simp only [show ¬ (i < 8) from by omega, show ¬ (i < 16) from by omega, show ¬ (i < 24) from by omega, show ¬ (i - 8 < 8) from by omega, show ¬ (i - 16 < 8) from by omega, show i - 24 < 8 from by omega, show 24 + (i - 24) = i from by omega, decide_true, decide_false, Bool.not_true, Bool.not_false, Bool.false_and, Bool.true_and, Bool.and_false, Bool.xor_false, Bool.false_xor]
theorem run_le4 (s : BitVec 32) : run s (le4 (s ^^^ ones)) = good := by
  unfold le4 good
  rw [run4, word_of, xx]
theorem sum_right {a c : List UInt8} (hc : c.length = 4) : c = le4 (sumB a) ↔ run ones (a ++ c) = good := by
  rw [run_append]
  constructor
  · rintro rfl
    exact run_le4 _
  · intro h
    rw [← run_le4 (run ones a)] at h
    exact run_four hc rfl h

/-! ### what opens -/
theorem hdr_get {l : List UInt8} : (frame l).getD 0 0 = 1 := rfl
theorem len16_frame {l : List UInt8} (hl : l.length ≤ 4096) : len16 (frame l) = l.length := by
  have h1 : (frame l).getD 1 0 = UInt8.ofNat l.length := rfl
  have h2 : (frame l).getD 2 0 = UInt8.ofNat (l.length / 256) := rfl
  unfold len16
  rw [h1, h2, UInt8.toNat_ofNat', UInt8.toNat_ofNat']
  omega
theorem open_frame {l : List UInt8} (hl : l.length ≤ 4096) : openS (frame l) = (l, 0) := by
  have hfl := frame_length l
  unfold openS
  rw [if_neg (by omega), if_neg (by rw [hdr_get]; simp), if_neg (by rw [len16_frame hl]; omega), len16_frame hl]
  have h1 : (hdr l.length ++ l).length = 3 + l.length := by simp [hdr]; omega
  have e1 : (frame l).drop (3 + l.length) = le4 (sumB (hdr l.length ++ l)) := by
    unfold frame; rw [← h1, List.drop_left]
  have e2 : (frame l).take (3 + l.length) = hdr l.length ++ l := by
    unfold frame; rw [← h1, List.take_left]
  have e3 : ((frame l).drop 3).take l.length = l := by
    unfold frame
    have : (hdr l.length ++ l ++ le4 (sumB (hdr l.length ++ l))).drop 3 = l ++ le4 (sumB (hdr l.length ++ l)) := by
      rw [List.append_assoc]; rfl
    rw [this, List.take_left]
  rw [e1, e2, if_pos rfl, e3]
theorem open_cases (b : List UInt8) : (openS b).2 = 0 ∨ ((openS b).1 = [] ∧ ((openS b).2 = 10 ∨ (openS b).2 = 11 ∨ (openS b).2 = 12)) := by
  unfold openS
  split
  · right; simp
  · split
    · right; simp
    · split
      · right; simp
      · split
        · left; rfl
        · right; simp
theorem open_form {b : List UInt8} (h : (openS b).2 = 0) : (openS b).1.length ≤ 4096 ∧ frame (openS b).1 = b := by
  unfold openS at h ⊢
  split at h
  · simp at h
  · rename_i h7
    split at h
    · simp at h
    · rename_i hv
      split at h
      · simp at h
      · rename_i hn
        split at h
        · rename_i hs
          rw [if_neg h7, if_neg hv, if_neg hn, if_pos hs]
          have hn1 : len16 b ≤ 4096 := by omega
          have hn2 : len16 b + 7 = b.length := by omega
          generalize hN : len16 b = n at *
          have hpl : ((b.drop 3).take n).length = n := by simp; omega
          refine ⟨by rw [hpl]; exact hn1, ?_⟩
          unfold frame
          simp only [hpl]
          have hb : hdr n = b.take 3 := by
            have e0 : b.getD 0 0 = 1 := by simpa using hv
            match b, h7 with
            | x :: y :: z :: r, _ =>
              unfold len16 at hN
              simp only [List.getD_cons_zero, List.getD_cons_succ] at hN e0
              subst e0
              unfold hdr
              have hy := y.toNat_lt
              have hz := z.toNat_lt
              have h1 : UInt8.ofNat n = y := by apply UInt8.toNat_inj.1; rw [UInt8.toNat_ofNat']; omega
              have h2 : UInt8.ofNat (n / 256) = z := by apply UInt8.toNat_inj.1; rw [UInt8.toNat_ofNat']; omega
              rw [h1, h2]; rfl
            | [], h => simp at h
            | [_], h => simp at h
            | [_, _], h => simp at h
          have e1 : hdr n ++ (b.drop 3).take n = b.take (3 + n) := by rw [hb, List.take_add]
          rw [e1, ← hs, List.take_append_drop]
        · simp at h
theorem open_bad {b : List UInt8} {n : Nat} (hl : b.length = n + 7) (hn : n ≤ 4096) (h0 : b.getD 0 0 = 1) (h1 : len16 b = n) (hr : run ones b ≠ good) : openS b = ([], 12) := by
  unfold openS
  rw [if_neg (by omega), if_neg (by rw [h0]; simp), if_neg (by omega), if_neg]
  intro h
  rw [sum_right (by simp; omega), List.take_append_drop] at h
  exact hr h
theorem run_frame (l : List UInt8) : run ones (frame l) = good := (sum_right (le4_length _)).1 rfl
end Go.Frm
