/- The frame's plain mathematics: the sum by nibbles and by bits, the frame of a payload, what opens. No program in sight. -/
set_option linter.unusedSimpArgs false
namespace Go.Frm

def ones : BitVec 32 := 4294967295#32
def poly : BitVec 32 := 3988292384#32
def tab : List Nat := [0, 498536548, 997073096, 651767980, 1994146192, 1802195444, 1303535960, 1342533948, 3988292384, 4027552580, 3604390888, 3412177804, 2607071920, 2262029012, 2685067896, 3183342108]
def nib (a : BitVec 32) : BitVec 32 := (a >>> 4) ^^^ BitVec.ofNat 32 (tab.getD (a &&& 15#32).toNat 0)
def bit (a : BitVec 32) : BitVec 32 := (a >>> 1) ^^^ (if a.getLsbD 0 then poly else 0#32)
def byt (c : UInt8) : BitVec 32 := BitVec.ofNat 32 c.toNat
def step (s : BitVec 32) (c : UInt8) : BitVec 32 := nib (nib (s ^^^ byt c))
def run (s : BitVec 32) (l : List UInt8) : BitVec 32 := l.foldl step s
def sumB (l : List UInt8) : BitVec 32 := run ones l ^^^ ones

theorem run_append (s : BitVec 32) (a b : List UInt8) : run s (a ++ b) = run (run s a) b := by simp [run]
theorem run_snoc (s : BitVec 32) (a : List UInt8) (c : UInt8) : run s (a ++ [c]) = step (run s a) c := by simp [run]

/-! ### bits and nibbles -/
theorem xlc (x y z : BitVec 32) : x ^^^ (y ^^^ z) = y ^^^ (x ^^^ z) := by
  rw [← BitVec.xor_assoc, BitVec.xor_comm x y, BitVec.xor_assoc]
theorem xx (x y : BitVec 32) : x ^^^ (x ^^^ y) = y := by rw [← BitVec.xor_assoc, BitVec.xor_self, BitVec.zero_xor]
theorem bit_xor (x y : BitVec 32) : bit (x ^^^ y) = bit x ^^^ bit y := by
  unfold bit
  rw [BitVec.ushiftRight_xor_distrib, BitVec.getLsbD_xor]
  generalize x >>> 1 = u
  generalize y >>> 1 = v
  cases x.getLsbD 0 <;> cases y.getLsbD 0 <;> simp only [Bool.false_eq_true, if_false, if_true, BitVec.xor_zero, Bool.xor_false, Bool.false_xor, Bool.xor_true, Bool.not_true, Bool.true_xor, Bool.not_false]
  · exact BitVec.xor_assoc _ _ _
  · rw [BitVec.xor_assoc, BitVec.xor_assoc, BitVec.xor_comm v]
  · rw [BitVec.xor_assoc, xlc poly v poly, BitVec.xor_self, BitVec.xor_zero]
def bit4 (a : BitVec 32) : BitVec 32 := bit (bit (bit (bit a)))
theorem bit4_xor (x y : BitVec 32) : bit4 (x ^^^ y) = bit4 x ^^^ bit4 y := by simp [bit4, bit_xor]
theorem bit_even {x : BitVec 32} (h : x.getLsbD 0 = false) : bit x = x >>> 1 := by unfold bit; rw [h]; simp
theorem bit4_high (a : BitVec 32) : bit4 (a &&& 4294967280#32) = a >>> 4 := by
  have g : ∀ i, i < 4 → (a &&& 4294967280#32).getLsbD i = false := by
    intro i hi
    rw [BitVec.getLsbD_and]
    have : (4294967280#32).getLsbD i = false := by
      match i, hi with
      | 0, _ => rfl
      | 1, _ => rfl
      | 2, _ => rfl
      | 3, _ => rfl
    rw [this, Bool.and_false]
  generalize hX : (a &&& 4294967280#32) = X at g
  have h1 : bit X = X >>> 1 := bit_even (g 0 (by omega))
  have h2 : bit (X >>> 1) = X >>> 1 >>> 1 := bit_even (by rw [BitVec.getLsbD_ushiftRight]; exact g 1 (by omega))
  have h3 : bit (X >>> 1 >>> 1) = X >>> 1 >>> 1 >>> 1 := bit_even (by rw [BitVec.getLsbD_ushiftRight, BitVec.getLsbD_ushiftRight]; exact g 2 (by omega))
  have h4 : bit (X >>> 1 >>> 1 >>> 1) = X >>> 1 >>> 1 >>> 1 >>> 1 := bit_even (by rw [BitVec.getLsbD_ushiftRight, BitVec.getLsbD_ushiftRight, BitVec.getLsbD_ushiftRight]; exact g 3 (by omega))
  unfold bit4
  rw [h1, h2, h3, h4, ← hX]
  apply BitVec.eq_of_getLsbD_eq
  intro i hi
  simp only [BitVec.getLsbD_ushiftRight, BitVec.getLsbD_and]
  have e : 1 + (1 + (1 + (1 + i))) = 4 + i := by omega
  rw [e]
  by_cases h : 4 + i < 32
  · have : (4294967280#32).getLsbD (4 + i) = true := by
      have : ∀ j, j < 28 → (4294967280#32).getLsbD (4 + j) = true := by decide
      exact this i (by omega)
    rw [this, Bool.and_true]
  · have : a.getLsbD (4 + i) = false := BitVec.getLsbD_of_ge _ _ (by omega)
    rw [this, Bool.false_and]
theorem split_low (a : BitVec 32) : a = (a &&& 4294967280#32) ^^^ (a &&& 15#32) := by
  apply BitVec.eq_of_getLsbD_eq
  intro i hi
  rw [BitVec.getLsbD_xor, BitVec.getLsbD_and, BitVec.getLsbD_and]
  have : ∀ j, j < 32 → ((4294967280#32).getLsbD j = true ∧ (15#32).getLsbD j = false) ∨ ((4294967280#32).getLsbD j = false ∧ (15#32).getLsbD j = true) := by decide
  rcases this i hi with ⟨h1, h2⟩ | ⟨h1, h2⟩ <;> rw [h1, h2] <;> simp
theorem low_lt (a : BitVec 32) : (a &&& 15#32).toNat < 16 := by
  rw [BitVec.toNat_and]
  exact Nat.lt_of_le_of_lt Nat.and_le_right (by decide)
theorem bit4_low : ∀ n, n < 16 → bit4 (BitVec.ofNat 32 n) = BitVec.ofNat 32 (tab.getD n 0) := by decide
theorem nib_eq (a : BitVec 32) : nib a = bit4 a := by
  have h := bit4_low _ (low_lt a)
  rw [BitVec.ofNat_toNat, BitVec.setWidth_eq] at h
  unfold nib
  rw [← h]
  conv => rhs; rw [split_low a]
  rw [bit4_xor, bit4_high]

theorem nib_xor (x y : BitVec 32) : nib (x ^^^ y) = nib x ^^^ nib y := by rw [nib_eq, nib_eq, nib_eq, bit4_xor]

/-! ### the frame -/
def le4 (x : BitVec 32) : List UInt8 := [UInt8.ofNat x.toNat, UInt8.ofNat (x.toNat / 256), UInt8.ofNat (x.toNat / 65536), UInt8.ofNat (x.toNat / 16777216)]
def hdr (n : Nat) : List UInt8 := [1, UInt8.ofNat n, UInt8.ofNat (n / 256)]
def frame (l : List UInt8) : List UInt8 := hdr l.length ++ l ++ le4 (sumB (hdr l.length ++ l))
/-- What bytes open to: the payload and the number of the error. -/
def len16 (b : List UInt8) : Nat := (b.getD 1 0).toNat + 256 * (b.getD 2 0).toNat
def openS (b : List UInt8) : List UInt8 × Int :=
  if b.length < 7 then ([], 10)
  else if b.getD 0 0 ≠ 1 then ([], 11)
  else if 4096 < len16 b ∨ len16 b + 7 ≠ b.length then ([], 10)
  else if b.drop (3 + len16 b) = le4 (sumB (b.take (3 + len16 b))) then ((b.drop 3).take (len16 b), 0)
  else ([], 12)
theorem le4_length (x : BitVec 32) : (le4 x).length = 4 := rfl
theorem frame_length (l : List UInt8) : (frame l).length = l.length + 7 := by simp [frame, hdr, le4_length]
end Go.Frm
