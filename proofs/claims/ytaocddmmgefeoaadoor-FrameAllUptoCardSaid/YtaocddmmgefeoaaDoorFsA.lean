/- The document's own sum, seal and open. -/
import Derived.Test.YtaocddmmgefeoaaDoorFrR
import Derived.Test.YtaocddmmgefeoaaDoorFrS
import Derived.Test.YtaocddmmgefeoaaDoorFwU
namespace Go.Proofs.YtaocddmmgefeoaaDoor
open Go Go.Fw Go.RowKit Go.Frm
set_option linter.unusedVariables false
set_option linter.unusedSimpArgs false
set_option maxRecDepth 4000
set_option maxHeartbeats 1000000

instance : Sc Tryd.prog 3 := ⟨by kernel_rfl⟩
instance : Sc Tryd.prog 5 := ⟨by kernel_rfl⟩
instance : Sc Tryd.prog 9 := ⟨by kernel_rfl⟩
instance : Sc Tryd.prog 22 := ⟨by kernel_rfl⟩
instance : Sc Tryd.prog 25 := ⟨by kernel_rfl⟩
instance : Sc Tryd.prog 26 := ⟨by kernel_rfl⟩
instance : Et Tryd.prog 22 5 1 1 := ⟨et22, by decide⟩
instance : Et Tryd.prog 25 22 1 24 := ⟨ET.of (by kernel_rfl), by decide⟩
instance : Et Tryd.prog 26 9 1 16 := ⟨ET.of (by kernel_rfl), by decide⟩
variable {w0 w : World} {F : Grps}

theorem lsb_odd (x y : BitVec 32) : ((x.toNat + y.toNat) % 2 = 1) ↔ (x ^^^ y).getLsbD 0 = true := by
  rw [BitVec.getLsbD_xor, BitVec.getLsbD, BitVec.getLsbD, Nat.testBit_zero, Nat.testBit_zero]
  rcases Nat.mod_two_eq_zero_or_one x.toNat with h | h <;> rcases Nat.mod_two_eq_zero_or_one y.toNat with h' | h' <;> simp [h, h'] <;> omega
theorem half (x : BitVec 32) : ((x >>> 1).toNat : Int) = Int.tdiv (x.toNat : Int) 2 := by
  rw [BitVec.toNat_ushiftRight, Nat.shiftRight_eq_div_pow, Int.tdiv_eq_ediv_of_nonneg (by omega)]; omega
theorem bit_step (x y : BitVec 32) : bit (x ^^^ y) = ((x >>> 1) ^^^ (if (x ^^^ y).getLsbD 0 then poly else 0#32)) ^^^ (y >>> 1) := by
  unfold bit
  rw [BitVec.ushiftRight_xor_distrib]
  ac_rfl
def bits (n : Nat) (x : BitVec 32) : BitVec 32 := match n with | 0 => x | n + 1 => bit (bits n x)
theorem bits8 (x : BitVec 32) : bits 8 x = nib (nib x) := by rw [nib_eq, nib_eq]; rfl
theorem shr8 (c : UInt8) : Frm.byt c >>> 8 = 0#32 := by
  apply BitVec.eq_of_toNat_eq
  rw [BitVec.toNat_ushiftRight, Nat.shiftRight_eq_div_pow, byt_toNat]
  have := c.toNat_lt
  simp; omega

theorem rsum_ok {wi : World} {s : Sl} {l : List UInt8} (hr : Rd wi s 1 (bys l)) (hl : l.length ≤ 4611686018427387904) :
    CallK Tryd.prog (.int .i64) 28 #[.slice s.a s.len s.cap] wi fun (x : Int) w' => w' = wi ∧ x = ((sumB l).toNat : Int) := by
  have hlen := hr.bys_len
  refine T28.calls ?_
  unfold T28
  refine LoopX.mk (fun st w1 => ∃ k, k ≤ l.length ∧ st.2.1 = (k : Int) ∧ st.1 = ((run ones (l.take k)).toNat : Int) ∧ w1 = wi) (fun st => l.length - st.2.1.toNat) ⟨0, Nat.zero_le _, rfl, rfl, rfl⟩ ?_
  rintro ⟨acc, i, ⟨⟩⟩ wi ⟨k, hk, h1, h2, rfl⟩ K hK
  dsimp only at h1 h2 hK ⊢
  subst h1; subst h2
  rw [SplitB_iff]
  refine ⟨fun hc => ?_, fun hc => ?_⟩
  · have hc : k < l.length := by have := of_decide_eq_true hc; omega
    refine hr.idxK k rfl (by omega) ?_
    intro b o hb
    refine hr.el hb (k * 1) rfl (kd := .int .u8) (x := (l[k].toNat : Int)) (by rw [Nat.mul_one]; exact bys_get hc) ?_
    generalize hs0 : run ones (l.take k) = s0
    have hcl := l[k].toNat_lt
    refine LoopX.mk (fun st w1 => ∃ (j : Nat) (x y : BitVec 32), j ≤ 8 ∧ st.2.2.1 = (j : Int) ∧ st.1 = (x.toNat : Int) ∧ st.2.1 = (y.toNat : Int) ∧ y = Frm.byt l[k] >>> j ∧ x ^^^ y = bits j (s0 ^^^ Frm.byt l[k]) ∧ w1 = wi) (fun st => 8 - st.2.2.1.toNat)
      ⟨0, s0, Frm.byt l[k], by omega, rfl, rfl, by dsimp only; rw [i64_byte, byt_toNat], by simp, rfl, rfl⟩ ?_
    rintro ⟨xi, yi, ji, ⟨⟩⟩ wi ⟨j, x, y, hj, h1, h2, h3, hy, hxy, rfl⟩ K2 hK2
    dsimp only at h1 h2 h3 hK2 ⊢
    subst h1; subst h2; subst h3
    have hxl := x.isLt
    have hyl := y.isLt
    rw [SplitB_iff]
    refine ⟨fun hd => ?_, fun hd => ?_⟩
    · have hd : j < 8 := by have := of_decide_eq_true hd; omega
      have hodd : (Int.tmod (IntKind.i64.wrap ((x.toNat : Int) + (y.toNat : Int))) 2 == 1) = (x ^^^ y).getLsbD 0 := by
        rw [wr (by omega), Bool.eq_iff_iff, beq_iff_eq, ← lsb_odd, Int.tmod_eq_emod_of_nonneg (by omega)]
        omega
      have hx2 : IntKind.i64.wrap (Int.tdiv (x.toNat : Int) 2) = ((x >>> 1).toNat : Int) := by
        rw [half, wr]; rw [Int.tdiv_eq_ediv_of_nonneg (by omega)]; omega
      have hy2 : IntKind.i64.wrap (Int.tdiv (y.toNat : Int) 2) = ((y >>> 1).toNat : Int) := by
        rw [half, wr]; rw [Int.tdiv_eq_ediv_of_nonneg (by omega)]; omega
      have hyn : y >>> 1 = Frm.byt l[k] >>> (j + 1) := by rw [hy, ← BitVec.shiftRight_add]
      have hbs := bit_step x y
      rw [hxy] at hbs
      rw [hodd, hx2, hy2]
      have h3988 : (3988292384 : Int) = (poly.toNat : Int) := rfl
      rw [h3988, bitXor64]
      dsimp only [JoinX]
      rw [SplitB_iff]
      refine ⟨fun hz => ?_, fun hz => ?_⟩
      · rw [← hxy, hz, if_pos rfl] at hbs
        refine hK2 _ _ ⟨j + 1, x >>> 1 ^^^ poly, y >>> 1, by omega, by dsimp only; rw [wr (by omega)]; omega, rfl, rfl, hyn, ?_, rfl⟩ (by dsimp only; rw [wr (by omega)]; omega)
        rw [← hbs, hxy]; rfl
      · rw [← hxy, hz] at hbs
        simp only [Bool.false_eq_true, if_false, BitVec.xor_zero] at hbs
        refine hK2 _ _ ⟨j + 1, x >>> 1, y >>> 1, by omega, by dsimp only; rw [wr (by omega)]; omega, rfl, rfl, hyn, ?_, rfl⟩ (by dsimp only; rw [wr (by omega)]; omega)
        rw [← hbs, hxy]; rfl
    · have hd : j = 8 := by have := of_decide_eq_false hd; omega
      subst hd
      rw [hy, shr8, BitVec.xor_zero, bits8] at hxy
      refine hK _ _ ⟨k + 1, hc, by dsimp only; rw [wr (by omega)]; omega, ?_, rfl⟩ (by dsimp only; rw [wr (by omega)]; omega)
      rw [List.take_succ_eq_append_getElem hc, run_snoc, hs0]
      dsimp only
      rw [hxy]; rfl
  · have hc : k = l.length := by have := of_decide_eq_false hc; omega
    subst hc
    refine ⟨rfl, ?_⟩
    rw [List.take_length]
    have hlt := (run ones l).isLt
    rw [wr (by omega)]
    have e1 : sumB l = ~~~ run ones l := by
      have : ones = BitVec.allOnes 32 := by decide
      rw [sumB, this, BitVec.xor_allOnes, ← this]
    rw [e1, BitVec.toNat_not]
    omega
theorem tmod256 (n : Nat) : IntKind.u8.wrap (Int.tmod (n : Int) 256) = ((UInt8.ofNat n).toNat : Int) := by
  rw [Int.tmod_eq_emod_of_nonneg (by omega)]
  have e : ((n : Int) % 256) = ((n % 256 : Nat) : Int) := by omega
  rw [e, u8_nat]
  simp
theorem div256 (n : Nat) (h : n ≤ 9223372036854775807) : IntKind.i64.wrap (Int.tdiv (n : Int) 256) = ((n / 256 : Nat) : Int) := by
  rw [Int.tdiv_eq_ediv_of_nonneg (by omega), wr (by omega)]; omega
theorem seal_st {wi : World} {p : Sl} {l : List UInt8} (hr : Rd wi p 1 (bys l)) (ht : Tab wi) (hl : l.length ≤ 1048576) :
    CallK Tryd.prog (.tup (.cons .sl (.cons (.int .i64) .nilT))) 18 #[.slice p.a p.len p.cap] wi fun (r : Sl × Int × Unit) w' =>
      ∃ v, St wi w' [[.row 5 1 r.1 (bys v)]] ∧ ((4096 < l.length ∧ v = [] ∧ r.2.1 = 2) ∨ (l.length ≤ 4096 ∧ v = frame l ∧ r.2.1 = 0)) := by
  refine (seal_ok hr ht hl).mono ?_
  rintro ⟨r, e, ⟨⟩⟩ w' ⟨hu, h⟩
  rcases h with ⟨h1, h2⟩ | ⟨h1, h2, h3, _⟩
  · cases h2
    exact ⟨[], ((St.init wi).keep hu).nilrow 5 1, .inl ⟨h1, rfl, rfl⟩⟩
  · exact ⟨_, St.ofOw hu h3 (bys_one _), .inr ⟨h1, rfl, h2⟩⟩
theorem open_st {wi : World} {b : Sl} {l : List UInt8} (hr : Rd wi b 1 (bys l)) (ht : Tab wi) (hl : l.length ≤ 1048576) :
    CallK Tryd.prog (.tup (.cons .sl (.cons (.int .i64) .nilT))) 21 #[.slice b.a b.len b.cap] wi fun (r : Sl × Int × Unit) w' => r.2.1 = (openS l).2 ∧ St wi w' [[.row 5 1 r.1 (bys (openS l).1)]] :=
  (open_ok hr ht hl).mono fun r w' ⟨hu, h1, h2⟩ => ⟨h1, St.ofOw hu h2 (bys_one _)⟩
theorem bys_snoc {l : List UInt8} {k : Nat} (h : k < l.length) (a : List UInt8) : bys (a ++ l.take k) ++ [u8v l[k]] = bys (a ++ l.take (k + 1)) := by
  rw [List.take_succ_eq_append_getElem h, ← List.append_assoc, bys_append (a ++ l.take k)]; rfl
theorem rseal_st {wi : World} {p : Sl} {l : List UInt8} (hr : Rd wi p 1 (bys l)) (hl : l.length ≤ 1048576) :
    CallK Tryd.prog (.tup (.cons .sl (.cons (.int .i64) .nilT))) 16 #[.slice p.a p.len p.cap] wi fun (r : Sl × Int × Unit) w' =>
      ∃ v, St wi w' [[.row 5 1 r.1 (bys v)]] ∧ ((4096 < l.length ∧ v = [] ∧ r.2.1 = 2) ∨ (l.length ≤ 4096 ∧ v = frame l ∧ r.2.1 = 0)) := by
  have hlen := hr.bys_len
  have h := St.init wi
  refine T16.calls ?_
  unfold T16
  rw [SplitB_iff]
  refine ⟨fun hc => ?_, fun hc => ?_⟩
  · have hc := of_decide_eq_true hc
    exact ⟨[], h.nilrow 5 1, .inl ⟨by omega, rfl, rfl⟩⟩
  · have hc := of_decide_eq_false hc
    rw [tmod256, div256 _ (by omega), u8_nat]
    refine h.newS 1 (bs3 _ _ _ _) rfl rfl rfl ?_
    intro s1 w h1 h2 _ h
    have e0 : ([Value.int .u8 1, Value.int .u8 ((UInt8.ofNat p.len).toNat : Int), Value.int .u8 ((UInt8.ofNat (p.len / 256)).toNat : Int)] : List Value) = bys (hdr l.length ++ l.take 0) := by
      rw [hlen]; simp [hdr, bys, u8v]
    rw [e0] at h
    refine LoopX.mk (fun st w' => ∃ k, k ≤ l.length ∧ st.2.1 = (k : Int) ∧ St wi w' ([.row 5 1 st.1 (bys (hdr l.length ++ l.take k))] :: [])) (fun st => l.length - st.2.1.toNat) ⟨0, Nat.zero_le _, rfl, h⟩ ?_
    clear h
    rintro ⟨q, _, ⟨⟩⟩ w ⟨k, hk, rfl, h⟩ K hK
    dsimp only at h hK ⊢
    have hql := (h.rd (k := 0) (i := 0) ⟨_, rfl, rfl⟩).bys_len
    have hqk : q.len = 3 + k := by rw [hql, List.length_append, List.length_take]; simp [hdr]; omega
    rw [SplitB_iff]
    refine ⟨fun hd => ?_, fun hd => ?_⟩
    · have hd : k < l.length := by have := of_decide_eq_true hd; omega
      refine (h.old hr).idxK k rfl (by omega) ?_
      intro b o hb
      refine (h.old hr).el hb (k * 1) rfl (kd := .int .u8) (x := (l[k].toNat : Int)) (by rw [Nat.mul_one]; exact bys_get hd) ?_
      refine h.newS 1 (bs1 _ _) rfl rfl rfl ?_
      intro s4 w h1 h2 h3 h
      refine h.app 1 0 ⟨_, rfl, rfl⟩ (h.rd (k := 0) (i := 0) ⟨_, rfl, rfl⟩) one_int (by simp only [maxLen]; omega) (by omega) ?_
      intro s5 w h5 h
      dsimp only [updG, setO] at h
      have e : bys (hdr l.length ++ l.take k) ++ [Value.int .u8 (l[k].toNat : Int)] = bys (hdr l.length ++ l.take (k + 1)) := bys_snoc hd _
      rw [e] at h
      exact hK _ _ ⟨k + 1, hd, by dsimp only; rw [wr (by omega)]; omega, h.drop 0⟩ (by dsimp only; rw [wr (by omega)]; omega)
    · have hd : k = l.length := by have := of_decide_eq_false hd; omega
      clear hK K
      subst hd
      rw [List.take_length] at h
      refine (rsum_ok (h.rd (k := 0) (i := 0) ⟨_, rfl, rfl⟩) (by rw [List.length_append]; simp [hdr]; omega)).mono ?_
      rintro x w ⟨rfl, rfl⟩
      generalize hS : sumB (hdr l.length ++ l) = S
      have hSl := S.isLt
      refine LoopX.mk (fun st w' => ∃ k : Nat, k ≤ 4 ∧ st.2.2.1 = (k : Int) ∧ st.2.1 = ((S.toNat / 256 ^ k : Nat) : Int) ∧ St wi w' ([.row 5 1 st.1 (bys ((hdr l.length ++ l) ++ (le4 S).take k))] :: [])) (fun st => 4 - st.2.2.1.toNat) ⟨0, by omega, rfl, by simp, by simpa using h⟩ ?_
      clear h hql hqk
      rintro ⟨q, _, _, ⟨⟩⟩ w ⟨k, hk, rfl, rfl, h⟩ K hK
      dsimp only at h hK ⊢
      have hql := (h.rd (k := 0) (i := 0) ⟨_, rfl, rfl⟩).bys_len
      have hqk : q.len = 3 + l.length + k := by rw [hql, List.length_append, List.length_append, List.length_take, le4_length]; simp [hdr]; omega
      rw [SplitB_iff]
      refine ⟨fun hd => ?_, fun hd => ?_⟩
      · have hd : k < 4 := by have := of_decide_eq_true hd; omega
        have hdiv : S.toNat / 256 ^ k ≤ S.toNat := Nat.div_le_self _ _
        rw [tmod256, div256 _ (by omega)]
        refine h.newS 1 (bs1 _ _) rfl rfl rfl ?_
        intro s4 w h1 h2 h3 h
        refine h.app 1 0 ⟨_, rfl, rfl⟩ (h.rd (k := 0) (i := 0) ⟨_, rfl, rfl⟩) one_int (by simp only [maxLen]; omega) (by omega) ?_
        intro s5 w h5 h
        dsimp only [updG, setO] at h
        have hk4 : k < (le4 S).length := hd
        have e1 : (le4 S)[k]'hk4 = UInt8.ofNat (S.toNat / 256 ^ k) := by
          have : k = 0 ∨ k = 1 ∨ k = 2 ∨ k = 3 := by omega
          rcases this with rfl | rfl | rfl | rfl <;> simp [le4]
        have e : bys (hdr l.length ++ l ++ (le4 S).take k) ++ [Value.int .u8 ((UInt8.ofNat (S.toNat / 256 ^ k)).toNat : Int)] = bys (hdr l.length ++ l ++ (le4 S).take (k + 1)) := by
          rw [← e1]; exact bys_snoc hk4 _
        rw [e] at h
        refine hK _ _ ⟨k + 1, by omega, by dsimp only; rw [wr (by omega)]; omega, ?_, h.drop 0⟩ (by dsimp only; rw [wr (by omega)]; omega)
        dsimp only
        rw [Nat.pow_succ, Nat.div_div_eq_div_mul]
      · have hd : k = 4 := by have := of_decide_eq_false hd; omega
        subst hd
        rw [List.take_of_length_le (by rw [le4_length]; omega), ← hS] at h
        exact ⟨_, h, .inr ⟨by omega, rfl, rfl⟩⟩
end Go.Proofs.YtaocddmmgefeoaaDoor
