/- What the frame's functions and their references come to. -/
import Derived.Test.YtaocddmmgefeoaaDoorTF
import Derived.Test.YtaocddmmgefeoaaDoorFwM
import Derived.Test.YtaocddmmgefeoaaDoorFrP
namespace Go.Proofs.YtaocddmmgefeoaaDoor
open Go Go.Fw Go.RowKit Go.Frm
set_option linter.unusedVariables false
set_option linter.unusedSimpArgs false

/-! ### numbers -/
theorem bitXor32 (a b : BitVec 32) : bitXor .u32 (a.toNat : Int) (b.toNat : Int) = ((a ^^^ b).toNat : Int) := by
  have e : ∀ x : BitVec 32, BitVec.ofInt IntKind.u32.bits (x.toNat : Int) = x := fun x => by
    apply BitVec.eq_of_toNat_eq; simp [BitVec.toNat_ofInt, IntKind.bits]
  unfold bitXor
  rw [e a, e b]
  have h := (a ^^^ b).isLt
  exact IntWalk.u32_in ((a ^^^ b).toNat : Int) ⟨by omega, by omega⟩
theorem bitAnd32 (a b : BitVec 32) : bitAnd .u32 (a.toNat : Int) (b.toNat : Int) = ((a &&& b).toNat : Int) := by
  have e : ∀ x : BitVec 32, BitVec.ofInt IntKind.u32.bits (x.toNat : Int) = x := fun x => by
    apply BitVec.eq_of_toNat_eq; simp [BitVec.toNat_ofInt, IntKind.bits]
  unfold bitAnd
  rw [e a, e b]
  have h := (a &&& b).isLt
  exact IntWalk.u32_in ((a &&& b).toNat : Int) ⟨by omega, by omega⟩
theorem bitXor64 (a b : BitVec 32) : bitXor .i64 (a.toNat : Int) (b.toNat : Int) = ((a ^^^ b).toNat : Int) := by
  have e : ∀ x : BitVec 32, BitVec.ofInt IntKind.i64.bits (x.toNat : Int) = x.setWidth 64 := fun x => by
    apply BitVec.eq_of_toNat_eq; simp [BitVec.toNat_ofInt, IntKind.bits]
  unfold bitXor
  rw [e a, e b]
  have : (a.setWidth 64 ^^^ b.setWidth 64).toNat = (a ^^^ b).toNat := by
    rw [BitVec.toNat_xor, BitVec.toNat_xor, BitVec.toNat_setWidth, BitVec.toNat_setWidth, Nat.mod_eq_of_lt (by have := a.isLt; omega), Nat.mod_eq_of_lt (by have := b.isLt; omega)]
  show IntKind.i64.wrap ((a.setWidth 64 ^^^ b.setWidth 64).toNat : Int) = _
  rw [this]
  have h := (a ^^^ b).isLt
  exact IntWalk.i64_in ((a ^^^ b).toNat : Int) ⟨by omega, by omega⟩
theorem shr4 (a : BitVec 32) : Int.fdiv (a.toNat : Int) (2 ^ 4) = ((a >>> 4).toNat : Int) := by
  rw [BitVec.toNat_ushiftRight, Nat.shiftRight_eq_div_pow, Int.fdiv_eq_ediv_of_nonneg _ (by decide)]
  rfl
theorem byt_toNat (c : UInt8) : (byt c).toNat = c.toNat := by
  unfold byt; rw [BitVec.toNat_ofNat]; exact Nat.mod_eq_of_lt (by have := c.toNat_lt; omega)
theorem u32_byte (c : UInt8) : IntKind.u32.wrap (c.toNat : Int) = ((byt c).toNat : Int) := by
  rw [byt_toNat]; exact IntWalk.u32_in _ ⟨by omega, by have := c.toNat_lt; omega⟩
theorem i64_byte (c : UInt8) : IntKind.i64.wrap (c.toNat : Int) = (c.toNat : Int) := IntWalk.i64_in _ ⟨by omega, by have := c.toNat_lt; omega⟩
theorem u8_nat (n : Nat) : IntKind.u8.wrap (n : Int) = ((UInt8.ofNat n).toNat : Int) := by
  rw [IntKind.wrap_u8, UInt8.toNat_ofNat']; omega

/-! ### types -/
theorem et22 : ET Tryd.prog 22 5 1 1 := ET.of (by kernel_rfl)
theorem sc5 : scB Tryd.prog 5 = true := by kernel_rfl
theorem sc52 : scB Tryd.prog 52 = true := by kernel_rfl
theorem str22 : strB Tryd.prog 22 5 9 = true := by kernel_rfl

/-- The table, as it lies in memory. -/
def Tab (w : World) : Prop := ∀ k, k < 16 → w.cell? ⟨0, k, none⟩ = some (.int .u32 ((tab.getD k 0 : Nat) : Int))
theorem Tab.upd {w w' : World} {S : Nat → Prop} (h : Tab w) (hu : Upd w w' S) (hs : ¬ S 0) : Tab w' := fun k hk => hu.cell (h k hk) hs

theorem run_tabidx (w : World) (i : Int) (h0 : 0 ≤ i) (h1 : i < 16) : (Instr.indexAt 54 (.pointer (some ⟨0, 0, none⟩)) (.int .u32 i)).run Tryd.prog w = .ok (.pointer (some ⟨0, i.toNat, none⟩)) w := by
  have hu : Tryd.prog.underlying 54 = some (.array 16 52) := by kernel_rfl
  obtain ⟨inf, hi, hs⟩ : ∃ inf, Tryd.prog.info? 52 = some inf ∧ inf.size = 1 := by
    cases hi : Tryd.prog.info? 52 with
    | none => exact absurd (show (Tryd.prog.info? 52).isSome = true by kernel_rfl) (by simp [hi])
    | some inf => exact ⟨inf, rfl, by have : (Tryd.prog.info? 52).map (·.size) = some 1 := by kernel_rfl
                                      rw [hi] at this; simpa using this⟩
  simp [Instr.indexAt, asIntOf, run_underlying hu, Instr.sureAddr, h0, h1, sizeOf, typeInfo, hi, hs, add_lit']

theorem tab_lt : ∀ k, k < 16 → tab.getD k 0 < 4294967296 := by decide
theorem nib_val (a : BitVec 32) : bitXor .u32 (Int.fdiv (a.toNat : Int) (2 ^ 4)) ((tab.getD (a &&& 15#32).toNat 0 : Nat) : Int) = ((nib a).toNat : Int) := by
  have h := tab_lt _ (low_lt a)
  have e : ((tab.getD (a &&& 15#32).toNat 0 : Nat) : Int) = ((BitVec.ofNat 32 (tab.getD (a &&& 15#32).toNat 0)).toNat : Int) := by
    rw [BitVec.toNat_ofNat, Nat.mod_eq_of_lt (by simpa using h)]
  rw [shr4, e, bitXor32]; rfl

theorem sum_ok {w : World} {s : Sl} {l : List UInt8} (hr : Rd w s 1 (bys l)) (ht : Tab w) (hl : l.length ≤ 4611686018427387904) :
    CallK Tryd.prog (.int .u32) 30 #[.slice s.a s.len s.cap] w fun (x : Int) w' => w' = w ∧ x = ((sumB l).toNat : Int) := by
  have hlen := hr.bys_len
  refine T30.calls ?_
  unfold T30
  refine ⟨fun st w1 => ∃ k, k ≤ l.length ∧ st.2.1 = (k : Int) ∧ st.1 = ((run ones (l.take k)).toNat : Int) ∧ w1 = w, fun st _ => l.length - st.2.1.toNat, ⟨0, Nat.zero_le _, rfl, rfl, rfl⟩, ?_⟩
  rintro ⟨acc, i, ⟨⟩⟩ w1 ⟨k, hk, h1, h2, rfl⟩
  dsimp only at h1 h2 ⊢
  subst h1; subst h2
  rw [SplitB_iff]
  constructor
  · intro hlt
    have hlt : k < l.length := by have := of_decide_eq_true hlt; omega
    obtain ⟨b, o, ha, hc⟩ := hr.bys_at (by intro e; subst e; simp at hlt)
    refine RunN.idx et22 ha (by omega) (by omega) ?_
    simp only [Int.toNat_natCast, Nat.mul_one]
    refine RunN.load sc5 (kd := .int .u8) (hc k hlt) ?_
    rw [u32_byte, bitXor32]
    generalize hs0 : run ones (l.take k) ^^^ byt l[k] = a
    have h15 : (15 : Int) = ((15#32).toNat : Int) := rfl
    rw [h15, bitAnd32]
    have hlow := low_lt a
    refine RunN.of (kd := .addr) (run_tabidx _ _ (by omega) (by omega)) ?_
    simp only [Int.toNat_natCast]
    refine RunN.load sc52 (kd := .int .u32) (ht _ hlow) ?_
    rw [nib_val]
    generalize hs1 : nib a = a1
    rw [bitAnd32]
    have hlow1 := low_lt a1
    refine RunN.of (kd := .addr) (run_tabidx _ _ (by omega) (by omega)) ?_
    simp only [Int.toNat_natCast]
    refine RunN.load sc52 (kd := .int .u32) (ht _ hlow1) ?_
    rw [nib_val]
    refine ⟨⟨k + 1, by omega, ?_, ?_, rfl⟩, ?_⟩
    · rw [IntWalk.i64_in _ ⟨by omega, by omega⟩]; omega
    · rw [List.take_succ_eq_append_getElem hlt, run_snoc]
      show _ = ((nib (nib (run ones (l.take k) ^^^ byt l[k]))).toNat : Int)
      rw [hs0, hs1]
    · rw [IntWalk.i64_in _ ⟨by omega, by omega⟩]; omega
  · intro hge
    have hge : ¬ (k : Int) < (s.len : Int) := of_decide_eq_false hge
    have : k = l.length := by omega
    subst this
    refine ⟨rfl, ?_⟩
    rw [List.take_length]
    have : (4294967295 : Int) = (ones.toNat : Int) := rfl
    rw [this, bitXor32]; rfl

/-! ### literal slices -/
theorem bs1 (w : World) (a : Int) : (Instr.buildSlice 22 1 #[(0, .int .u8 a)]).run Tryd.prog w = .ok (.slice (some ⟨w.heap.size, 0, none⟩) 1 1) (w.alloc (.cells ⟨[.int .u8 a]⟩ 5)) := by kernel_rfl
theorem bs3 (w : World) (a b c : Int) : (Instr.buildSlice 22 3 #[(0, .int .u8 a), (1, .int .u8 b), (2, .int .u8 c)]).run Tryd.prog w = .ok (.slice (some ⟨w.heap.size, 0, none⟩) 3 3) (w.alloc (.cells ⟨[.int .u8 a, .int .u8 b, .int .u8 c]⟩ 5)) := by kernel_rfl
theorem bs4 (w : World) (a b c d : Int) : (Instr.buildSlice 22 4 #[(0, .int .u8 a), (1, .int .u8 b), (2, .int .u8 c), (3, .int .u8 d)]).run Tryd.prog w = .ok (.slice (some ⟨w.heap.size, 0, none⟩) 4 4) (w.alloc (.cells ⟨[.int .u8 a, .int .u8 b, .int .u8 c, .int .u8 d]⟩ 5)) := by kernel_rfl
theorem lit_rd {w : World} {l : List UInt8} {n : Nat} (hn : n = l.length) : Rd (w.alloc (.cells ⟨bys l⟩ 5)) ⟨some ⟨w.heap.size, 0, none⟩, n, n⟩ 1 (bys l) := by
  subst hn
  refine ⟨by simp, .inr ⟨w.heap.size, 0, rfl, fun i v hv => ?_⟩, Nat.le_refl _⟩
  rw [cell_of_row _ _ _ ⟨bys l⟩ 5 (0, 0) (heap_alloc_new w _)]
  simpa using hv
theorem Tab.pos {w : World} (h : Tab w) : 0 < w.heap.size := World.block_lt_of_cell? w _ (h 0 (by decide))
theorem fdivN (n k : Nat) : Int.fdiv (n : Int) (2 ^ k) = ((n / 2 ^ k : Nat) : Int) := by
  rw [Int.fdiv_eq_ediv_of_nonneg _ (by exact Int.le_of_lt (Int.pow_pos (by decide)))]; simp

theorem same_ok {w : World} {a b : Sl} {x y : List UInt8} (ha : Rd w a 1 (bys x)) (hb : Rd w b 1 (bys y)) :
    CallK Tryd.prog .bool 22 #[.slice a.a a.len a.cap, .slice b.a b.len b.cap] w fun (r : Bool) w' => w' = w ∧ r = (x == y) := by
  refine T22.calls ?_
  unfold T22
  refine RunN.toStr str22 ha (RunN.toStr str22 hb ?_)
  rw [toList_mk, toList_mk]
  exact ⟨rfl, rfl⟩
theorem num_ok {w : World} {n : Int} : CallK Tryd.prog (.int .i64) 19 #[.int .i64 n] w fun (r : Int) w' => w' = w ∧ r = n := T19.calls ⟨rfl, rfl⟩
theorem slot_ok {w : World} {i n : Int} (h0 : 0 < n) (hn : n ≤ 4611686018427387904) : CallK Tryd.prog (.int .i64) 17 #[.int .i64 i, .int .i64 n] w fun (r : Int) w' => w' = w ∧ 0 ≤ r ∧ r < n := by
  refine T17.calls ?_
  unfold T17
  have hne : n ≠ 0 := by omega
  refine RunN.of (kd := .int .i64) (x := Int.tmod i n) (w' := w) (by simp [binOp, Op.intDiv, hne, Kd.val]) ?_
  have h1 : Int.tmod i n < n := by
    have := Int.tmod_lt_of_pos i h0; exact this
  have h2 : -n < Int.tmod i n := by
    have := Int.lt_tmod_of_pos i h0; exact this
  rw [SplitB_iff]
  constructor
  · intro h
    have h : Int.tmod i n < 0 := of_decide_eq_true h
    rw [IntWalk.i64_in _ ⟨by omega, by omega⟩]
    exact ⟨rfl, by omega, by omega⟩
  · intro h
    have h : ¬ Int.tmod i n < 0 := of_decide_eq_false h
    exact ⟨rfl, by omega, h1⟩

theorem signed_ok {w : World} {base : Nat} {s : Sl} {l : List UInt8} (ho : Ow w base 5 1 s (bys l)) (ht : Tab w) (h0 : 0 < base) (hb : base ≤ w.heap.size) (hl : l.length ≤ 1048576) :
    CallK Tryd.prog .sl 29 #[.slice s.a s.len s.cap] w fun (r : Sl) w' => Ow w' base 5 1 r (bys (l ++ le4 (sumB l))) ∧ Upd w w' (fun k => s.blk = some k) ∧
      (r.blk = s.blk ∨ ∃ g, r.blk = some g ∧ w.heap.size ≤ g ∧ g < w'.heap.size) := by
  refine T29.calls ?_
  unfold T29
  have hlen := ho.rd.bys_len
  refine (sum_ok ho.rd ht (by omega)).mono ?_
  rintro x w' ⟨rfl, rfl⟩
  rw [fdivN, fdivN, fdivN, u8_nat, u8_nat, u8_nat, u8_nat]
  refine RunN.of (kd := .sl) (x := ⟨some ⟨w'.heap.size, 0, none⟩, 4, 4⟩) (bs4 w' _ _ _ _) ?_
  have hu : Upd w' (w'.alloc (.cells ⟨bys (le4 (sumB l))⟩ 5)) nobody := Upd.alloc _ _ _
  have ho' := ho.upd hu (fun b _ h => h)
  have hr := lit_rd (w := w') (l := le4 (sumB l)) (n := 4) rfl
  refine RunN.app et22 (by decide) ho' (Src.ofRd et22 (by decide) hr (bys_one _)) (by simp; omega) (by simp only [maxLen]; omega) (by dsimp only; omega) ?_
  intro s' w2 h1 h2 h3 h4
  rw [← bys_append] at h2
  refine ⟨h2, (hu.mono fun _ _ h => h.elim).trans h3, ?_⟩
  rcases h4 with h4 | ⟨g, hg, hge, hlt⟩
  · exact .inl h4
  · exact .inr ⟨g, hg, by simp at hge; omega, hlt⟩

theorem seal_ok {w : World} {p : Sl} {l : List UInt8} (hr : Rd w p 1 (bys l)) (ht : Tab w) (hl : l.length ≤ 1048576) :
    CallK Tryd.prog (.tup (.cons .sl (.cons (.int .i64) .nilT))) 18 #[.slice p.a p.len p.cap] w fun (r : Sl × Int × Unit) w' => Upd w w' nobody ∧
      ((4096 < l.length ∧ r = (⟨none, 0, 0⟩, 2, ())) ∨ (l.length ≤ 4096 ∧ r.2.1 = 0 ∧ Ow w' w.heap.size 5 1 r.1 (bys (frame l)) ∧ ∃ g, r.1.blk = some g)) := by
  have hlen := hr.bys_len
  have hpos := ht.pos
  refine T18.calls ?_
  unfold T18
  rw [SplitB_iff]
  constructor
  · intro h
    have h := of_decide_eq_true h
    exact ⟨Upd.refl _ _, .inl ⟨by omega, rfl⟩⟩
  · intro h
    have h := of_decide_eq_false h
    have hl4 : l.length ≤ 4096 := by omega
    rw [IntWalk.i64_in _ ⟨by omega, by omega⟩]
    refine RunN.make0 et22 (base := w.heap.size) (by omega) (by omega) (by omega) (Nat.le_refl _) ?_
    intro s1 w1 hs1 hc1 ho1 hu1 hb1 hlt1
    have e1 : (p.len : Int) = ((l.length : Nat) : Int) := by omega
    rw [e1, fdivN, u8_nat, u8_nat]
    refine RunN.of (kd := .sl) (x := ⟨some ⟨w1.heap.size, 0, none⟩, 3, 3⟩) (bs3 w1 _ _ _) ?_
    have hu2 : Upd w1 (w1.alloc (.cells ⟨bys (hdr l.length)⟩ 5)) nobody := Upd.alloc _ _ _
    have hr2 := lit_rd (w := w1) (l := hdr l.length) (n := 3) rfl
    have hsz1 := hu1.size
    refine RunN.app et22 (by decide) (ho1.upd hu2 (fun b _ h => h)) (Src.ofRd et22 (by decide) hr2 (bys_one _)) (by simp; omega) (by simp only [maxLen]; omega) (by dsimp only; omega) ?_
    intro s3 w3 hs3 ho3 hu3 hb3
    dsimp only at hs3
    have hU : Upd w w3 nobody := (hu1.trans hu2).trans' hu3 (fun i hi hlt => by rw [hb1] at hi; cases hi; omega)
    rw [List.nil_append] at ho3
    have hr3 := hr.upd hU (fun b _ h => h)
    refine RunN.app et22 (by decide) ho3 (Src.ofRd et22 (by decide) hr3 (bys_one _)) (by have := hU.size; omega) (by simp only [maxLen]; omega) (by omega) ?_
    intro s4 w4 hs4 ho4 hu4 hb4
    have hU4 : Upd w w4 nobody := hU.trans' hu4 (fun i hi hlt => by have := (ho3.lt hi).1; omega)
    rw [← bys_append] at ho4
    have ht4 : Tab w4 := ht.upd hU4 (fun h => h)
    refine (signed_ok ho4 ht4 hpos (by have := hU4.size; omega) (by simp [hdr]; omega)).mono ?_
    rintro r w5 ⟨h5, h6, h7⟩
    refine ⟨hU4.trans' h6 (fun i hi hlt => by have := (ho4.lt hi).1; omega), .inr ⟨hl4, rfl, h5, ?_⟩⟩
    have hne : (bys (hdr l.length ++ l ++ le4 (sumB (hdr l.length ++ l)))) ≠ [] := by simp [bys, hdr]
    rcases h5.2 with h0 | ⟨g, o, cs, ha, _⟩
    · exfalso
      have := h5.1
      rw [h0] at this
      simp [le4_length, hdr] at this
    · exact ⟨g, by simp [Sl.blk, ha]⟩

theorem bitOr_len (a b : UInt8) : bitOr .i64 (IntKind.i64.wrap (a.toNat : Int)) (IntKind.i64.wrap (IntKind.i64.wrap (b.toNat : Int) * 2 ^ 8)) = ((a.toNat + 256 * b.toNat : Nat) : Int) := by
  have ha := a.toNat_lt
  have hb := b.toNat_lt
  rw [i64_byte, i64_byte, IntWalk.i64_in _ ⟨by omega, by omega⟩]
  have e1 : ((b.toNat : Int) * 2 ^ 8) = ((256 * b.toNat : Nat) : Int) := by omega
  rw [e1]
  unfold bitOr
  have h1 : ∀ n : Nat, n < 65536 → BitVec.ofInt IntKind.i64.bits (n : Int) = BitVec.ofNat 64 n := fun n _ => by
    apply BitVec.eq_of_toNat_eq; simp [BitVec.toNat_ofInt, IntKind.bits]
  rw [h1 _ (by omega), h1 _ (by omega)]
  show IntKind.i64.wrap ((BitVec.ofNat 64 a.toNat ||| BitVec.ofNat 64 (256 * b.toNat)).toNat : Int) = _
  rw [BitVec.toNat_or, BitVec.toNat_ofNat, BitVec.toNat_ofNat, Nat.mod_eq_of_lt (by omega), Nat.mod_eq_of_lt (by omega)]
  have e2 : a.toNat ||| 256 * b.toNat = a.toNat + 256 * b.toNat := by
    have := Nat.two_pow_add_eq_or_of_lt (i := 8) (b := a.toNat) (by omega) b.toNat
    rw [Nat.or_comm]; simp at this; omega
  rw [e2]
  exact IntWalk.i64_in _ ⟨by omega, by omega⟩

theorem le4_get (x : BitVec 32) (j : Nat) (h : j < 4) : (le4 x)[j]? = some (UInt8.ofNat (x.toNat / 2 ^ (8 * j))) := by
  match j, h with
  | 0, _ => simp [le4]
  | 1, _ => rfl
  | 2, _ => rfl
  | 3, _ => rfl

theorem open_ok {w : World} {b : Sl} {l : List UInt8} (hr : Rd w b 1 (bys l)) (ht : Tab w) (hl : l.length ≤ 1048576) :
    CallK Tryd.prog (.tup (.cons .sl (.cons (.int .i64) .nilT))) 21 #[.slice b.a b.len b.cap] w fun (r : Sl × Int × Unit) w' => Upd w w' nobody ∧ r.2.1 = (openS l).2 ∧ Ow w' w.heap.size 5 1 r.1 (bys (openS l).1) := by
  have hlen := hr.bys_len
  have hpos := ht.pos
  have hcap := hr.2.2
  refine T21.calls ?_
  unfold T21
  rw [SplitB_iff]
  constructor
  · intro h
    have h : (b.len : Int) < 7 := of_decide_eq_true h
    have e : openS l = ([], 10) := by unfold openS; rw [if_pos (by omega)]
    rw [e]
    exact ⟨Upd.refl _ _, rfl, Ow.nil _ _ _ _⟩
  · intro h
    have h : ¬ (b.len : Int) < 7 := of_decide_eq_false h
    have h7 : 7 ≤ l.length := by omega
    obtain ⟨g, o, ha, hc⟩ := hr.bys_at (by intro e; subst e; simp at h7)
    refine RunN.idx et22 ha (by omega) (by omega) ?_
    refine RunN.load sc5 (kd := .int .u8) (hc 0 (by omega)) ?_
    have hg0 : l.getD 0 0 = l[0] := by simp [List.getD_eq_getElem?_getD, List.getElem?_eq_getElem (show 0 < l.length by omega)]
    have hg1 : l.getD 1 0 = l[1] := by simp [List.getD_eq_getElem?_getD, List.getElem?_eq_getElem (show 1 < l.length by omega)]
    have hg2 : l.getD 2 0 = l[2] := by simp [List.getD_eq_getElem?_getD, List.getElem?_eq_getElem (show 2 < l.length by omega)]
    rw [SplitB_iff]
    constructor
    · intro hv
      have hv : l[0] ≠ 1 := by
        intro e
        rw [e] at hv
        simp at hv
      have e : openS l = ([], 11) := by unfold openS; rw [if_neg (by omega), if_pos (by rw [hg0]; exact hv)]
      rw [e]
      exact ⟨Upd.refl _ _, rfl, Ow.nil _ _ _ _⟩
    · intro hv
      have hv : l[0] = 1 := by
        have hv : ((l[0].toNat : Int) != 1) = false := hv
        rw [bne_eq_false_iff_eq] at hv
        apply UInt8.toNat_inj.1
        have : (1 : UInt8).toNat = 1 := rfl
        omega
      have hud : Upd w w.drew nobody := Upd.drew _ _
      have hrd := hr.upd hud (fun _ _ h => h)
      refine ReadN.of (kd := .addr) (run_idx et22 ha (by omega) (by omega)) ?_
      have hcd : ∀ (i : Nat) (h : i < l.length), w.drew.cell? ⟨g, o + i, none⟩ = some (u8v l[i]) := hc
      refine ReadN.load sc5 (kd := .int .u8) (hcd 1 (by omega)) ?_
      refine ReadN.of (kd := .addr) (run_idx et22 ha (by omega) (by omega)) ?_
      refine ReadN.load sc5 (kd := .int .u8) (hcd 2 (by omega)) ?_
      rw [bitOr_len]
      have hn16 : len16 l = l[1].toNat + 256 * l[2].toNat := by unfold len16; rw [hg1, hg2]
      rw [← hn16]
      generalize hn : len16 l = n
      dsimp only [JoinX]
      rw [SplitB_iff]
      have bad : (4096 < n ∨ n + 7 ≠ l.length) → openS l = ([], 10) := by
        intro hb
        unfold openS
        rw [if_neg (by omega), if_neg (by rw [hg0]; simp [hv]), if_pos (by rw [hn]; exact hb)]
      constructor
      · intro hgt
        have hgt : (n : Int) > 4096 := of_decide_eq_true hgt
        rw [bad (.inl (by omega))]
        exact ⟨hud, rfl, Ow.nil _ _ _ _⟩
      · intro hle
        have hle : ¬ (n : Int) > 4096 := of_decide_eq_false hle
        rw [IntWalk.i64_in ((b.len : Int) - 7) ⟨by omega, by omega⟩]
        rw [SplitB_iff]
        constructor
        · intro hne
          have hne : (n : Int) ≠ (b.len : Int) - 7 := by simpa using hne
          rw [bad (.inr (by omega))]
          exact ⟨hud, rfl, Ow.nil _ _ _ _⟩
        · intro heq
          have heq : (n : Int) = (b.len : Int) - 7 := by simpa using heq
          rw [IntWalk.i64_in (3 + (n : Int)) ⟨by omega, by omega⟩]
          have en : (3 + (n : Int)).toNat = 3 + n := by omega
          refine RunN.subH et22 (by omega) (by omega) ?_
          rw [en]
          have hs1 := hrd.sub (lo := 0) (hi := 3 + n) (m := b.cap) (Nat.zero_le _) (by omega) (by omega)
          have e1 : (List.drop (0 * 1) (bys l)).take ((3 + n - 0) * 1) = bys (l.take (3 + n)) := by simp [bys, List.map_take]
          rw [e1] at hs1
          refine (sum_ok hs1 (ht.upd hud (fun h => h)) (by simp; omega)).mono ?_
          rintro x w1 ⟨rfl, rfl⟩
          refine RunN.subL et22 (by omega) (by omega) ?_
          rw [en]
          have hs2 := hrd.sub (lo := 3 + n) (hi := b.len) (m := b.cap) (by omega) (by omega) (by omega)
          have e2 : (List.drop ((3 + n) * 1) (bys l)).take ((b.len - (3 + n)) * 1) = bys (l.drop (3 + n)) := by
            rw [Nat.mul_one, Nat.mul_one, List.take_of_length_le (by simp; omega)]; simp [bys, List.map_drop]
          rw [e2] at hs2
          generalize hS : sumB (l.take (3 + n)) = S
          have hopen : openS l = if l.drop (3 + n) = le4 S then ((l.drop 3).take n, 0) else ([], 12) := by
            unfold openS
            rw [if_neg (by omega), if_neg (by rw [hg0]; simp [hv]), if_neg (by rw [hn]; omega), hn, hS]
          obtain ⟨g2, o2, ha2, hc2⟩ := hs2.bys_at (by intro e; have := congrArg List.length e; simp at this; omega)
          have hdl : (l.drop (3 + n)).length = 4 := by simp; omega
          refine ⟨fun st w2 => ∃ k : Nat, k ≤ 4 ∧ st.1 = (k : Int) ∧ w2 = w.drew ∧ ∀ j : Nat, j < k → (l.drop (3 + n))[j]? = (le4 S)[j]?, fun st _ => 4 - st.1.toNat, ⟨0, by omega, rfl, rfl, fun j hj => by omega⟩, ?_⟩
          rintro ⟨i, ⟨⟩⟩ w2 ⟨k, hk, h1, rfl, hall⟩
          dsimp only at h1
          subst h1
          rw [SplitB_iff]
          constructor
          · intro hlt
            have hlt : (k : Int) < ((b.len - (3 + n) : Nat) : Int) := of_decide_eq_true hlt
            have hk4 : k < 4 := by omega
            refine RunN.idx et22 ha2 (by omega) (by dsimp only; omega) ?_
            simp only [Int.toNat_natCast, Nat.mul_one]
            refine RunN.load sc5 (kd := .int .u8) (hc2 k (by omega)) ?_
            rw [IntWalk.i64_in (8 * (k : Int)) ⟨by omega, by omega⟩]
            have hsh : (binOp .shr 52 (.int .u32 (S.toNat : Int)) (.int .i64 (8 * (k : Int)))).run Tryd.prog w.drew = .ok (.int .u32 ((S.toNat / 2 ^ (8 * k) : Nat) : Int)) w.drew := by
              have e3 : min (8 * (k : Int)).toNat IntKind.u32.bits = 8 * k := by simp [IntKind.bits]; omega
              simp only [binOp, Op.shift, e3]
              rw [if_neg (by omega), fdivN]; rfl
            refine RunN.of (kd := .int .u32) hsh ?_
            rw [u8_nat, SplitB_iff]
            have hlk : (l.drop (3 + n))[k]? = some (l.drop (3 + n))[k] := List.getElem?_eq_getElem (by omega)
            constructor
            · intro hne
              have hne : (l.drop (3 + n))[k] ≠ UInt8.ofNat (S.toNat / 2 ^ (8 * k)) := by
                intro e
                rw [e] at hne
                simp at hne
              rw [hopen, if_neg ?_]
              · exact ⟨hud, rfl, Ow.nil _ _ _ _⟩
              · intro e
                have h3 := le4_get S k hk4
                rw [← e, hlk] at h3
                exact hne (by simpa using h3)
            · intro he
              have he : (l.drop (3 + n))[k] = UInt8.ofNat (S.toNat / 2 ^ (8 * k)) := by
                have he : (((l.drop (3 + n))[k].toNat : Int) != ((UInt8.ofNat (S.toNat / 2 ^ (8 * k))).toNat : Int)) = false := he
                rw [bne_eq_false_iff_eq] at he
                exact UInt8.toNat_inj.1 (by omega)
              refine ⟨⟨k + 1, by omega, ?_, rfl, ?_⟩, ?_⟩
              · rw [IntWalk.i64_in _ ⟨by omega, by omega⟩]; omega
              · intro j hj
                rcases Nat.lt_or_ge j k with h | h
                · exact hall j h
                · have : j = k := by omega
                  subst this
                  rw [hlk, he, le4_get S j hk4]
              · rw [IntWalk.i64_in _ ⟨by omega, by omega⟩]; omega
          · intro hge
            have hge : ¬ (k : Int) < ((b.len - (3 + n) : Nat) : Int) := of_decide_eq_false hge
            have hk4 : k = 4 := by omega
            subst hk4
            have heq4 : l.drop (3 + n) = le4 S := by
              apply List.ext_getElem?
              intro j
              rcases Nat.lt_or_ge j 4 with h | h
              · exact hall j h
              · rw [List.getElem?_eq_none (by omega), List.getElem?_eq_none (by simp [le4_length]; omega)]
            rw [hopen, if_pos heq4]
            refine RunN.subLHM et22 (by omega) (by omega) (by omega) (by omega) ?_
            rw [en, show Int.toNat 3 = 3 from rfl]
            have hs3 := hrd.sub (lo := 3) (hi := 3 + n) (m := 3 + n) (by omega) (by omega) (by omega)
            have e3 : (List.drop (3 * 1) (bys l)).take ((3 + n - 3) * 1) = bys ((l.drop 3).take n) := by
              rw [Nat.mul_one, Nat.mul_one, Nat.add_sub_cancel_left]; simp [bys, List.map_take, List.map_drop]
            rw [e3] at hs3
            refine RunN.make0 et22 (base := w.heap.size) (by omega) (by omega) (by omega) (by simp) ?_
            intro s1 w1 hs1' hc1 ho1 hu1 hb1 hlt1
            have hs3' := hs3.upd hu1 (fun _ _ h => h)
            have hsz1 := hu1.size
            refine RunN.app et22 (by decide) ho1 (Src.ofRd et22 (by decide) hs3' (bys_one _)) (by simp at hsz1; omega) (by simp only [maxLen]; omega) (by dsimp only; omega) ?_
            intro s2 w3 h2 h3 h4 h5
            rw [List.nil_append] at h3
            exact ⟨(hud.trans hu1).trans' h4 (fun i hi hlt => by rw [hb1] at hi; cases hi; simp at hlt), rfl, h3⟩
end Go.Proofs.YtaocddmmgefeoaaDoor
