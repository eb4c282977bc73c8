/- The journal's small functions: how many sectors, a mark, beginnings and ends; what stands at a place. -/
import Derived.Test.YtimebochhbfkgaaJkE
import Derived.Test.YtimebochhbfkgaaTJm
namespace Go.Proofs.Ytimebochhbfkgaa
open Go Go.Fw Go.RowKit
set_option linter.unusedVariables false
set_option linter.unusedSimpArgs false
set_option maxRecDepth 4000
set_option maxHeartbeats 2000000
variable {w0 w : World} {F G : Grps} {d : D}

instance : Sc Try.prog 22 := ⟨by kernel_rfl⟩
instance : Sc Try.prog 23 := ⟨by kernel_rfl⟩
instance : Sc Try.prog 26 := ⟨by kernel_rfl⟩
instance : PtE Try.prog 23 := ⟨fun _ _ _ _ => by kernel_rfl, fun _ _ _ => by kernel_rfl, fun _ _ _ _ => by kernel_rfl, fun _ _ _ => by kernel_rfl⟩
instance : NewC Try.prog 26 [.int .i64 0] := ⟨fun _ => by kernel_rfl⟩
theorem bs22 (w : World) (a : Option Addr) (l c : Nat) : (Instr.buildSlice 22 1 #[(0, .slice a l c)]).run Try.prog w = .ok (.slice (some ⟨w.heap.size, 0, none⟩) 1 1) (w.alloc (.cells ⟨[.slice a l c]⟩ 31)) := by kernel_rfl
theorem bs31_7 (w : World) (a b c d e f g : Int) : (Instr.buildSlice 31 7 #[(0, .int .u8 a), (1, .int .u8 b), (2, .int .u8 c), (3, .int .u8 d), (4, .int .u8 e), (5, .int .u8 f), (6, .int .u8 g)]).run Try.prog w = .ok (.slice (some ⟨w.heap.size, 0, none⟩) 7 7) (w.alloc (.cells ⟨[.int .u8 a, .int .u8 b, .int .u8 c, .int .u8 d, .int .u8 e, .int .u8 f, .int .u8 g]⟩ 5)) := by kernel_rfl
theorem bs31_2 (w : World) (a b : Int) : (Instr.buildSlice 31 2 #[(0, .int .u8 a), (1, .int .u8 b)]).run Try.prog w = .ok (.slice (some ⟨w.heap.size, 0, none⟩) 2 2) (w.alloc (.cells ⟨[.int .u8 a, .int .u8 b]⟩ 5)) := by kernel_rfl

/-- How many sectors a record takes. -/
def cnt (n : Nat) : Nat := max 1 ((n + 495) / 496)
theorem cnt_pos (n : Nat) : 1 ≤ cnt n := by unfold cnt; omega
theorem cnt_le {n : Nat} (h : n ≤ 8192) : cnt n ≤ 17 := by unfold cnt; omega
theorem cnt_lt {n p : Nat} (h : p < cnt n) : p * 496 ≤ n := by unfold cnt at h; omega
theorem sectors_ok {n : Nat} (hn : n ≤ 4611686018427387904) : CallK Try.prog (.int .i64) 35 #[.int .i64 (n : Int)] w fun (r : Int) w' => w' = w ∧ r = (cnt n : Int) := by
  refine T35.calls ?_
  unfold T35
  rw [wr (x := (n : Int) + 496) (by omega), wr (x := (n : Int) + 496 - 1) (by omega), Int.tdiv_eq_ediv_of_nonneg (by omega), wr (by omega)]
  refine RunN.of (kd := .int .i64) (max_i _ _ _) ?_
  refine ⟨rfl, ?_⟩
  simp only [cnt]; omega

/-- The mark of a sector. -/
def mk (a p n : Nat) : List UInt8 := [by8 a, by8 (Int.fdiv a 256), by8 (Int.fdiv a 65536), by8 (Int.fdiv a 16777216), by8 p, by8 n, by8 (Int.fdiv n 256), if p + 1 = cnt n then 2 else 1]
@[simp] theorem mk_len (a p n : Nat) : (mk a p n).length = 8 := rfl
theorem mark_st (h : St w0 w F) (a p : Nat) {n : Nat} (hn : n ≤ 1048576) : CallK Try.prog .sl 37 #[.int .i64 (a : Int), .int .i64 (p : Int), .int .i64 (n : Int)] w fun (r : Sl) w' => r.len = 8 ∧ St w0 w' ([.row 5 1 r (bys (mk a p n))] :: F) := by
  refine T37.calls ?_
  unfold T37
  refine h.newS 1 (bs31_7 _ _ _ _ _ _ _ _) rfl rfl rfl ?_
  intro u w hul huc _ h
  refine (sectors_ok (n := n) (by omega)).mono ?_
  rintro r w' ⟨hw, rfl⟩
  subst hw
  have hc : cnt n ≤ 1048576 := by unfold cnt; omega
  have hc1 := cnt_pos n
  have key : ∀ (b : UInt8), mk a p n = [by8 a, by8 (Int.fdiv a 256), by8 (Int.fdiv a 65536), by8 (Int.fdiv a 16777216), by8 p, by8 n, by8 (Int.fdiv n 256)] ++ [b] →
      [Value.int .u8 (IntKind.u8.wrap a), .int .u8 (IntKind.u8.wrap (Int.fdiv a 256)), .int .u8 (IntKind.u8.wrap (Int.fdiv a 65536)), .int .u8 (IntKind.u8.wrap (Int.fdiv a 16777216)), .int .u8 (IntKind.u8.wrap p), .int .u8 (IntKind.u8.wrap n), .int .u8 (IntKind.u8.wrap (Int.fdiv n 256))] ++ [u8v b] = bys (mk a p n) := by
    intro b hb
    rw [hb, bys_append]
    simp only [by8_v, bys, List.map_cons, List.map_nil]
  rw [wr (by omega), SplitB_iff]
  refine ⟨fun hz => ?_, fun hz => ?_⟩
  · have hz : (p : Int) = cnt n - 1 := by simpa using hz
    refine h.newS 1 (bsB31 _ _) rfl rfl rfl ?_
    intro v w hvl hvc _ h
    refine h.app 1 0 ⟨_, rfl, rfl⟩ (h.rd (k := 0) (i := 0) ⟨_, rfl, rfl⟩) one_int (by simp only [maxLen]; omega) (by omega) ?_
    intro r w hr h
    dsimp only [updG, setO] at h
    have h := h.drop 0
    dsimp only [delO] at h
    have e := key 2 (by simp only [mk]; rw [if_pos (by omega)]; rfl)
    refine ⟨by omega, ?_⟩
    rw [← e]; exact h
  · have hz : ¬ (p : Int) = cnt n - 1 := by simpa using hz
    refine h.newS 1 (bsB31 _ _) rfl rfl rfl ?_
    intro v w hvl hvc _ h
    refine h.app 1 0 ⟨_, rfl, rfl⟩ (h.rd (k := 0) (i := 0) ⟨_, rfl, rfl⟩) one_int (by simp only [maxLen]; omega) (by omega) ?_
    intro r w hr h
    dsimp only [updG, setO] at h
    have h := h.drop 0
    dsimp only [delO] at h
    have e := key 1 (by simp only [mk]; rw [if_neg (by omega)]; rfl)
    refine ⟨by omega, ?_⟩
    rw [← e]; exact h

theorem equal_ok {p q : Sl} {a b : List UInt8} (hp : Rd w p 1 (bys a)) (hq : Rd w q 1 (bys b)) : CallK Try.prog .bool 62 #[.slice p.a p.len p.cap, .slice q.a q.len q.cap] w fun (r : Bool) w' => w' = w ∧ r = decide (a = b) := by
  refine T62.calls ?_
  unfold T62
  refine RunN.toStr strB31 hp ?_
  refine RunN.toStr strB31 hq ?_
  refine ⟨rfl, ?_⟩
  have e : ∀ l : List UInt8, (ByteArray.mk l.toArray).toList = l := fun l => by
    simp [ByteArray.toList_eq]
  rw [e, e, Bool.eq_iff_iff]; simp
theorem hasPre {p q : Sl} {a b : List UInt8} (hp : Rd w p 1 (bys a)) (hq : Rd w q 1 (bys b)) (hl : b.length ≤ a.length) : CallK Try.prog .bool 53 #[.slice p.a p.len p.cap, .slice q.a q.len q.cap] w fun (r : Bool) w' => w' = w ∧ r = decide (a.take b.length = b) := by
  have h1 := hp.bys_len
  have h2 := hq.bys_len
  have h3 := hp.2.2
  refine T53.calls ?_
  unfold T53
  rw [SplitB_iff]
  refine ⟨fun _ => ?_, fun hz => ?_⟩
  · refine RunN.sH (s := p) q.len rfl (by omega) ?_
    have hr := hp.pre (hi := q.len) (by omega)
    have e : (bys a).take (q.len * 1) = bys (a.take b.length) := by rw [Nat.mul_one, h2]; simp [bys, List.map_take]
    rw [e] at hr
    exact (equal_ok hr hq).mono fun r w' h => h
  · have := of_decide_eq_false hz; omega
theorem hasSuf {p q : Sl} {a b : List UInt8} (hp : Rd w p 1 (bys a)) (hq : Rd w q 1 (bys b)) (hl : b.length ≤ a.length) (hm : a.length ≤ 1048576) : CallK Try.prog .bool 54 #[.slice p.a p.len p.cap, .slice q.a q.len q.cap] w fun (r : Bool) w' => w' = w ∧ r = decide (a.drop (a.length - b.length) = b) := by
  have h1 := hp.bys_len
  have h2 := hq.bys_len
  have h3 := hp.2.2
  refine T54.calls ?_
  unfold T54
  rw [SplitB_iff]
  refine ⟨fun _ => ?_, fun hz => ?_⟩
  · rw [wr (by omega)]
    refine RunN.sL (s := p) (a.length - b.length) (by omega) (by omega) ?_
    have hr := hp.suf (lo := a.length - b.length) (by omega)
    have e : (bys a).drop ((a.length - b.length) * 1) = bys (a.drop (a.length - b.length)) := by rw [Nat.mul_one]; simp [bys, List.map_drop]
    rw [e] at hr
    exact (equal_ok hr hq).mono fun r w' h => h
  · have := of_decide_eq_false hz; omega

/-! ### what stands at a place -/
def hdr (s : List UInt8) : Nat := (s.getD 5 0).toNat + 256 * (s.getD 6 0).toNat
def goodS (a p n : Nat) (s : List UInt8) : Bool := decide (s.take 8 = mk a p n) && decide (s.drop 504 = mk a p n)
def chunkS (n p : Nat) (s : List UInt8) : List UInt8 := (s.drop 8).take (min 496 (n - p * 496))
def recGo (a n : Nat) : List (List UInt8) → Nat → Nat → Option (List UInt8)
  | _, _, 0 => some []
  | [], _, _ + 1 => none
  | s :: r, p, k + 1 => if goodS a p n s then (recGo a n r (p + 1) k).map (chunkS n p s ++ ·) else none
/-- The record of that number that stands at the beginning of these sectors. -/
def recAt (a : Nat) : List (List UInt8) → Option (List UInt8)
  | [] => none
  | s :: r => if hdr s ≤ 8192 then recGo a (hdr s) (s :: r) 0 (cnt (hdr s)) else none
theorem recGo_len {a n : Nat} {l : List (List UInt8)} {p k : Nat} {b : List UInt8} (hl : ∀ s ∈ l, s.length = 512) (h : recGo a n l p k = some b) (hk : p + k = cnt n) : b.length = n - p * 496 ∧ k ≤ l.length := by
  induction k generalizing l p b with
  | zero =>
    simp only [recGo, Option.some.injEq] at h
    subst h
    refine ⟨?_, Nat.zero_le _⟩
    unfold cnt at hk
    simp only [List.length_nil]; omega
  | succ k ih =>
    cases l with
    | nil => simp [recGo] at h
    | cons s r =>
      simp only [recGo] at h
      split at h
      · rw [Option.map_eq_some_iff] at h
        obtain ⟨c, hc, rfl⟩ := h
        obtain ⟨h1, h2⟩ := ih (fun s hs => hl s (List.mem_cons_of_mem _ hs)) hc (by omega)
        have h5 := hl s (List.mem_cons_self ..)
        refine ⟨?_, by simp; omega⟩
        have := cnt_lt (n := n) (p := p) (by omega)
        simp only [List.length_append, h1, chunkS, List.length_take, List.length_drop, h5]
        omega
      · cases h
theorem recAt_len {a : Nat} {l : List (List UInt8)} {b : List UInt8} (hl : ∀ s ∈ l, s.length = 512) (h : recAt a l = some b) : b.length ≤ 8192 ∧ cnt b.length ≤ l.length := by
  cases l with
  | nil => cases h
  | cons s r =>
    simp only [recAt] at h
    split at h
    · obtain ⟨h1, h2⟩ := recGo_len hl h (by omega)
      simp only [Nat.zero_mul, Nat.sub_zero] at h1
      rw [h1]; exact ⟨by assumption, h2⟩
    · cases h
end Go.Proofs.Ytimebochhbfkgaa
