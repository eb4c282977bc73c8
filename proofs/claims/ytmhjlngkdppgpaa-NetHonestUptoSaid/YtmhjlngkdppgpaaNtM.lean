/- Making a bag, delivering, looking, moving. -/
import Derived.Test.YtmhjlngkdppgpaaNtT
namespace Go.Proofs.Ytmhjlngkdppgpaa
open Go Go.Fw Go.RowKit
set_option linter.unusedVariables false
set_option linter.unusedSimpArgs false

theorem box54 (w : World) (n : Int) : (Instr.box 54 (.agg #[.int .i64 n, .slice none 0 0])).run Try.prog w = .ok (.pointer (some ⟨w.heap.size, 0, none⟩)) (w.alloc (.cells ⟨[.int .i64 n, .slice none 0 0]⟩ 54)) := by kernel_rfl
theorem new_ok {w : World} {n : Int} (h1 : 1 ≤ n) (h2 : n ≤ 1024) : CallK Try.prog (.tup (.cons .ptr (.cons (.int .i64) .nilT))) 8 #[.int .i64 n] w fun (r : Option Addr × Int × Unit) w' =>
    r = (some ⟨w.heap.size, 0, none⟩, 0, ()) ∧ Upd w w' nobody ∧ w'.heap.size = w.heap.size + 1 ∧ BagAt w' w.heap.size w.heap.size n ⟨none, 0, 0⟩ [] := by
  refine T8.calls ?_
  unfold T8
  dsimp only [JoinX]
  rw [SplitB_iff]
  refine ⟨fun h => by have h : n < 1 := of_decide_eq_true h; omega, fun _ => ?_⟩
  rw [SplitB_iff]
  refine ⟨fun h => by have h : n > 1024 := of_decide_eq_true h; omega, fun _ => ?_⟩
  refine RunN.newB (box54 w n) ?_
  intro w1 hb1 hu1 hs1
  exact ⟨rfl, hu1, hs1, hb1, Ow.nil _ _ _ _, by simp [Sl.blk], Nat.le_refl _, fun x hx => by cases hx⟩

abbrev KL : Kd := .agg (.cons (.int .i64) (.cons (.int .i64) (.cons .sl .nilT)))
theorem deliver_ok {w : World} {base B : Nat} {cap : Int} {s : Sl} {xs : List (Ltr × Sl)} (h : BagAt w base B cap s xs) (hlen : xs.length ≤ 65536) {i : Int} :
    CallK Try.prog (.tup (.cons KL (.cons (.int .i64) .nilT))) 13 #[.pointer (some ⟨B, 0, none⟩), .int .i64 i] w fun (r : (Int × Int × Sl × Unit) × Int × Unit) w' =>
      (¬ (0 ≤ i ∧ i < (xs.length : Int)) ∧ r = ((0, 0, ⟨none, 0, 0⟩, ()), 40, ()) ∧ Upd w w' nobody) ∨
      (∃ (k : Nat) (hk : k < xs.length), i = (k : Int) ∧ r = ((xs[k].1.f, xs[k].1.t, xs[k].2, ()), 0, ()) ∧ Upd w w' (Mine B s) ∧ ∃ s', s'.blk = s.blk ∧ BagAt w' base B cap s' (xs.eraseIdx k)) := by
  refine T13.calls ?_
  unfold T13
  refine RunN.newB (new31 w) ?_
  intro w1 hb1 hu1 hs1
  have h1 := h.keep hu1
  refine (in_ok h1).mono ?_
  rintro r w2 ⟨rfl, rfl⟩
  rw [SplitB_iff]
  constructor
  · intro hc
    have hc : ¬ (0 ≤ i ∧ i < (xs.length : Int)) := by simp at hc; omega
    refine RunU.storA ag31 hb1 rfl (ds := lc 0 0 ⟨none, 0, 0⟩) rfl (lc_one _ _ _) ?_
    intro w3 hb3 hu3
    refine ReadN.loadA (kd := KL) (x := (0, 0, ⟨none, 0, 0⟩, ())) ag31 hb3 rfl rfl ?_
    exact .inl ⟨hc, rfl, hu1.fresh hu3 fun k hk => by omega⟩
  · intro hc
    have hc : 0 ≤ i ∧ i < (xs.length : Int) := by simpa using hc
    obtain ⟨k, rfl⟩ : ∃ k : Nat, i = (k : Int) := ⟨i.toNat, by omega⟩
    have hk : k < xs.length := by omega
    refine (take_ok h1 hlen hk).mono ?_
    rintro r w3 ⟨rfl, hu3, s', hs', h3⟩
    have hB := h.blk.lt
    have hb1 := hb1.upd hu3 (fun e => by
      rcases e with e | e
      · omega
      · have := (h.ow.lt e).2; omega)
    refine RunU.storA ag31 hb1 rfl (ds := lc xs[k].1.f xs[k].1.t xs[k].2) rfl (lc_one _ _ _) ?_
    intro w4 hb4 hu4
    refine ReadN.loadA (kd := KL) (x := (xs[k].1.f, xs[k].1.t, xs[k].2, ())) ag31 hb4 rfl rfl ?_
    refine .inr ⟨k, hk, rfl, rfl, ?_, s', hs', ?_⟩
    · exact ((hu1.none _).trans hu3).trans' hu4 fun j hj hlt => by omega
    · refine h3.upd hu4 (by omega) (fun b hb e => ?_) (fun x hx b hb e => ?_)
      · rw [hs'] at hb; have := (h.ow.lt hb).2; omega
      · have := ((h.each x (List.mem_of_mem_eraseIdx hx)).2.2 b hb).1; omega

/-- Looking at a letter: a copy of it. -/
theorem at_ok {w : World} {base B : Nat} {cap : Int} {s : Sl} {xs : List (Ltr × Sl)} (h : BagAt w base B cap s xs) {i : Int} :
    CallK Try.prog (.tup (.cons KL (.cons (.int .i64) .nilT))) 16 #[.pointer (some ⟨B, 0, none⟩), .int .i64 i] w fun (r : (Int × Int × Sl × Unit) × Int × Unit) w' =>
      Upd w w' nobody ∧ ((¬ (0 ≤ i ∧ i < (xs.length : Int)) ∧ r = ((0, 0, ⟨none, 0, 0⟩, ()), 40, ())) ∨
      (∃ (k : Nat) (hk : k < xs.length) (q : Sl), i = (k : Int) ∧ r = ((xs[k].1.f, xs[k].1.t, q, ()), 0, ()) ∧ Ow w' w.heap.size 5 1 q (bys xs[k].1.m))) := by
  refine T16.calls ?_
  unfold T16
  refine RunN.newB (new31 w) ?_
  intro w1 hb1 hu1 hs1
  have h1 := h.keep hu1
  refine (in_ok h1).mono ?_
  rintro r w2 ⟨rfl, rfl⟩
  rw [SplitB_iff]
  constructor
  · intro hc
    have hc : ¬ (0 ≤ i ∧ i < (xs.length : Int)) := by simp at hc; omega
    refine RunU.storA ag31 hb1 rfl (ds := lc 0 0 ⟨none, 0, 0⟩) rfl (lc_one _ _ _) ?_
    intro w3 hb3 hu3
    refine ReadN.loadA (kd := KL) (x := (0, 0, ⟨none, 0, 0⟩, ())) ag31 hb3 rfl rfl ?_
    exact ⟨hu1.fresh hu3 fun k hk => by omega, .inl ⟨hc, rfl⟩⟩
  · intro hc
    have hc : 0 ≤ i ∧ i < (xs.length : Int) := by simpa using hc
    obtain ⟨k, rfl⟩ : ∃ k : Nat, i = (k : Int) := ⟨i.toNat, by omega⟩
    have hk : k < xs.length := by omega
    simp only [NilP, add_lit', Nat.zero_add]
    have hsl := h.len
    obtain ⟨g, o, ha, hblk, hgl, hgs, hlc, hcm⟩ := h.addr (by omega)
    refine RunN.loadB (kd := .sl) (x := s) sc22 h1.blk rfl ?_
    refine RunN.idx et22 ha (by omega) (by omega) ?_
    simp only [Int.toNat_natCast]
    have hld := Rd.load (P := Try.prog) ag31 h1.ow.rd ha (i := k) (by omega)
    rw [row_at _ _ hk] at hld
    refine RunN.of (kd := KL) (x := (xs[k].1.f, xs[k].1.t, xs[k].2, ())) hld ?_
    have hx := h1.each xs[k] (List.getElem_mem _)
    refine (own2_ok hx.1 hx.2.1).mono ?_
    rintro ⟨f', t', q, ⟨⟩⟩ w3 ⟨hu3, e1, e2, ho3⟩
    dsimp only at e1 e2 ho3
    subst e1; subst e2
    refine RunU.storA ag31 (hb1.upd hu3 (fun h => h)) rfl (ds := lc xs[k].1.f xs[k].1.t q) rfl (lc_one _ _ _) ?_
    intro w4 hb4 hu4
    refine ReadN.loadA (kd := KL) (x := (xs[k].1.f, xs[k].1.t, q, ())) ag31 hb4 rfl rfl ?_
    refine ⟨(hu1.trans hu3).fresh hu4 fun j hj => by omega, .inr ⟨k, hk, q, rfl, rfl, ?_⟩⟩
    exact (ho3.upd hu4 fun b hb e => by have := (ho3.lt hb).1; omega).base fun b hb => by have := (ho3.lt hb).1; omega

theorem insertIdx_td {α : Type} (x : α) : ∀ (j : Nat) (l : List α), j ≤ l.length → l.insertIdx j x = l.take j ++ x :: l.drop j
  | 0, l, _ => by simp
  | j + 1, [], h => by simp at h
  | j + 1, y :: l, h => by rw [List.insertIdx_succ_cons, insertIdx_td x j l (by simpa using h)]; simp
theorem move_list1 {α : Type} (xs : List α) {i j : Nat} (hij : i < j) (hj : j < xs.length) (x : α) : ((xs.take i ++ (xs.drop (i + 1)).take (j - i) ++ xs.drop j).take j ++ [x] ++ (xs.take i ++ (xs.drop (i + 1)).take (j - i) ++ xs.drop j).drop (j + 1)) = (xs.eraseIdx i).insertIdx j x := by
  rw [insertIdx_td _ _ _ (by rw [List.length_eraseIdx]; split <;> omega), List.eraseIdx_eq_take_drop_succ]
  have h1 : (xs.take i ++ (xs.drop (i + 1)).take (j - i)).length = j := by simp; omega
  have e1 : (xs.take i ++ (xs.drop (i + 1)).take (j - i) ++ xs.drop j).take j = xs.take i ++ (xs.drop (i + 1)).take (j - i) := by
    rw [List.take_append_of_le_length (by omega), List.take_of_length_le (by omega)]
  have e2 : (xs.take i ++ (xs.drop (i + 1)).take (j - i) ++ xs.drop j).drop (j + 1) = xs.drop (j + 1) := by
    rw [List.drop_append, List.drop_of_length_le (by omega), h1, List.drop_drop, List.nil_append]; congr 1; omega
  have e3 : (xs.take i ++ xs.drop (i + 1)).take j = xs.take i ++ (xs.drop (i + 1)).take (j - i) := by
    rw [List.take_append, List.take_of_length_le (by simp; omega)]; congr 2; simp; omega
  have e4 : (xs.take i ++ xs.drop (i + 1)).drop j = xs.drop (j + 1) := by
    rw [List.drop_append, List.drop_of_length_le (by simp; omega), List.nil_append, List.drop_drop]; congr 1; simp; omega
  rw [e1, e2, e3, e4]; simp
theorem move_list2 {α : Type} (xs : List α) {i j : Nat} (hij : j ≤ i) (hi : i < xs.length) (x : α) : ((xs.take (j + 1) ++ (xs.drop j).take (i - j) ++ xs.drop (i + 1)).take j ++ [x] ++ (xs.take (j + 1) ++ (xs.drop j).take (i - j) ++ xs.drop (i + 1)).drop (j + 1)) = (xs.eraseIdx i).insertIdx j x := by
  rw [insertIdx_td _ _ _ (by rw [List.length_eraseIdx]; split <;> omega), List.eraseIdx_eq_take_drop_succ]
  have e1 : (xs.take (j + 1) ++ (xs.drop j).take (i - j) ++ xs.drop (i + 1)).take j = xs.take j := by
    rw [List.append_assoc, List.take_append_of_le_length (by simp; omega), List.take_take]; congr 1; omega
  have e2 : (xs.take (j + 1) ++ (xs.drop j).take (i - j) ++ xs.drop (i + 1)).drop (j + 1) = (xs.drop j).take (i - j) ++ xs.drop (i + 1) := by
    rw [List.append_assoc]
    exact List.drop_left' (by simp; omega)
  have e3 : (xs.take i ++ xs.drop (i + 1)).take j = xs.take j := by
    rw [List.take_append_of_le_length (by simp; omega), List.take_take]; congr 1; omega
  have e4 : (xs.take i ++ xs.drop (i + 1)).drop j = (xs.drop j).take (i - j) ++ xs.drop (i + 1) := by
    rw [List.drop_append_of_le_length (by simp; omega), List.drop_take]
  rw [e1, e2, e3, e4]; simp

theorem move_ok {w : World} {base B : Nat} {cap : Int} {s : Sl} {xs : List (Ltr × Sl)} (h : BagAt w base B cap s xs) (hlen : xs.length ≤ 65536) {i j : Int} :
    CallK Try.prog (.int .i64) 15 #[.pointer (some ⟨B, 0, none⟩), .int .i64 i, .int .i64 j] w fun (r : Int) w' =>
      (¬ ((0 ≤ i ∧ i < (xs.length : Int)) ∧ (0 ≤ j ∧ j < (xs.length : Int))) ∧ r = 40 ∧ w' = w) ∨
      (∃ (a b : Nat) (ha : a < xs.length), b < xs.length ∧ i = (a : Int) ∧ j = (b : Int) ∧ r = 0 ∧ Upd w w' (Mine B s) ∧ BagAt w' base B cap s ((xs.eraseIdx a).insertIdx b xs[a])) := by
  suffices hh : ∀ K : Int → World → Prop, (∀ w', ¬ ((0 ≤ i ∧ i < (xs.length : Int)) ∧ (0 ≤ j ∧ j < (xs.length : Int))) → w' = w → K 40 w') →
      (∀ w' (a b : Nat) (ha : a < xs.length), b < xs.length → i = (a : Int) → j = (b : Int) → Upd w w' (Mine B s) → BagAt w' base B cap s ((xs.eraseIdx a).insertIdx b xs[a]) → K 0 w') → T15 (some ⟨B, 0, none⟩) i j w K from
    T15.calls (hh _ (fun w' h1 h2 => .inl ⟨h1, rfl, h2⟩) (fun w' a b ha hb h1 h2 h3 h4 => .inr ⟨a, b, ha, hb, h1, h2, rfl, h3, h4⟩))
  intro K hbad hgood
  unfold T15
  dsimp only [JoinX]
  refine (in_ok h).mono ?_
  rintro r w1 ⟨rfl, rfl⟩
  rw [SplitB_iff]
  constructor
  · intro hc
    have hc : ¬ (0 ≤ i ∧ i < (xs.length : Int)) := by simp at hc; omega
    rw [SplitB_iff]
    exact ⟨fun _ => hbad _ (fun hh => hc hh.1) rfl, fun hf => by simp at hf⟩
  · intro hc
    have hc : 0 ≤ i ∧ i < (xs.length : Int) := by simpa using hc
    refine (in_ok h).mono ?_
    rintro r w1 ⟨rfl, rfl⟩
    rw [SplitB_iff]
    constructor
    · intro hd
      have hd : ¬ (0 ≤ j ∧ j < (xs.length : Int)) := by simp at hd; omega
      exact hbad _ (fun hh => hd hh.2) rfl
    · intro hd
      have hd : 0 ≤ j ∧ j < (xs.length : Int) := by simpa using hd
      obtain ⟨a, rfl⟩ : ∃ k : Nat, i = (k : Int) := ⟨i.toNat, by omega⟩
      obtain ⟨b, rfl⟩ : ∃ k : Nat, j = (k : Int) := ⟨j.toNat, by omega⟩
      have ha : a < xs.length := by omega
      have hb : b < xs.length := by omega
      have hB := h.blk.lt
      have hsl := h.len
      obtain ⟨g, o, hsa, hblk, hgl, hgs, hlc, hcm⟩ := h.addr (by omega)
      have hgB : g ≠ B := fun e => h.ne (e ▸ hblk)
      simp only [NilP, add_lit', Nat.zero_add]
      refine RunN.loadB (kd := .sl) (x := s) sc22 h.blk rfl ?_
      refine RunN.idx et22 hsa (by omega) (by omega) ?_
      simp only [Int.toNat_natCast]
      have hld := Rd.load (P := Try.prog) ag31 h.ow.rd hsa (i := a) (by omega)
      rw [row_at _ _ ha] at hld
      refine RunN.of (kd := KL) (x := (xs[a].1.f, xs[a].1.t, xs[a].2, ())) hld ?_
      refine RunN.newB (new31 w1) ?_
      intro w2 hb2 hu2 hs2
      have h2 := h.keep hu2
      refine RunU.storA ag31 hb2 rfl (ds := lc xs[a].1.f xs[a].1.t xs[a].2) rfl (lc_one _ _ _) ?_
      intro w3 hb3 hu3
      have hU3 : Upd w1 w3 nobody := hu2.fresh hu3 (fun j hj => by omega)
      have h3 : BagAt w3 base B cap s xs := h.keep hU3
      have hud : Upd w3 w3.drew nobody := Upd.drew _ _
      have h3d := h3.keep hud
      have hz3 := hU3.size
      -- the last step, for either way
      have last : ∀ (w5 : World) (zs : List (Ltr × Sl)), zs.length = xs.length → Ow w5 base 31 3 s (row zs) → Upd w3.drew w5 (fun k => s.blk = some k) → zs.take b ++ [xs[a]] ++ zs.drop (b + 1) = (xs.eraseIdx a).insertIdx b xs[a] →
          ReadN Try.prog .sl (V (Instr.loadAt 22 (.pointer (some ⟨B, 1, none⟩)))) w5.drew fun t62 =>
        ReadN Try.prog KL (V (Instr.loadAt 31 (.pointer (some ⟨w1.heap.size, 0, none⟩)))) w5.drew fun t64 =>
        ReadN Try.prog .addr (V (Instr.indexAt 22 (.slice t62.a t62.len t62.cap) (.int .i64 (b : Int)))) w5.drew fun t65 =>
        RunU Try.prog (U (Instr.storeAt 31 (.pointer (some t65)) (.agg #[.int .i64 t64.1, .int .i64 t64.2.1, .slice t64.2.2.1.a t64.2.2.1.len t64.2.2.1.cap]))) w5.drew fun w' => K 0 w' := by
        intro w5 zs hzl ho5 hu5 hzs
        have hud5 : Upd w5 w5.drew nobody := Upd.drew _ _
        have hblk5 := (h3d.blk.upd hu5 h.ne).upd hud5 (fun h => h)
        refine ReadN.loadB (kd := .sl) (x := s) sc22 hblk5 rfl ?_
        have hb5 := ((hb3.upd hud (fun h => h)).upd hu5 (fun e => by rw [hblk] at e; cases e; omega)).upd hud5 (fun h => h)
        refine ReadN.loadA (kd := KL) (x := (xs[a].1.f, xs[a].1.t, xs[a].2, ())) ag31 hb5 rfl rfl ?_
        refine ReadN.of (kd := .addr) (run_idx et22 hsa (by omega) (by omega)) ?_
        simp only [Int.toNat_natCast]
        have ho5d := ho5.upd hud5 (fun _ _ h => h)
        obtain ⟨g', o', hsa', hblk', w6, hst, ho6, hu6⟩ := ho5d.write (P := Try.prog) (i := b * 3) (news := lc xs[a].1.f xs[a].1.t xs[a].2) (by rw [row_len]; simp [lc]; omega) (by simp [lc]) (lc_one _ _ _)
        rw [hsa] at hsa'; cases hsa'
        refine RunU.of (run_storAgg ag31 rfl hst) ?_
        have hU6 : Upd w1 w6 (Mine B s) := ((((hU3.none _).trans (hud.none _)).trans (hu5.mono fun k _ hk => .inr hk)).trans (hud5.none _)).trans (hu6.mono fun k _ hk => .inr (by rw [hk]; exact hblk))
        refine hgood w6 a b ha hb rfl rfl hU6 ?_
        · have hz6 := hU6.size
          refine ⟨hblk5.upd hu6 (by omega), ?_, h.ne, h.low, ?_⟩
          · rw [← hzs]
            have e : (row zs).take (b * 3) ++ lc xs[a].1.f xs[a].1.t xs[a].2 ++ (row zs).drop (b * 3 + (lc xs[a].1.f xs[a].1.t xs[a].2).length) = row (zs.take b ++ [xs[a]] ++ zs.drop (b + 1)) := by
              have e1 : b * 3 + (lc xs[a].1.f xs[a].1.t xs[a].2).length = (b + 1) * 3 := by simp [lc]; omega
              rw [e1, row_take, row_drop, row_append, row_append]
              congr 2
            rw [e] at ho6; exact ho6
          · intro x hx
            have hx : x ∈ xs := by
              rw [insertIdx_td _ _ _ (by rw [List.length_eraseIdx]; split <;> omega)] at hx
              rcases List.mem_append.1 hx with hx | hx
              · exact List.mem_of_mem_eraseIdx (List.mem_of_mem_take hx)
              · rcases List.mem_cons.1 hx with hx | hx
                · rw [hx]; exact List.getElem_mem _
                · exact List.mem_of_mem_eraseIdx (List.mem_of_mem_drop hx)
            have h0 := h.each x hx
            refine ⟨h0.1.upd hU6 fun b hb e => ?_, h0.2.1, fun b hb => ⟨by have := (h0.2.2 b hb).1; omega, (h0.2.2 b hb).2⟩⟩
            rcases e with e | e
            · exact (h0.2.2 b hb).2.1 e
            · exact (h0.2.2 b hb).2.2 e
      rw [SplitB_iff]
      constructor
      · intro hlt
        have hlt : a < b := by have := of_decide_eq_true hlt; omega
        refine ReadN.loadB (kd := .sl) (x := s) sc22 h3d.blk rfl ?_
        refine ReadN.of (kd := .sl) (x := ⟨if s.cap = a then s.a else s.a.map (·.add (a * 3)), b - a, s.cap - a⟩) (by
          have := run_subLH (P := Try.prog) (w := w3.drew) et22 (s := s) (kl := .i64) (kh := .i64) (l := (a : Int)) (h := (b : Int)) (by omega) (by omega) (by omega)
          rw [Int.toNat_natCast, Int.toNat_natCast] at this; exact this) ?_
        refine ReadN.loadB (kd := .sl) (x := s) sc22 h3d.blk rfl ?_
        rw [IntWalk.i64_in ((a : Int) + 1) ⟨by omega, by omega⟩]
        refine ReadN.of (kd := .sl) (x := ⟨if s.cap = a + 1 then s.a else s.a.map (·.add ((a + 1) * 3)), s.len - (a + 1), s.cap - (a + 1)⟩) (by
          have := run_subL (P := Try.prog) (w := w3.drew) et22 (s := s) (k := .i64) (l := (a : Int) + 1) (by omega) (by omega)
          have e : ((a : Int) + 1).toNat = a + 1 := by omega
          rw [e] at this; exact this) ?_
        have hsrc := h3d.ow.rd.sub (lo := a + 1) (hi := s.len) (m := s.cap) (by omega) (Nat.le_refl _) hlc
        have esrc : (List.drop ((a + 1) * 3) (row xs)).take ((s.len - (a + 1)) * 3) = row (xs.drop (a + 1)) := by
          rw [row_drop, List.take_of_length_le (by rw [row_len]; simp; omega)]
        rw [esrc] at hsrc
        obtain ⟨w4, hr4, ho4, hu4⟩ := run_copyOw (P := Try.prog) (w := w3.drew) (ts := 22) (ty := 3) et22 (by kernel_rfl) (by decide) h3d.ow (i := a) (dl := b - a) (dc := s.cap - a) (da := if s.cap = a then s.a else s.a.map (·.add (a * 3)))
          (fun g' o' hg' _ => by rw [if_neg (by omega), hg']; simp [add_lit']) (by omega) hsrc (row_one _)
        have hmin : Nat.min (s.len - (a + 1)) (b - a) = b - a := Nat.min_eq_right (by omega)
        dsimp only at hr4 ho4
        rw [hmin] at hr4 ho4
        refine RunN.of (kd := .int .i64) (x := ((b - a : Nat) : Int)) hr4 ?_
        have e5 : a + (b - a) = b := by omega
        rw [row_take, row_take, e5, row_drop, ← row_append, ← row_append] at ho4
        exact last w4 _ (by simp; omega) ho4 hu4 (move_list1 xs hlt hb xs[a])
      · intro hlt
        have hlt : b ≤ a := by have := of_decide_eq_false hlt; omega
        refine ReadN.loadB (kd := .sl) (x := s) sc22 h3d.blk rfl ?_
        rw [IntWalk.i64_in ((a : Int) + 1) ⟨by omega, by omega⟩, IntWalk.i64_in ((b : Int) + 1) ⟨by omega, by omega⟩]
        refine ReadN.of (kd := .sl) (x := ⟨if s.cap = b + 1 then s.a else s.a.map (·.add ((b + 1) * 3)), a + 1 - (b + 1), s.cap - (b + 1)⟩) (by
          have := run_subLH (P := Try.prog) (w := w3.drew) et22 (s := s) (kl := .i64) (kh := .i64) (l := (b : Int) + 1) (h := (a : Int) + 1) (by omega) (by omega) (by omega)
          have e1 : ((a : Int) + 1).toNat = a + 1 := by omega
          have e2 : ((b : Int) + 1).toNat = b + 1 := by omega
          rw [e1, e2] at this; exact this) ?_
        refine ReadN.loadB (kd := .sl) (x := s) sc22 h3d.blk rfl ?_
        refine ReadN.of (kd := .sl) (x := ⟨if s.cap = b then s.a else s.a.map (·.add (b * 3)), s.len - b, s.cap - b⟩) (by
          have := run_subL (P := Try.prog) (w := w3.drew) et22 (s := s) (k := .i64) (l := (b : Int)) (by omega) (by omega)
          rw [Int.toNat_natCast] at this; exact this) ?_
        have hsrc := h3d.ow.rd.sub (lo := b) (hi := s.len) (m := s.cap) (by omega) (Nat.le_refl _) hlc
        have esrc : (List.drop (b * 3) (row xs)).take ((s.len - b) * 3) = row (xs.drop b) := by
          rw [row_drop, List.take_of_length_le (by rw [row_len]; simp; omega)]
        rw [esrc] at hsrc
        obtain ⟨w4, hr4, ho4, hu4⟩ := run_copyOw (P := Try.prog) (w := w3.drew) (ts := 22) (ty := 3) et22 (by kernel_rfl) (by decide) h3d.ow (i := b + 1) (dl := a + 1 - (b + 1)) (dc := s.cap - (b + 1)) (da := if s.cap = b + 1 then s.a else s.a.map (·.add ((b + 1) * 3)))
          (fun g' o' hg' hpos => by rw [if_neg (by omega), hg']; simp [add_lit']) (by omega) hsrc (row_one _)
        have hmin : Nat.min (s.len - b) (a + 1 - (b + 1)) = a - b := by rw [Nat.add_sub_add_right]; exact Nat.min_eq_right (by omega)
        dsimp only at hr4 ho4
        rw [hmin] at hr4 ho4
        refine RunN.of (kd := .int .i64) (x := ((a - b : Nat) : Int)) hr4 ?_
        have e5 : b + 1 + (a - b) = a + 1 := by omega
        rw [row_take, row_take, e5, row_drop, ← row_append, ← row_append] at ho4
        exact last w4 _ (by simp; omega) ho4 hu4 (move_list2 xs hlt ha xs[a])
end Go.Proofs.Ytmhjlngkdppgpaa
