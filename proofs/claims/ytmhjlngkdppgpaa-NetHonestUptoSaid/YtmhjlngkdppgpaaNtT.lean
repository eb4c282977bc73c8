/- Taking a letter out of the bag, looking at one, moving one. -/
import Derived.Test.YtmhjlngkdppgpaaNtB
namespace Go.Proofs.Ytmhjlngkdppgpaa
open Go Go.Fw Go.RowKit
set_option linter.unusedVariables false
set_option linter.unusedSimpArgs false

theorem BagAt.addr {w : World} {base B : Nat} {cap : Int} {s : Sl} {xs : List (Ltr × Sl)} (h : BagAt w base B cap s xs) (hne : 0 < xs.length) : ∃ g o, s.a = some ⟨g, o, none⟩ ∧ s.blk = some g ∧ base ≤ g ∧ g < w.heap.size ∧ s.len ≤ s.cap ∧ s.cap ≤ maxLen := by
  rcases h.ow.2 with h0 | ⟨g, o, cs, ha, hb, hg, h1, h2, _⟩
  · have := h.len; rw [h0] at this; dsimp only at this; omega
  · exact ⟨g, o, ha, by simp [Sl.blk, ha], hb, lt_of_obj hg, h1, h2⟩
theorem zero31 (w : World) : (do pure (Builtin.zeroCells (← zeroValue 31).cells 1).toList : Sem (List Value)).run Try.prog w = .ok (lc 0 0 ⟨none, 0, 0⟩) w := by kernel_rfl
theorem row_cons (x : Ltr × Sl) (r : List (Ltr × Sl)) : row (x :: r) = lc x.1.f x.1.t x.2 ++ row r := by simp [row]

theorem take_ok {w : World} {base B : Nat} {cap : Int} {s : Sl} {xs : List (Ltr × Sl)} (h : BagAt w base B cap s xs) (hlen : xs.length ≤ 65536) {i : Nat} (hi : i < xs.length) :
    CallK Try.prog (.agg (.cons (.int .i64) (.cons (.int .i64) (.cons .sl .nilT)))) 30 #[.pointer (some ⟨B, 0, none⟩), .int .i64 (i : Int)] w fun (r : Int × Int × Sl × Unit) w' =>
      r = (xs[i].1.f, xs[i].1.t, xs[i].2, ()) ∧ Upd w w' (Mine B s) ∧ ∃ s', s'.blk = s.blk ∧ BagAt w' base B cap s' (xs.eraseIdx i) := by
  have hB := h.blk.lt
  have hsl := h.len
  obtain ⟨g, o, ha, hblk, hgl, hgs, hlc, hcm⟩ := h.addr (by omega)
  have hgB : g ≠ B := fun e => h.ne (e ▸ hblk)
  refine T30.calls ?_
  unfold T30
  simp only [NilP, add_lit', Nat.zero_add]
  refine RunN.newB (new31 w) ?_
  intro w1 hb1 hu1 hs1
  have h1 := h.keep hu1
  refine RunN.loadB (kd := .sl) (x := s) sc22 h1.blk rfl ?_
  refine RunN.idx et22 ha (by omega) (by omega) ?_
  simp only [Int.toNat_natCast]
  have hld := Rd.load (P := Try.prog) ag31 h1.ow.rd ha (i := i) (by omega)
  rw [row_at _ _ hi] at hld
  refine RunN.of (kd := .agg (.cons (.int .i64) (.cons (.int .i64) (.cons .sl .nilT)))) (x := (xs[i].1.f, xs[i].1.t, xs[i].2, ())) hld ?_
  refine RunN.newB (new31 w1) ?_
  intro w2 hb2 hu2 hs2
  have hb1 := hb1.upd hu2 (fun h => h)
  have h2 := h1.keep hu2
  refine RunU.storA ag31 hb2 rfl (ds := lc xs[i].1.f xs[i].1.t xs[i].2) rfl (lc_one _ _ _) ?_
  intro w3 hb3 hu3
  have hz3 := hu3.size
  have hU3 : Upd w w3 nobody := (hu1.trans hu2).fresh hu3 (fun j hj => by omega)
  have h3 : BagAt w3 base B cap s xs := h.keep hU3
  have hb1 := hb1.upd hu3 (fun h => by omega)
  have hud : Upd w3 w3.drew nobody := Upd.drew _ _
  have h3d := h3.keep hud
  refine ReadN.loadB (kd := .sl) (x := s) sc22 h3d.blk rfl ?_
  refine ReadN.of (kd := .sl) (x := ⟨if s.cap = i then s.a else s.a.map (·.add (i * 3)), s.len - i, s.cap - i⟩) (by
    have := run_subL (P := Try.prog) (w := w3.drew) et22 (s := s) (k := .i64) (l := (i : Int)) (by omega) (by omega)
    rw [Int.toNat_natCast] at this; exact this) ?_
  refine ReadN.loadB (kd := .sl) (x := s) sc22 h3d.blk rfl ?_
  rw [IntWalk.i64_in ((i : Int) + 1) ⟨by omega, by omega⟩]
  refine ReadN.of (kd := .sl) (x := ⟨if s.cap = i + 1 then s.a else s.a.map (·.add ((i + 1) * 3)), s.len - (i + 1), s.cap - (i + 1)⟩) (by
    have := run_subL (P := Try.prog) (w := w3.drew) et22 (s := s) (k := .i64) (l := (i : Int) + 1) (by omega) (by omega)
    have e : ((i : Int) + 1).toNat = i + 1 := by omega
    rw [e] at this; exact this) ?_
  have hsrc := h3d.ow.rd.sub (lo := i + 1) (hi := s.len) (m := s.cap) (by omega) (Nat.le_refl _) hlc
  have esrc : (List.drop ((i + 1) * 3) (row xs)).take ((s.len - (i + 1)) * 3) = row (xs.drop (i + 1)) := by
    rw [row_drop, List.take_of_length_le (by rw [row_len]; simp; omega)]
  rw [esrc] at hsrc
  obtain ⟨w4, hr4, ho4, hu4⟩ := run_copyOw (P := Try.prog) (w := w3.drew) (ts := 22) (ty := 3) et22 (by kernel_rfl) (by decide) h3d.ow (i := i) (dl := s.len - i) (dc := s.cap - i) (da := if s.cap = i then s.a else s.a.map (·.add (i * 3)))
    (fun g' o' hg' _ => by rw [if_neg (by omega), hg']; simp [add_lit']) (by omega) hsrc (row_one _)
  have hmin : Nat.min (s.len - (i + 1)) (s.len - i) = s.len - (i + 1) := Nat.min_eq_left (by omega)
  dsimp only at hr4 ho4
  rw [hmin] at hr4 ho4
  refine RunN.of (kd := .int .i64) (x := ((s.len - (i + 1) : Nat) : Int)) hr4 ?_
  have hn : (i : Int) + ((s.len - (i + 1) : Nat) : Int) = ((s.len - 1 : Nat) : Int) := by omega
  rw [hn, IntWalk.i64_in ((s.len - 1 : Nat) : Int) ⟨by omega, by omega⟩]
  have hblk4 : Blk w4 B 54 [.int .i64 cap, .slice s.a s.len s.cap] := h3d.blk.upd hu4 h.ne
  refine RunN.loadB (kd := .sl) (x := s) sc22 hblk4 rfl ?_
  refine RunN.of (kd := .sl) (x := ⟨if s.cap = s.len - 1 then s.a else s.a.map (·.add ((s.len - 1) * 3)), s.len - (s.len - 1), s.cap - (s.len - 1)⟩) (w' := w4) (by
    have := run_subL (P := Try.prog) (w := w4) et22 (s := s) (k := .i64) (l := ((s.len - 1 : Nat) : Int)) (by omega) (by omega)
    rw [Int.toNat_natCast] at this; exact this) ?_
  have e1 : s.len - (s.len - 1) = 1 := by omega
  rw [e1]
  obtain ⟨w5, hr5, ho5, hu5⟩ := run_clearOw (P := Try.prog) (w := w4) (ty := 0) et22 ho4 (i := s.len - 1) (n := 1) (c := s.cap - (s.len - 1)) (a := if s.cap = s.len - 1 then s.a else s.a.map (·.add ((s.len - 1) * 3))) (zero31 w4) rfl (lc_one _ _ _) (by decide)
    (fun g' o' hg' => by rw [if_neg (by omega), hg']; simp [add_lit']) (by omega)
  refine RunN.of (kd := .tup .nilT) (x := ()) hr5 ?_
  have hblk5 := hblk4.upd hu5 h.ne
  refine RunN.loadB (kd := .sl) (x := s) sc22 hblk5 rfl ?_
  have hsa : (if s.cap = 0 then s.a else s.a.map (·.add (0 * 3))) = s.a := by
    rw [ha]; simp [Addr.add]
  refine RunN.of (kd := .sl) (x := ⟨s.a, s.len - 1, s.cap⟩) (w' := w5) (by
    have := run_subH (P := Try.prog) (w := w5) et22 (s := s) (k := .i64) (h := ((s.len - 1 : Nat) : Int)) (by omega) (by omega)
    rw [hsa] at this
    rw [Int.toNat_natCast] at this; exact this) ?_
  have hosh := ho5.shorter (n := s.len - 1) (by omega) rfl
  refine RunU.storB sc22 hblk5 (show 1 < 2 by decide) (v := .slice s.a (s.len - 1) s.cap) rfl ?_
  intro w6 hb6 hu6
  have hU6 : Upd w w6 (Mine B s) := (((hU3.none _).trans (hud.none _)).trans (hu4.mono fun k _ hk => .inr hk)).trans ((hu5.mono fun k _ hk => .inr hk).trans (hu6.mono fun k _ hk => .inl hk))
  have htmp : ∀ b cs, w.heap.size ≤ b → b < w3.heap.size → Blk w3 b 31 cs → Blk w6 b 31 cs := by
    intro b cs hge hlt hb
    refine (((hb.upd hud (fun h => h)).upd hu4 fun e => ?_).upd hu5 fun e => ?_).upd hu6 fun e => by omega
    · rw [hblk] at e; cases e; omega
    · rw [hblk] at e; cases e; omega
  have hb3' := htmp _ _ (by omega) (by omega) hb3
  have hb1' := htmp _ _ (by omega) (by omega) hb1
  refine RunN.loadA (kd := .agg (.cons (.int .i64) (.cons (.int .i64) (.cons .sl .nilT)))) (x := (xs[i].1.f, xs[i].1.t, xs[i].2, ())) ag31 hb3' rfl rfl ?_
  refine RunU.storA ag31 hb1' rfl (ds := lc xs[i].1.f xs[i].1.t xs[i].2) rfl (lc_one _ _ _) ?_
  intro w7 hb7 hu7
  refine ReadN.loadA (kd := .agg (.cons (.int .i64) (.cons (.int .i64) (.cons .sl .nilT)))) (x := (xs[i].1.f, xs[i].1.t, xs[i].2, ())) ag31 hb7 rfl rfl ?_
  have hU7 : Upd w w7 (Mine B s) := hU6.trans' hu7 fun k hk hlt => by omega
  have hz7 := hU7.size
  refine ⟨rfl, hU7, ⟨s.a, s.len - 1, s.cap⟩, by simp [Sl.blk], ⟨hb6.upd hu7 (by omega), ?_, by simpa [Sl.blk] using h.ne, h.low, ?_⟩⟩
  · have hrow : (List.take (s.len * 3) (row xs)).length = 0 ∨ True := .inr trivial
    have key : ((((row xs).take (i * 3) ++ (row (xs.drop (i + 1))).take ((s.len - (i + 1)) * 3) ++ (row xs).drop ((i + (s.len - (i + 1))) * 3)).take ((s.len - 1) * 3) ++ lc 0 0 ⟨none, 0, 0⟩ ++
        ((row xs).take (i * 3) ++ (row (xs.drop (i + 1))).take ((s.len - (i + 1)) * 3) ++ (row xs).drop ((i + (s.len - (i + 1))) * 3)).drop ((s.len - 1 + 1) * 3)).take ((s.len - 1) * 3)) = row (xs.eraseIdx i) := by
      rw [row_take, row_take, row_drop, List.take_of_length_le (l := xs.drop (i + 1)) (by simp; omega), ← row_append, ← row_append, row_take, row_drop, List.append_assoc]
      have hl1 : (row ((xs.take i ++ xs.drop (i + 1) ++ xs.drop (i + (s.len - (i + 1)))).take (s.len - 1))).length = (s.len - 1) * 3 := by
        rw [row_len]; simp; omega
      rw [List.take_append_of_le_length (by omega), List.take_of_length_le (by omega)]
      congr 1
      rw [List.take_append_of_le_length (by simp; omega), List.take_of_length_le (by simp; omega), List.eraseIdx_eq_take_drop_succ]
    rw [key] at hosh
    exact (hosh.upd hu6 fun b hb e => hgB (by simp [Sl.blk, ha] at hb; omega)).upd hu7 fun b hb e => by simp [Sl.blk, ha] at hb; omega
  · intro x hx
    have hx := List.mem_of_mem_eraseIdx hx
    have h0 := h.each x hx
    refine ⟨h0.1.upd hU7 fun b hb e => ?_, h0.2.1, fun b hb => ⟨by have := (h0.2.2 b hb).1; omega, (h0.2.2 b hb).2.1, by simpa [Sl.blk] using (h0.2.2 b hb).2.2⟩⟩
    rcases e with e | e
    · exact (h0.2.2 b hb).2.1 e
    · exact (h0.2.2 b hb).2.2 e
end Go.Proofs.Ytmhjlngkdppgpaa
