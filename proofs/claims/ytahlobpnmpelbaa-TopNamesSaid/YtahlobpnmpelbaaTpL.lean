/- The closed sentence: it answers yes. -/
import Derived.Test.YtahlobpnmpelbaaTpS
namespace Go.Proofs.Ytahlobpnmpelbaa
open Go Go.Fw Go.RowKit
set_option linter.unusedVariables false
set_option linter.unusedSimpArgs false

def most : List Int := [16, 16, 1000, 1000, 32, 16, 4, 16, 64, 1024]
def least : List Int := [2, 1, 1, 1, 1, 1, 1, 0, 1, 1]
def ivs (l : List Int) : List Value := l.map iv
theorem ivs_one (l : List Int) : ∀ v ∈ ivs l, v.oneCell' = true := by
  intro v hv
  obtain ⟨a, _, rfl⟩ := List.mem_map.1 hv
  rfl
theorem new26 (w : World) : (Instr.alloc 26 true (.tuple #[])).run Try.prog w = .ok (.pointer (some ⟨w.heap.size, 0, none⟩)) (w.alloc (.cells ⟨ivs [0, 0, 0, 0, 0, 0, 0, 0, 0, 0]⟩ 26)) := by kernel_rfl
theorem lit27 (w : World) (c0 c1 c2 c3 c4 c5 c6 c7 c8 c9 : Int) : (Instr.buildSlice 27 1 #[(0, .agg #[.int .i64 c0, .int .i64 c1, .int .i64 c2, .int .i64 c3, .int .i64 c4, .int .i64 c5, .int .i64 c6, .int .i64 c7, .int .i64 c8, .int .i64 c9])]).run Try.prog w = .ok (.slice (some ⟨w.heap.size, 0, none⟩) 1 1) (w.alloc (.cells ⟨ivs [c0, c1, c2, c3, c4, c5, c6, c7, c8, c9]⟩ 26)) := by kernel_rfl
abbrev KC : Kd := .agg (.cons (.int .i64) (.cons (.int .i64) (.cons (.int .i64) (.cons (.int .i64) (.cons (.int .i64) (.cons (.int .i64) (.cons (.int .i64) (.cons (.int .i64) (.cons (.int .i64) (.cons (.int .i64) .nilT))))))))))

/-- Where the law stands: the list of settings, the greatest one. -/
structure St (W : World) (b : Nat) (s : Sl) (L : List Int) (w : World) : Prop where
  upd : Upd W w nobody
  ow : Ow w W.heap.size 26 10 s (ivs L)
  blk : Blk w b 26 (ivs most)
  ne : s.blk ≠ some b
  low : W.heap.size ≤ b

theorem St.put {W w : World} {b : Nat} {s : Sl} {L : List Int} (h : St W b s L w) {i j : Nat} {v : Int} (hL : L.length = 200) (hi : i < 20) (hj : j < 10) {K : World → Prop} (hk : ∀ w', St W b s (L.set (i * 10 + j) v) w' → K w') :
    RunN Try.prog .addr (V (Instr.indexAt 27 (.slice s.a s.len s.cap) (.int .i64 (i : Int)))) w fun t w => RunU Try.prog (U (Instr.storeAt 3 (.pointer (some (t.add j))) (.int .i64 v))) w K := by
  have hlen : s.len = 20 := by have := h.ow.1; simp [ivs, hL] at this; omega
  obtain ⟨g, o, ha, hblk, hf, hc, hset⟩ := h.ow.place (i := i * 10 + j) (by simp [ivs, hL]; omega)
  refine RunN.idx et27 ha (by omega) (by omega) ?_
  simp only [Int.toNat_natCast, add_lit', Nat.add_assoc]
  refine RunU.stor sc3 rfl hc hf (hk _ ?_)
  have hs := hset (.int .i64 v)
  have hgb : g ≠ b := fun e => h.ne (e ▸ hblk)
  have hge := (h.ow.lt hblk).1
  have hu : Upd w (w.setCell ⟨g, o + (i * 10 + j), none⟩ (.int .i64 v)) (fun k => k = g) := Upd.setCell _ _ _ rfl
  refine ⟨h.upd.fresh hu fun k hk => by omega, ?_, h.blk.upd hu (fun e => hgb e.symm), h.ne, h.low⟩
  have e : (ivs L).set (i * 10 + j) (.int .i64 v) = ivs (L.set (i * 10 + j) v) := by simp [ivs, List.map_set, iv]
  rw [e] at hs; exact hs

def all20 : List Int := (List.replicate 20 most).flatten
def putAll (l : List (Nat × Nat × Int)) (L : List Int) : List Int := l.foldl (fun L x => L.set (x.1 * 10 + x.2.1) x.2.2) L
def turns : List (Nat × Nat × Int) := [(0, 0, 17), (1, 1, 17), (2, 2, 1001), (3, 3, 1001), (4, 4, 33), (5, 5, 17), (6, 6, 5), (7, 7, 17), (8, 8, 65), (9, 9, 1025), (10, 0, 1), (11, 1, 0), (12, 2, 0), (13, 3, 0), (14, 4, 0), (15, 5, 0), (16, 6, 0), (17, 7, -1), (18, 8, 0), (19, 9, 0)]
def final : List Int := putAll turns all20
def rightOf (l : List Int) : Bool := rightL (l.getD 0 0) (l.getD 1 0) (l.getD 2 0) (l.getD 3 0) (l.getD 4 0) (l.getD 5 0) (l.getD 6 0) (l.getD 7 0) (l.getD 8 0) (l.getD 9 0)
theorem final_len : final.length = 200 := by decide +kernel
theorem final_wrong : ∀ i, i < 20 → rightOf ((final.drop (i * 10)).take 10) = false := by decide +kernel

theorem law3 {w : World} : CallK Try.prog .bool 3 #[] w fun (r : Bool) w' => Upd w w' nobody ∧ r = true := by
  refine T3.calls ?_
  unfold T3
  dsimp only [JoinX]
  refine names5_ok.mono ?_
  rintro p5 w1 ⟨hu1, hr5⟩
  refine (named_ok hr5 (by decide) (by decide)).mono ?_
  rintro r w2 ⟨hu2, rfl⟩
  have hU2 := hu1.trans hu2
  rw [SplitB_iff]
  refine ⟨fun _ => ?_, fun h => by simp at h⟩
  refine names6_ok.mono ?_
  rintro p6 w3 ⟨hu3, hr6⟩
  refine (named_ok hr6 (by decide) (by decide)).mono ?_
  rintro r w4 ⟨hu4, rfl⟩
  have hU4 := (hU2.trans hu3).trans hu4
  rw [SplitB_iff]
  refine ⟨fun _ => ?_, fun h => by simp at h⟩
  refine names7_ok.mono ?_
  rintro p7 w5 ⟨hu5, hr7⟩
  refine (named_ok hr7 (by decide) (by decide)).mono ?_
  rintro r w6 ⟨hu6, rfl⟩
  have hU6 := (hU4.trans hu5).trans hu6
  refine RunN.newB (new26 w6) ?_
  intro w7 hb7 hu7 hs7
  refine RunU.storA ag26 hb7 rfl (ds := ivs most) rfl (ivs_one _) ?_
  intro w8 hb8 hu8
  have hz6 := hU6.size
  have hU8 : Upd w w8 nobody := hU6.trans (hu7.fresh hu8 fun k hk => by omega)
  -- twenty of the greatest
  refine ⟨fun st w' => ∃ k : Nat, k ≤ 20 ∧ st.2.1 = (k : Int) ∧ St w w6.heap.size st.1 (List.replicate k most).flatten w', fun st _ => 20 - st.2.1.toNat, ⟨0, by omega, rfl, hU8, Ow.nil _ _ _ _, hb8, by simp [Sl.blk], hz6⟩, ?_⟩
  rintro ⟨s, (i : Int), ⟨⟩⟩ w9 ⟨k, hk, h1, hst⟩
  dsimp only at h1 hst ⊢
  subst h1
  rw [SplitB_iff]
  constructor
  · intro hlt
    have hlt : (k : Int) < 20 := of_decide_eq_true hlt
    refine RunN.loadA (kd := KC) (x := (16, 16, 1000, 1000, 32, 16, 4, 16, 64, 1024, ())) ag26 hst.blk rfl rfl ?_
    have hlow := hst.upd.size
    refine RunN.newS (base := w.heap.size) (sz := 10) (lit27 w9 16 16 1000 1000 32 16 4 16 64 1024) hlow (by decide) rfl ?_
    intro w10 ho10 hu10 hs10
    have hsl : s.len = k := by have := hst.ow.1; simp [ivs, most] at this; omega
    refine RunN.appO et27 ⟨26, et27⟩ (by decide) (hst.ow.upd hu10 (fun _ _ h => h)) ho10.rd (ivs_one _) (by omega) (by simp only [maxLen]; omega) (by dsimp only; omega) ?_
    intro s11 w11 hl11 ho11 hu11 hb11
    rw [IntWalk.i64_in ((k : Int) + 1) ⟨by omega, by omega⟩]
    have hb9 := (hst.blk.upd hu10 (fun h => h)).lt
    refine ⟨⟨k + 1, by omega, by omega, ?_, ?_, (hst.blk.upd hu10 (fun h => h)).upd hu11 hst.ne, ?_, hst.low⟩, by omega⟩
    · exact (hst.upd.trans hu10).fresh hu11 fun j hj => (hst.ow.lt hj).1
    · have e : ivs (List.replicate (k + 1) most).flatten = ivs (List.replicate k most).flatten ++ ivs [16, 16, 1000, 1000, 32, 16, 4, 16, 64, 1024] := by
        rw [List.replicate_succ', List.flatten_append]; simp [ivs, most]
      rw [e]; exact ho11
    · intro e
      rcases hb11 with h' | ⟨g, hg, hge, _⟩
      · rw [h'] at e; exact hst.ne e
      · rw [hg] at e; cases e; omega
  · intro hge
    have hge : ¬ (k : Int) < 20 := of_decide_eq_false hge
    have hk20 : k = 20 := by omega
    subst hk20
    change St w w6.heap.size s all20 w9 at hst
    have hlen0 : all20.length = 200 := by decide +kernel
    refine St.put hst (i := 0) (j := 0) (v := 17) (by simp [hlen0]) (by decide) (by decide) ?_
    clear hst
    intro w100 hst
    refine St.put hst (i := 1) (j := 1) (v := 17) (by simp [hlen0]) (by decide) (by decide) ?_
    clear hst
    intro w101 hst
    refine St.put hst (i := 2) (j := 2) (v := 1001) (by simp [hlen0]) (by decide) (by decide) ?_
    clear hst
    intro w102 hst
    refine St.put hst (i := 3) (j := 3) (v := 1001) (by simp [hlen0]) (by decide) (by decide) ?_
    clear hst
    intro w103 hst
    refine St.put hst (i := 4) (j := 4) (v := 33) (by simp [hlen0]) (by decide) (by decide) ?_
    clear hst
    intro w104 hst
    refine St.put hst (i := 5) (j := 5) (v := 17) (by simp [hlen0]) (by decide) (by decide) ?_
    clear hst
    intro w105 hst
    refine St.put hst (i := 6) (j := 6) (v := 5) (by simp [hlen0]) (by decide) (by decide) ?_
    clear hst
    intro w106 hst
    refine St.put hst (i := 7) (j := 7) (v := 17) (by simp [hlen0]) (by decide) (by decide) ?_
    clear hst
    intro w107 hst
    refine St.put hst (i := 8) (j := 8) (v := 65) (by simp [hlen0]) (by decide) (by decide) ?_
    clear hst
    intro w108 hst
    refine St.put hst (i := 9) (j := 9) (v := 1025) (by simp [hlen0]) (by decide) (by decide) ?_
    clear hst
    intro w109 hst
    refine St.put hst (i := 10) (j := 0) (v := 1) (by simp [hlen0]) (by decide) (by decide) ?_
    clear hst
    intro w110 hst
    refine St.put hst (i := 11) (j := 1) (v := 0) (by simp [hlen0]) (by decide) (by decide) ?_
    clear hst
    intro w111 hst
    refine St.put hst (i := 12) (j := 2) (v := 0) (by simp [hlen0]) (by decide) (by decide) ?_
    clear hst
    intro w112 hst
    refine St.put hst (i := 13) (j := 3) (v := 0) (by simp [hlen0]) (by decide) (by decide) ?_
    clear hst
    intro w113 hst
    refine St.put hst (i := 14) (j := 4) (v := 0) (by simp [hlen0]) (by decide) (by decide) ?_
    clear hst
    intro w114 hst
    refine St.put hst (i := 15) (j := 5) (v := 0) (by simp [hlen0]) (by decide) (by decide) ?_
    clear hst
    intro w115 hst
    refine St.put hst (i := 16) (j := 6) (v := 0) (by simp [hlen0]) (by decide) (by decide) ?_
    clear hst
    intro w116 hst
    refine St.put hst (i := 17) (j := 7) (v := (-1)) (by simp [hlen0]) (by decide) (by decide) ?_
    clear hst
    intro w117 hst
    refine St.put hst (i := 18) (j := 8) (v := 0) (by simp [hlen0]) (by decide) (by decide) ?_
    clear hst
    intro w118 hst
    refine St.put hst (i := 19) (j := 9) (v := 0) (by simp [hlen0]) (by decide) (by decide) ?_
    clear hst
    intro w119 hst
    change St w w6.heap.size s final w119 at hst
    have hsl : s.len = 20 := by have := hst.ow.1; simp [ivs, final_len] at this; omega
    -- none of them is right
    refine ⟨fun st w' => ∃ k : Nat, k ≤ 20 ∧ st.1 = (k : Int) ∧ St w w6.heap.size s final w', fun st _ => 20 - st.1.toNat, ⟨0, by omega, rfl, hst⟩, ?_⟩
    clear hst
    rintro ⟨(i : Int), ⟨⟩⟩ w12 ⟨k, hk, h1, hst⟩
    dsimp only at h1 ⊢
    subst h1
    rw [SplitB_iff]
    constructor
    · intro hlt
      have hlt : (k : Int) < (s.len : Int) := of_decide_eq_true hlt
      have hk20 : k < 20 := by omega
      obtain ⟨g, o, ha, _⟩ := hst.ow.place (i := k * 10) (by simp [ivs, final_len]; omega)
      refine RunN.idx et27 ha (by omega) hlt ?_
      simp only [Int.toNat_natCast]
      have hld := Rd.load (P := Try.prog) ag26 hst.ow.rd ha (i := k) (by omega)
      have hw := final_wrong k hk20
      have hl10 : ((final.drop (k * 10)).take 10).length = 10 := by simp [final_len]; omega
      have e : ((ivs final).drop (k * 10)).take 10 = ivs ((final.drop (k * 10)).take 10) := by simp [ivs, List.map_drop, List.map_take]
      rw [e] at hld
      generalize (final.drop (k * 10)).take 10 = c at hld hw hl10
      match c, hl10 with
      | [c0, c1, c2, c3, c4, c5, c6, c7, c8, c9], _ =>
        refine RunN.of (kd := KC) (x := (c0, c1, c2, c3, c4, c5, c6, c7, c8, c9, ())) hld ?_
        refine right_ok.mono ?_
        rintro r w13 ⟨hu13, rfl⟩
        have hw : rightL c0 c1 c2 c3 c4 c5 c6 c7 c8 c9 = false := hw
        rw [hw]
        rw [SplitB_iff]
        refine ⟨fun h => by simp at h, fun _ => ?_⟩
        rw [IntWalk.i64_in ((k : Int) + 1) ⟨by omega, by omega⟩]
        exact ⟨⟨k + 1, by omega, by omega, hst.upd.trans hu13, hst.ow.upd hu13 (fun _ _ h => h), hst.blk.upd hu13 (fun h => h), hst.ne, hst.low⟩, by omega⟩
    · intro _
      refine RunN.newB (new26 w12) ?_
      intro w13 hb13 hu13 hs13
      refine RunU.storA ag26 hb13 rfl (ds := ivs least) rfl (ivs_one _) ?_
      intro w14 hb14 hu14
      have hlow := hst.upd.size
      have hV : Upd w12 w14 nobody := hu13.fresh hu14 fun j hj => by omega
      rw [SplitB_iff]
      refine ⟨fun _ => ?_, fun h => by simp at h⟩
      refine RunN.loadA (kd := KC) (x := (16, 16, 1000, 1000, 32, 16, 4, 16, 64, 1024, ())) ag26 (hst.blk.upd hV (fun h => h)) rfl rfl ?_
      refine right_ok.mono ?_
      rintro r w15 ⟨hu15, rfl⟩
      rw [SplitB_iff]
      refine ⟨fun _ => ?_, fun h => absurd (show rightL 16 16 1000 1000 32 16 4 16 64 1024 = false from h) (by decide)⟩
      refine RunN.loadA (kd := KC) (x := (2, 1, 1, 1, 1, 1, 1, 0, 1, 1, ())) ag26 (hb14.upd hu15 (fun h => h)) rfl rfl ?_
      refine right_ok.mono ?_
      rintro r w16 ⟨hu16, rfl⟩
      exact ⟨((hst.upd.trans hV).trans hu15).trans hu16, by decide⟩
end Go.Proofs.Ytahlobpnmpelbaa
