/- The law of the queue and the law of moving there and back: both answer yes. -/
import Derived.Test.YtmhjlngkdppgpaaNtM
import Derived.Laws.Small
namespace Go.Proofs.Ytmhjlngkdppgpaa
open Go Go.Fw Go.RowKit
set_option linter.unusedVariables false
set_option linter.unusedSimpArgs false

/-- Letters as they were handed in. -/
structure Given (w : World) (p : Sl) (ls : List (Ltr × Sl)) : Prop where
  rd : Rd w p 3 (row ls)
  each : ∀ x ∈ ls, Rd w x.2 1 (bys x.1.m) ∧ x.1.m.length ≤ big
theorem Given.keep {w w' : World} {p : Sl} {ls : List (Ltr × Sl)} (h : Given w p ls) (hu : Upd w w' nobody) : Given w' p ls :=
  ⟨h.rd.upd hu (fun _ _ h => h), fun x hx => ⟨(h.each x hx).1.upd hu (fun _ _ h => h), (h.each x hx).2⟩⟩
theorem Given.len {w : World} {p : Sl} {ls : List (Ltr × Sl)} (h : Given w p ls) : p.len = ls.length := by
  have := h.rd.1
  rw [row_len] at this; omega
/-- One of them, loaded. -/
theorem Given.at {w : World} {p : Sl} {ls : List (Ltr × Sl)} (h : Given w p ls) {i : Nat} (hi : i < ls.length) :
    ∃ b o, p.a = some ⟨b, o, none⟩ ∧ (Instr.loadAt 31 (.pointer (some ⟨b, o + i * 3, none⟩))).run Try.prog w = .ok (.agg ⟨lc ls[i].1.f ls[i].1.t ls[i].2⟩) w := by
  have hl := h.len
  rcases h.rd.2.1 with h0 | ⟨b, o, ha, _⟩
  · have := congrArg List.length h0
    rw [row_len] at this; simp at this; omega
  · refine ⟨b, o, ha, ?_⟩
    have hld := Rd.load (P := Try.prog) ag31 h.rd ha (i := i) (by omega)
    rw [row_at _ _ hi] at hld; exact hld

theorem and1023 (p : Int) : 0 ≤ bitAnd .i64 p 1023 ∧ bitAnd .i64 p 1023 ≤ 1023 := by
  unfold bitAnd
  have h : (BitVec.ofInt IntKind.i64.bits p &&& BitVec.ofInt IntKind.i64.bits 1023).toNat ≤ 1023 := by
    rw [BitVec.toNat_and]
    have : (BitVec.ofInt IntKind.i64.bits 1023).toNat = 1023 := by decide
    rw [this]; exact Nat.and_le_right
  generalize (BitVec.ofInt IntKind.i64.bits p &&& BitVec.ofInt IntKind.i64.bits 1023).toNat = n at h
  rw [IntWalk.i64_in (n : Int) ⟨by omega, by omega⟩]
  omega
theorem ptr_ne (w : World) (x : Operand) (a : Addr) : (do eqGuard .eql 23 x (.const (.pointer none)) (.pointer (some a)) (.pointer none); binOp .eql 23 (.pointer (some a)) (.pointer none) : Sem Value).run Try.prog w = .ok (.bool false) w := by kernel_rfl
theorem min_i (w : World) (a b : Int) : (Builtin.min_ #[3, 3] 3 #[.int .i64 a, .int .i64 b]).run Try.prog w = .ok (.int .i64 (min a b)) w := by
  rw [run_min_int2]
  congr 2
  split <;> omega

/-- What the bag holds, apart from where. -/
def cont (xs : List (Ltr × Sl)) : List Ltr := xs.map (·.1)

theorem law3 {w : World} {n0 : Int} {p : Sl} {ls : List (Ltr × Sl)} (hg : Given w p ls) : CallK Try.prog .bool 3 #[.int .i64 n0, .slice p.a p.len p.cap] w fun (r : Bool) w' => Upd w w' nobody ∧ r = true := by
  have hl := hg.len
  refine T3.calls ?_
  unfold T3
  rw [SplitB_iff]
  refine ⟨fun _ => ⟨Upd.refl _ _, rfl⟩, fun h => ?_⟩
  have h : ¬ (p.len : Int) > 2000 := of_decide_eq_false h
  obtain ⟨ha1, ha2⟩ := and1023 n0
  rw [IntWalk.i64_in (1 + bitAnd .i64 n0 1023) ⟨by omega, by omega⟩]
  generalize hn : 1 + bitAnd .i64 n0 1023 = n at *
  refine (new_ok (n := n) (by omega) (by omega)).mono ?_
  rintro r w1 ⟨rfl, hu1, hs1, hb1⟩
  dsimp only [JoinX]
  refine num_ok.mono ?_
  rintro r w2 ⟨rfl, rfl⟩
  rw [SplitB_iff]
  refine ⟨fun h => by simp at h, fun _ => ?_⟩
  refine RunN.of (kd := .bool) (ptr_ne _ _ _) ?_
  rw [SplitB_iff]
  refine ⟨fun h => by simp at h, fun _ => ?_⟩
  obtain ⟨N, rfl⟩ : ∃ N : Nat, n = (N : Int) := ⟨n.toNat, by omega⟩
  generalize hB : w.heap.size = B at *
  -- sending
  refine ⟨fun st w' => ∃ (k : Nat) (s : Sl) (xs : List (Ltr × Sl)), k ≤ ls.length ∧ st.1 = (k : Int) ∧ BagAt w' B B (N : Int) s xs ∧ cont xs = (cont ls).take (min k N) ∧ Upd w w' nobody, fun st _ => ls.length - st.1.toNat,
    ⟨0, _, _, Nat.zero_le _, rfl, hb1, by simp [cont], hu1⟩, ?_⟩
  rintro ⟨i, ⟨⟩⟩ w3 ⟨k, s, xs, hk, h1, hbag, hcont, hU3⟩
  dsimp only at h1
  subst h1
  have hg3 := hg.keep hU3
  have hxl : xs.length = min (min k N) ls.length := by have := congrArg List.length hcont; simpa [cont] using this
  rw [SplitB_iff]
  constructor
  · intro hlt
    have hlt : k < ls.length := by have := of_decide_eq_true hlt; omega
    obtain ⟨b, o, ha, hld⟩ := hg3.at hlt
    refine RunN.idx et22 ha (by omega) (by omega) ?_
    simp only [Int.toNat_natCast]
    refine RunN.of (kd := KL) (x := (ls[k].1.f, ls[k].1.t, ls[k].2, ())) hld ?_
    have hx := hg3.each ls[k] (List.getElem_mem _)
    refine (own_ok hx.1 hx.2).mono ?_
    rintro ⟨f', t', q, ⟨⟩⟩ w4 ⟨hu4, e1, e2, ho4⟩
    dsimp only at e1 e2 ho4
    subst e1; subst e2
    have hbag4 := hbag.keep hu4
    have hz1 := hU3.size
    have hz4 := hu4.size
    refine (send_ok hbag4 (by omega) (by omega) ho4.rd hx.2).mono ?_
    rintro r w5 hs
    have hcap : (xs.length : Int) = (N : Int) ↔ ¬ k < N := by omega
    have hk1 : IntKind.i64.wrap ((k : Int) + 1) = ((k + 1 : Nat) : Int) := by rw [IntWalk.i64_in _ ⟨by omega, by omega⟩]; omega
    rcases hs with ⟨hfull, rfl, hu5⟩ | ⟨hfull, rfl, hu5, s', q', hnx, hbag5⟩
    · refine num_ok.mono ?_
      rintro r w6 ⟨rfl, rfl⟩
      rw [SplitB_iff]
      refine ⟨fun h => by simp at h; have := hcap.1 hfull; omega, fun _ => ?_⟩
      rw [hk1]
      have hnlt := hcap.1 hfull
      refine ⟨⟨k + 1, s, xs, by omega, rfl, hbag4.keep hu5, ?_, (hU3.trans hu4).trans hu5⟩, by omega⟩
      rw [hcont]; congr 1; omega
    · refine num_ok.mono ?_
      rintro r w6 ⟨rfl, rfl⟩
      rw [SplitB_iff]
      have hklt : k < N := by
        rcases Nat.lt_or_ge k N with h | h
        · exact h
        · exact absurd (hcap.2 (by omega)) hfull
      refine ⟨fun h => by simp at h; omega, fun _ => ?_⟩
      rw [hk1]
      refine ⟨⟨k + 1, s', _, by omega, rfl, hbag5, ?_, (hU3.trans hu4).fresh hu5 fun j hj => ?_⟩, by omega⟩
      · have e1 : min (k + 1) N = min k N + 1 := by omega
        have e2 : min k N = k := by omega
        have hlt' : k < (cont ls).length := by simpa [cont] using hlt
        rw [e1, e2, List.take_succ_eq_append_getElem hlt']
        rw [e2] at hcont
        have e3 : cont (xs ++ [(⟨ls[k].1.f, ls[k].1.t, ls[k].1.m⟩, q')]) = cont xs ++ [ls[k].1] := by simp [cont]
        rw [e3, hcont]; simp [cont]
      · rcases hj with hj | hj
        · omega
        · have := (hbag.ow.lt hj).1; omega
  · intro hge
    have hge : k = ls.length := by have := of_decide_eq_false hge; omega
    subst hge
    refine (len_ok hbag).mono ?_
    rintro r w4 ⟨rfl, rfl⟩
    refine RunN.of (kd := .int .i64) (min_i _ _ _) ?_
    have hxl' : (xs.length : Int) = min (N : Int) (p.len : Int) := by omega
    rw [SplitB_iff]
    refine ⟨fun h => by rw [hxl'] at h; simp at h, fun _ => ?_⟩
    have hM : min ls.length N = xs.length := by omega
    -- delivering
    refine ⟨fun st w' => ∃ (k : Nat) (s : Sl) (ys : List (Ltr × Sl)), k ≤ xs.length ∧ st.1 = (k : Int) ∧ BagAt w' B B (N : Int) s ys ∧ cont ys = ((cont ls).take xs.length).drop k ∧ Upd w w' nobody, fun st _ => ls.length - st.1.toNat,
      ⟨0, s, xs, Nat.zero_le _, rfl, hbag, by rw [hcont, hM]; simp, hU3⟩, ?_⟩
    rintro ⟨i, ⟨⟩⟩ w5 ⟨k, s5, ys, hk5, h1, hbag5, hcont5, hU5⟩
    dsimp only at h1
    subst h1
    have hg5 := hg.keep hU5
    have hyl : ys.length = xs.length - k := by
      have := congrArg List.length hcont5
      simp [cont] at this; omega
    have hz5 := hU5.size
    rw [SplitB_iff]
    constructor
    · intro hkn
      have hkn : (k : Int) < (N : Int) := of_decide_eq_true hkn
      rw [SplitB_iff]
      constructor
      · intro hkl
        have hkl : (k : Int) < (p.len : Int) := of_decide_eq_true hkl
        have hkx : k < xs.length := by omega
        have hkls : k < ls.length := by omega
        refine (deliver_ok hbag5 (by omega) (i := 0)).mono ?_
        rintro r w6 hr
        rcases hr with ⟨hbad, _, _⟩ | ⟨j, hj, hj0, rfl, hu6, s6, hs6, hbag6⟩
        · exact absurd ⟨by omega, by omega⟩ hbad
        have hj0 : j = 0 := by omega
        subst hj0
        have hy0 : ys[0].1 = ls[k].1 := by
          have h1 := congrArg (fun l => l[0]?) hcont5
          simp only [cont, List.getElem?_map, List.getElem?_drop, List.getElem?_take, List.getElem?_eq_getElem hj, Option.map_some] at h1
          rw [if_pos (by omega), Nat.add_zero, List.getElem?_eq_getElem hkls] at h1
          simpa using h1
        have hx0 := (hbag5.each ys[0] (List.getElem_mem _))
        have hq : Rd w6 ys[0].2 1 (bys ys[0].1.m) := hx0.1.upd hu6 fun b hb e => by
          rcases e with e | e
          · exact (hx0.2.2 b hb).2.1 e
          · exact (hx0.2.2 b hb).2.2 e
        have hU6 : Upd w w6 nobody := hU5.fresh hu6 fun j hj => by
          rcases hj with hj | hj
          · omega
          · have := (hbag5.ow.lt hj).1; omega
        refine RunN.newB (new31 w6) ?_
        intro w7 hb7 hu7 hs7
        refine RunU.storA ag31 hb7 rfl (ds := lc ys[0].1.f ys[0].1.t ys[0].2) rfl (lc_one _ _ _) ?_
        intro w8 hb8 hu8
        have hU8' : Upd w6 w8 nobody := hu7.fresh hu8 fun j hj => by omega
        have hU8 := hU6.trans hU8'
        have hbag8 := hbag6.keep hU8'
        have hud : Upd w8 w8.drew nobody := Upd.drew _ _
        refine num_ok.mono ?_
        rintro r w9 ⟨rfl, rfl⟩
        rw [SplitB_iff]
        refine ⟨fun h => by simp at h, fun _ => ?_⟩
        have hb9 := hb8.upd hud (fun h => h)
        refine ReadN.loadA (kd := KL) (x := (ys[0].1.f, ys[0].1.t, ys[0].2, ())) ag31 hb9 rfl rfl ?_
        have hg9 := (hg.keep hU8).keep hud
        obtain ⟨b, o, ha, hld⟩ := hg9.at hkls
        refine ReadN.of (kd := .addr) (run_idx et22 ha (by omega) (by omega)) ?_
        simp only [Int.toNat_natCast]
        refine ReadN.of (kd := KL) (x := (ls[k].1.f, ls[k].1.t, ls[k].2, ())) hld ?_
        have hq9 := (hq.upd hU8' (fun _ _ h => h)).upd hud (fun _ _ h => h)
        refine (alike_ok hq9 (hg9.each ls[k] (List.getElem_mem _)).1).mono ?_
        rintro r w10 ⟨hu10, hr⟩
        have hr : r = true := hr.2 ⟨by rw [hy0], by rw [hy0], by rw [hy0]⟩
        subst hr
        rw [SplitB_iff]
        refine ⟨fun h => by simp at h, fun _ => ?_⟩
        have hk1 : IntKind.i64.wrap ((k : Int) + 1) = ((k + 1 : Nat) : Int) := by rw [IntWalk.i64_in _ ⟨by omega, by omega⟩]; omega
        rw [hk1]
        refine ⟨⟨k + 1, s6, _, by omega, rfl, (hbag8.keep hud).keep hu10, ?_, (hU8.trans hud).trans hu10⟩, by omega⟩
        have e1 : cont (ys.eraseIdx 0) = (cont ys).drop 1 := by
          simp [cont, List.map_tail]
        rw [e1, hcont5, List.drop_drop]
      · intro hkl
        have hkl : ¬ (k : Int) < (p.len : Int) := of_decide_eq_false hkl
        have hkx : k = xs.length := by omega
        refine (deliver_ok hbag5 (by omega) (i := 0)).mono ?_
        rintro r w6 hr
        rcases hr with ⟨_, rfl, hu6⟩ | ⟨j, hj, _⟩
        case inr => omega
        have hbag6 := hbag5.keep hu6
        refine RunN.newB (new31 w6) ?_
        intro w7 hb7 hu7 hs7
        refine RunU.storA ag31 hb7 rfl (ds := lc 0 0 ⟨none, 0, 0⟩) rfl (lc_one _ _ _) ?_
        intro w8 hb8 hu8
        have hU8' : Upd w6 w8 nobody := hu7.fresh hu8 fun j hj => by omega
        have hbag8 := hbag6.keep hU8'
        refine num_ok.mono ?_
        rintro r w9 ⟨rfl, rfl⟩
        rw [SplitB_iff]
        refine ⟨fun _ => ?_, fun h => by simp at h⟩
        refine (len_ok hbag8).mono ?_
        rintro r w10 ⟨rfl, rfl⟩
        refine ⟨(hU5.trans hu6).trans hU8', ?_⟩
        have : ys.length = 0 := by omega
        simp [this]
    · intro hkn
      have hkn : ¬ (k : Int) < (N : Int) := of_decide_eq_false hkn
      have hkx : k = xs.length := by omega
      rw [SplitB_iff]
      refine ⟨fun h => by simp at h, fun _ => ?_⟩
      refine (deliver_ok hbag5 (by omega) (i := 0)).mono ?_
      rintro r w6 hr
      rcases hr with ⟨_, rfl, hu6⟩ | ⟨j, hj, _⟩
      case inr => omega
      have hbag6 := hbag5.keep hu6
      refine RunN.newB (new31 w6) ?_
      intro w7 hb7 hu7 hs7
      refine RunU.storA ag31 hb7 rfl (ds := lc 0 0 ⟨none, 0, 0⟩) rfl (lc_one _ _ _) ?_
      intro w8 hb8 hu8
      have hU8' : Upd w6 w8 nobody := hu7.fresh hu8 fun j hj => by omega
      have hbag8 := hbag6.keep hU8'
      refine num_ok.mono ?_
      rintro r w9 ⟨rfl, rfl⟩
      rw [SplitB_iff]
      refine ⟨fun _ => ?_, fun h => by simp at h⟩
      refine (len_ok hbag8).mono ?_
      rintro r w10 ⟨rfl, rfl⟩
      refine ⟨(hU5.trans hu6).trans hU8', ?_⟩
      have : ys.length = 0 := by omega
      simp [this]
end Go.Proofs.Ytmhjlngkdppgpaa
