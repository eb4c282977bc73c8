/- Words and steps, part 10: The world of epochs in memory: an epoch begins. The world of epochs in memory: what a replica does behind everything. The world of epochs in memory: a message comes. The world of epochs in memory: a step. The document's first answers, of the program's machine. The world of epochs in memory: the sums; how it begins; EpochGathers. The world of epochs in memory: how it is made; EpochGathers. What a law of a world of epochs reads of its arguments. The world of epochs, in plain words: all messages come; at rest. -/
import Derived.Test.YtmfbmfppjdkeeaaErQ9
/- The world of epochs in memory: an epoch begins. -/
namespace Go.Proofs.Ytmfbmfppjdkeeaa
open Go Go.Fw Go.RowKit
set_option linter.unusedVariables false
set_option linter.unusedSimpArgs false
set_option maxRecDepth 4000
set_option maxHeartbeats 4000000
variable {w0 w : World} {F G : Grps} {wb : Nat} {nbs : List Nat} {X : Wo} {k : Nat} {y : No}

theorem node_sum (hI : Wi 0 X) (hy : X.N[k]? = some y) : y.ri + y.he ≤ 30 := by
  have h1 := hI.sum; have h2 := hI.lim
  have h3 : y.ri + y.he ≤ rsum X.N := by
    have h4 := rsum_set (x' := ⟨y.m, 0, 0, [], false, (0, 0), false⟩) hy
    have h5 : 0 ≤ rsum (X.N.set k ⟨y.m, 0, 0, [], false, (0, 0), false⟩) := sum_nonneg fun z hz => by
      obtain ⟨q, hq, rfl⟩ := List.mem_map.1 hz
      rcases List.mem_or_eq_of_mem_set hq with hq | rfl
      · obtain ⟨i, hi, rfl⟩ := List.mem_iff_getElem.1 hq
        have h6 := hI.ok i _ (List.getElem?_eq_getElem hi)
        have h7 := h6.ri; have h8 := h6.he; omega
      · exact Int.le_refl 0
    dsimp only at h4
    omega
  have h4 : 0 ≤ bsum X.bag := sum_nonneg fun z hz => by
    obtain ⟨m, hm, rfl⟩ := List.mem_map.1 hz
    exact (hI.bag m hm).ri
  omega
theorem begin_wi (hI : Wi 0 X) (hy : X.N[k]? = some y) (hf : someE y.m.top = false) (hb : X.begun < 1099511627776) (all : Bool) :
    y.m.begin_ X.lim y.ri y.he all = (if (y.m.fresh all).look X.lim y.ri y.he ≠ [] then (y.m.fresh all).look X.lim y.ri y.he else [(1, -1, (y.m.fresh all).own.1, (y.m.fresh all).own.2, 0, 0)], 0, y.m.fresh all) := by
  have hok := hI.ok k y hy
  have hlim := hI.lim
  have hs := node_sum hI hy
  have h1 := hok.ri; have h2 := hok.he
  have hb0 : 0 ≤ X.begun := by
    have h16 := hok.wf.n
    have := hok.kb _ (gI_mem (l := y.m.kn) (i := 0) (by rw [hok.wf.kl]; omega))
    have := kn_nonneg hok.wf 0
    omega
  have ht := top16_le hok.kb hb0
  have hok3 : okA [X.lim, y.ri, y.he] = true := by rw [okA_three]; exact decide_eq_true ⟨by omega, by omega, by omega⟩
  unfold Mv.begin_
  rw [if_neg (by rw [hok3]; rintro (h | h); cases h; omega), if_neg (by rw [hf]; decide), if_neg (by omega)]
  split <;> rfl
theorem begin_at (h : At w0 F wb nbs X w) (hI : Wi 0 X) (hy : X.N[k]? = some y) (hf : someE y.m.top = false) (hb : X.bag.length ≤ 999999990000) (hbe : 0 ≤ X.begun ∧ X.begun ≤ 1000000000000) (all : Bool) :
    CallK Try.prog (.tup .nilT) 55 #[.pointer (some ⟨wb, 0, none⟩), .int .i64 (k : Int), .bool all] w fun (_ : Unit) w' => At w0 F wb nbs (X.beg k y all) w' := by
  have hok := hI.ok k y hy
  have hlt := get_lt hy
  have hn5 := hI.n
  obtain ⟨x0, hwb0, hnb0, hpl0, h0⟩ := h
  have hb0 : ∃ nb, nbs[k]? = some nb := by
    have : k < nbs.length := by rw [← hnb0, List.length_map]; rw [pl_N hpl0, List.length_map] at hlt; exact hlt
    exact ⟨_, List.getElem?_eq_getElem this⟩
  obtain ⟨nb, hnb⟩ := hb0
  obtain ⟨x, n, v, h⟩ := At.openN ⟨x0, hwb0, hnb0, hpl0, h0⟩ hy hnb
  clear h0 hwb0 hnb0 hpl0 x0
  have hlen : X.N.length = x.N.length := by rw [pl_N v.pl]; simp
  have hwf : n.e.wf := by have := hok.wf; rw [← v.npl] at this; exact this
  have hxb : x.bag = X.bag := by rw [← v.pl]; rfl
  have hxe : x.begun = X.begun := by rw [← v.pl]; rfl
  have hxl : x.lim = X.lim := by rw [← v.pl]; rfl
  have hmy : n.e.toMv = y.m := by rw [← v.npl]; rfl
  have hriy : n.ri = y.ri := by rw [← v.npl]; rfl
  have hhey : n.he = y.he := by rw [← v.npl]; rfl
  have hwbx := v.wb
  subst hwbx
  have hbeq := begin_wi hI hy hf (by omega) all
  refine T55.calls ?_
  unfold T55
  refine nd_at h v.get ?_
  refine NilP.mk ?_
  refine h.drew.readB 1 0 ⟨_, rfl, rfl⟩ rfl (kd := .ptr) (x := n.e.p) rfl ?_
  refine NilP.mk ?_
  refine h.drew.readB 0 0 ⟨_, rfl, rfl⟩ rfl (kd := .int .i64) (x := x.lim) rfl ?_
  refine NilP.mk ?_
  refine h.drew.readB 1 0 ⟨_, rfl, rfl⟩ rfl (kd := .int .i64) (x := n.ri) rfl ?_
  refine NilP.mk ?_
  refine h.drew.readB 1 0 ⟨_, rfl, rfl⟩ rfl (kd := .int .i64) (x := n.he) rfl ?_
  have h := h.drew.ord 3 [2, 0, 1]
  dsimp only [opW, pick, nthO, dropO] at h
  refine (begin_st h hwf x.lim n.ri n.he all).mono ?_
  rintro _ w4 ⟨s, e', rfl, hcb, hmv, hsl, h⟩
  rw [hxl, hriy, hhey, hmy, hbeq] at hmv hsl h ⊢
  dsimp only at hmv hsl h ⊢
  have h := h.ord 4 [2, 3, 1, 0]
  dsimp only [pick, nthO, dropO] at h
  rw [← ndE_e (n := n) hcb] at h
  let n1 : Nd := { n with e := e' }
  have h : St w0 w4 (woE x :: ndE n1 :: emE n1.e [] :: [.row 70 6 s (acs (if (y.m.fresh all).look X.lim y.ri y.he ≠ [] then (y.m.fresh all).look X.lim y.ri y.he else [(1, -1, (y.m.fresh all).own.1, (y.m.fresh all).own.2, 0, 0)]))] :: (nodesG (x.N.eraseIdx k) ++ F)) := h
  have hL : ∃ a : A6, (if (y.m.fresh all).look X.lim y.ri y.he ≠ [] then (y.m.fresh all).look X.lim y.ri y.he else [(1, -1, (y.m.fresh all).own.1, (y.m.fresh all).own.2, 0, 0)]) = [a] ∧ (((y.m.fresh all).look X.lim y.ri y.he = [] ∧ a = (1, -1, (y.m.fresh all).own.1, (y.m.fresh all).own.2, 0, 0)) ∨ ((y.m.fresh all).look X.lim y.ri y.he ≠ [] ∧ a.1 = 4)) := by
    by_cases hl : (y.m.fresh all).look X.lim y.ri y.he = []
    · rw [if_neg (by simpa using hl)]
      exact ⟨_, rfl, .inl ⟨hl, rfl⟩⟩
    · rw [if_pos hl]
      unfold Mv.look at hl ⊢
      split
      · exact ⟨_, rfl, .inr ⟨by simp, rfl⟩⟩
      · rename_i hn
        rw [if_neg hn] at hl
        exact absurd rfl hl
  obtain ⟨a, hLa, hcase⟩ := hL
  rw [hLa] at h hsl
  have hsl : s.len = 1 := hsl
  refine JoinX.mk (fun (z : Bool × Unit) w' => z.1 = false ∧ St w0 w' (woE x :: ndE n1 :: emE n1.e [] :: [.row 70 6 s (acs [a])] :: (nodesG (x.N.eraseIdx k) ++ F))) ?_ ?_
  rotate_left
  · intro k1 hk1
    rw [SplitB_iff]
    refine ⟨fun hf => by simp at hf, fun _ => hk1 _ _ ⟨?_, h⟩⟩
    dsimp only
    rw [hsl]; rfl
  clear h
  rintro ⟨z, ⟨⟩⟩ w5 ⟨hz, h⟩
  dsimp only at hz
  subst hz
  rw [SplitB_iff]
  refine ⟨fun hf => (by cases hf), fun _ => ?_⟩
  refine NilP.mk ?_
  refine h.loadB 0 0 ⟨_, rfl, rfl⟩ rfl (kd := .int .i64) (x := x.begun) rfl ?_
  rw [wr (by omega)]
  refine NilP.mk ?_
  refine h.storB 0 0 ⟨_, rfl, rfl⟩ rfl rfl rfl ?_
  intro w6 h
  let x1 : Wm := { x with begun := x.begun + 1 }
  have h : St w0 w6 (woE x1 :: ndE n1 :: emE n1.e [] :: [.row 70 6 s (acs [a])] :: (nodesG (x.N.eraseIdx k) ++ F)) := h
  refine NilP.mk ?_
  refine h.storB 1 0 ⟨_, rfl, rfl⟩ rfl rfl rfl ?_
  intro w7 h
  let n2 : Nd := { n with e := e', own := all }
  have h : St w0 w7 (woE x1 :: ndE n2 :: emE n2.e [] :: [.row 70 6 s (acs [a])] :: (nodesG (x.N.eraseIdx k) ++ F)) := h
  have hrd : ∀ {w' : World} {A B C : List Ent} {Z : Grps}, St w0 w' (A :: B :: C :: [.row 70 6 s (acs [a])] :: Z) → Rd w' s 6 (acs [a]) := fun h => h.rd (k := 3) (i := 0) (E := 70) (sz := 6) ⟨_, rfl, rfl⟩
  refine (hrd h).idxK 0 rfl (by omega) ?_
  intro b0 o0 ha0
  refine (hrd h).el ha0 0 (by simp [add_lit']) (kd := .int .i64) (x := a.1) rfl ?_
  refine NilP.mk ?_
  refine h.storB 1 0 ⟨_, rfl, rfl⟩ rfl rfl rfl ?_
  intro w8 h
  let n3 : Nd := { n with e := e', own := all, told := a.1 == 1 }
  have h : St w0 w8 (woE x1 :: ndE n3 :: emE n3.e [] :: [.row 70 6 s (acs [a])] :: (nodesG (x.N.eraseIdx k) ++ F)) := h
  refine NilP.mk ?_
  refine h.loadB 1 0 ⟨_, rfl, rfl⟩ rfl (kd := .bool) (x := (a.1 == 1)) rfl ?_
  unfold Wo.beg
  rcases hcase with ⟨hl, hae⟩ | ⟨hl, hae⟩
  · have ha1 : (a.1 == 1) = true := by rw [hae]; rfl
    rw [ha1, SplitB_iff]
    refine ⟨fun _ => ?_, fun hf => (by cases hf)⟩
    refine (hrd h).idxK 0 rfl (by omega) ?_
    intro b1 o1 ha1'
    refine (hrd h).elA ha1' 2 (by simp [add_lit']) (kd := Kd2) ((y.m.fresh all).own.1, (y.m.fresh all).own.2, ()) (ds := epv (y.m.fresh all).own) (by rw [hae]; rfl) ?_
    refine (others_st (x := x1) h (by show x.N.length ≤ 5; omega) (by show x.bag.length ≤ _; rw [hxb]; omega) (m := ⟨3, (k : Int), 0, (y.m.fresh all).own, (0, 0), 0, 0⟩) (k := k) rfl).mono ?_
    rintro _ w9 ⟨bs', h⟩
    have h := h.ord 4 [0, 1, 2]
    dsimp only [pick, nthO, dropO] at h
    rw [if_pos hl, decide_eq_true hl]
    have hn3 : n3.pl = { y with m := y.m.fresh all, own := all, told := true } := by
      rw [← v.npl]
      show (⟨e'.toMv, _, _, _, _, _, _⟩ : No) = ⟨n.e.toMv.fresh all, _, _, _, _, _, _⟩
      rw [hmv, ← hmy]
      show (⟨_, _, _, _, _, _, a.1 == 1⟩ : No) = _
      rw [ha1]; rfl
    exact At.closeN (x' := { x1 with bag := x.bag ++ oth x.N.length k ⟨3, (k : Int), 0, (y.m.fresh all).own, (0, 0), 0, 0⟩, bs := bs' }) (n' := n3) v h rfl rfl rfl (by rw [hn3, ← v.pl]; simp [Wm.pl, x1])
  · have ha1 : (a.1 == 1) = false := by rw [hae]; rfl
    rw [ha1, SplitB_iff]
    refine ⟨fun hf => (by cases hf), fun _ => ?_⟩
    refine (hrd h).idxK 0 rfl (by omega) ?_
    intro b1 o1 ha1'
    refine (hrd h).el ha1' 0 (by simp [add_lit']) (kd := .int .i64) (x := a.1) rfl ?_
    rw [hae, SplitB_iff]
    refine ⟨fun hf => by simp at hf, fun _ => ?_⟩
    have h := h.ord 4 [0, 1, 2]
    dsimp only [pick, nthO, dropO] at h
    rw [if_neg hl, decide_eq_false hl]
    have hn3 : n3.pl = { y with m := y.m.fresh all, own := all, told := false } := by
      rw [← v.npl]
      show (⟨e'.toMv, _, _, _, _, _, _⟩ : No) = ⟨n.e.toMv.fresh all, _, _, _, _, _, _⟩
      rw [hmv, ← hmy]
      show (⟨_, _, _, _, _, _, a.1 == 1⟩ : No) = _
      rw [ha1]; rfl
    exact At.closeN (x' := x1) (n' := n3) v h rfl rfl rfl (by rw [hn3, ← v.pl]; simp [Wm.pl, x1])
end Go.Proofs.Ytmfbmfppjdkeeaa

/- The world of epochs in memory: what a replica does behind everything. -/
namespace Go.Proofs.Ytmfbmfppjdkeeaa
open Go Go.Fw Go.RowKit
set_option linter.unusedVariables false
set_option linter.unusedSimpArgs false
set_option maxRecDepth 100000
set_option maxHeartbeats 8000000
variable {w0 w : World} {F G : Grps} {wb : Nat} {nbs : List Nat} {X : Wo} {k : Nat} {y : No}

theorem settleN_cut {f : Nat} {X : Wo} (h : (X.one k).2 = false) : Wo.settleN (f + 1) X k = (X.one k).1 := by rw [Wo.settleN, if_neg (by rw [h]; decide)]
theorem settleN_go {f : Nat} {X : Wo} (h : (X.one k).2 = true) : Wo.settleN (f + 1) X k = Wo.settleN f (X.one k).1 k := by rw [Wo.settleN, if_pos h]
theorem settle_at {c : Int} (h : At w0 F wb nbs X w) (hI : Wi 0 X) (hB : Bd c X) (hc : c ≤ 999999970000) (hk : k < X.N.length) :
    CallK Try.prog (.tup .nilT) 24 #[.pointer (some ⟨wb, 0, none⟩), .int .i64 (k : Int)] w fun (_ : Unit) w' => At w0 F wb nbs (X.settle k) w' := by
  obtain ⟨nb, hnb⟩ : ∃ nb, nbs[k]? = some nb := by
    obtain ⟨x0, hwb0, hnb0, hpl0, h0⟩ := h
    have : k < nbs.length := by rw [← hnb0, List.length_map]; rw [pl_N hpl0, List.length_map] at hk; exact hk
    exact ⟨_, List.getElem?_eq_getElem this⟩
  obtain ⟨x, n, v, ho⟩ := At.openN h (List.getElem?_eq_getElem hk) hnb
  have hwbx := v.wb
  subst hwbx
  refine T24.calls ?_
  unfold T24
  refine nd_at ho v.get ?_
  have hnp : n.p = some ⟨nb, 0, none⟩ := by rw [Nd.p, v.nb]
  rw [hnp]
  generalize x.wb = wb at h
  clear ho v hnp n x
  obtain ⟨f0, hf0⟩ : ∃ f : Nat, f = 1000 := ⟨_, rfl⟩
  obtain ⟨S0, hS0⟩ : ∃ S : Wo, X.settle k = S := ⟨_, rfl⟩
  have hS1 : Wo.settleN f0 X k = S0 := by rw [← hS0, Wo.settle, hf0]
  rw [hS0]
  clear hS0
  refine LoopX.mk (fun st w' => ∃ (i : Nat) (Y : Wo), st = ((i : Int), ()) ∧ i ≤ f0 ∧ Wi 0 Y ∧ Bd (c + 10 * i) Y ∧ Y.N.length = X.N.length ∧ Wo.settleN (f0 - i) Y k = S0 ∧ At w0 F wb nbs Y w') (fun st => 1000 - st.1.toNat) ⟨0, X, rfl, Nat.zero_le _, hI, hB.mono (by omega), rfl, by rw [Nat.sub_zero]; exact hS1, h⟩ ?_
  clear h hI hB
  rintro _ w1 ⟨i, Y, rfl, hi, hI, hB, hYl, hset, h⟩ k2 hk2
  dsimp only at hk2 ⊢
  have hkY : k < Y.N.length := by omega
  have hy := List.getElem?_eq_getElem hkY
  generalize hyd : Y.N[k] = y at hy
  clear hyd
  have hok := hI.ok k y hy
  have hn5 := hI.n
  have hbag := hB.bag; have hbeg := hB.begun; have hend := hB.ended; have htur := hB.turn
  have hnsum := node_sum hI hy
  have hri := hok.ri; have hhe := hok.he; have hlim := hI.lim
  have hone : Y.one k = Y.oneX k y := by unfold Wo.one; rw [hy]
  refine JoinX.mk (fun (z : Bool × Unit) w' => z.1 = decide (i < 1000) ∧ At w0 F wb nbs Y w') ?_ ?_
  rotate_left
  · intro k3 hk3
    rw [SplitB_iff]
    refine ⟨fun hc1 => ?_, fun hc1 => ?_⟩
    · have hc1 : (i : Int) < 1000 := of_decide_eq_true hc1
      obtain ⟨x, hwb, hnbx, hpl, hs⟩ := h
      refine NilP.mk ?_
      subst hwb
      have hw0 : x.wrong = false := by have := hI.wrong; rw [← hpl] at this; exact this
      refine hs.loadB 0 0 ⟨_, rfl, rfl⟩ rfl (kd := .bool) (x := x.wrong) rfl ?_
      rw [hw0]
      refine hk3 _ _ ⟨?_, x, rfl, hnbx, hpl, hs⟩
      rw [decide_eq_true (by omega)]; rfl
    · have hc1 : ¬ (i : Int) < 1000 := of_decide_eq_false hc1
      exact hk3 _ _ ⟨by rw [decide_eq_false (by omega)], h⟩
  clear h
  rintro ⟨z, ⟨⟩⟩ w2 ⟨hz, h⟩
  dsimp only at hz
  subst hz
  dsimp only
  rw [SplitB_iff]
  refine ⟨fun hi1 => ?_, fun hi1 => ?_⟩
  rotate_left
  · have hi1 : ¬ i < 1000 := of_decide_eq_false hi1
    have he : f0 - i = 0 := by omega
    rw [he] at hset
    have hset : Y = S0 := hset
    rw [← hset]; exact h
  have hi1 : i < 1000 := of_decide_eq_true hi1
  have h1000 : f0 - i = (f0 - 1 - i) + 1 := by omega
  rw [h1000] at hset
  have hem : IntKind.i64.wrap ((i : Int) + 1) = ((i + 1 : Nat) : Int) := by rw [wr (by omega)]; omega
  rw [hem]
  have hstop : (Y.one k).2 = false → (Y.one k).1 = S0 := fun h => by rw [← hset, settleN_cut h]
  have hob := hI.one htur.1 (by omega) k
  have hbb := hB.one hn5.2 k
  refine JoinX.mk (fun (_ : Unit) w' => (Y.one k).2 = true ∧ At w0 F wb nbs (Y.one k).1 w') ?_ ?_
  · rintro ⟨⟩ w3 ⟨hgo, h⟩
    refine hk2 _ _ ⟨i + 1, (Y.one k).1, rfl, by omega, hob, hbb.1.mono (by omega), by rw [hbb.2, hYl], ?_, h⟩ (by dsimp only; omega)
    rw [← hset, settleN_go hgo]
    congr 1
    omega
  intro k5 hk5
  obtain ⟨x, n, v, hop⟩ := At.openN h hy hnb
  clear h
  have hwbx := v.wb
  subst hwbx
  have hnbn := v.nb
  subst hnbn
  have h := hop
  clear hop
  have hwf : n.e.wf := by have := hok.wf; rw [← v.npl] at this; exact this
  have hmy : n.e.toMv = y.m := by rw [← v.npl]; rfl
  have hriy : n.ri = y.ri := by rw [← v.npl]; rfl
  have hhey : n.he = y.he := by rw [← v.npl]; rfl
  have hyy : n.y = y.y := by rw [← v.npl]; rfl
  have hwy : n.wait = y.wait := by rw [← v.npl]; rfl
  have hxb : x.bag = Y.bag := by rw [← v.pl]; rfl
  have hxl : x.lim = Y.lim := by rw [← v.pl]; rfl
  have hxt : x.turn = Y.turn := by rw [← v.pl]; rfl
  have hlen : Y.N.length = x.N.length := by rw [pl_N v.pl]; simp
  refine NilP.mk ?_
  refine h.loadB 1 0 ⟨_, rfl, rfl⟩ rfl (kd := .ptr) (x := n.e.p) rfl ?_
  have h := h.ord 3 [2, 0, 1]
  dsimp only [opW, pick, nthO, dropO] at h
  refine (own_st h hwf).mono ?_
  rintro _ w3 ⟨rfl, h⟩
  refine h.newB (NewC.run _) rfl ?_
  intro c6 w4 h
  refine h.storA (P := Try.prog) 0 0 (b := c6) ⟨_, rfl, rfl⟩ (t' := 54) (n := 2) (j := 0) rfl (ds := epv n.e.own) rfl rfl rfl ?_
  intro w5 h
  dsimp only [updG, setO] at h
  have h : St w0 w5 ([.cel c6 54 (epv n.e.own)] :: emE n.e [] :: woE x :: ndE n :: (nodesG (x.N.eraseIdx k) ++ F)) := h
  refine NilP.mk ?_
  refine h.loadB 3 0 ⟨_, rfl, rfl⟩ rfl (kd := .ptr) (x := n.e.p) rfl ?_
  have h := h.ord 2 [1, 0]
  dsimp only [pick, nthO, dropO] at h
  refine (top_st h hwf).mono ?_
  rintro _ w6 ⟨rfl, h⟩
  refine h.newB (NewC.run _) rfl ?_
  intro c7 w7 h
  refine h.storA (P := Try.prog) 0 0 (b := c7) ⟨_, rfl, rfl⟩ (t' := 54) (n := 2) (j := 0) rfl (ds := epv n.e.top) rfl rfl rfl ?_
  intro w8 h
  dsimp only [updG, setO] at h
  have h : St w0 w8 ([.cel c7 54 (epv n.e.top)] :: emE n.e [] :: [.cel c6 54 (epv n.e.own)] :: woE x :: ndE n :: (nodesG (x.N.eraseIdx k) ++ F)) := h
  have h := h.ord 5 [3, 4, 1, 2, 0]
  dsimp only [pick, nthO, dropO] at h
  have hdec : n.e.own = y.m.own ∧ n.e.top = y.m.top := by rw [← hmy]; exact ⟨rfl, rfl⟩
  -- the state within an iteration
  let S : World → Prop := fun w' => St w0 w' (woE x :: ndE n :: emE n.e [] :: [.cel c6 54 (epv n.e.own)] :: [.cel c7 54 (epv n.e.top)] :: (nodesG (x.N.eraseIdx k) ++ F))
  have hclose : ∀ {x' : Wm} {n' : Nd} {Z : Wo} {w'}, St w0 w' (woE x' :: ndE n' :: emE n'.e [] :: [.cel c6 54 (epv n.e.own)] :: [.cel c7 54 (epv n.e.top)] :: (nodesG (x.N.eraseIdx k) ++ F)) → x'.N = x.N → x'.wb = x.wb → n'.nb = n.nb → Z = { x'.pl with N := Y.N.set k n'.pl } → At w0 F x.wb nbs Z w' := fun {x' n' Z w'} h hN hw hb hZ => by
    have h := h.ord 5 [0, 1, 2]
    dsimp only [pick, nthO, dropO] at h
    refine At.closeN (x' := x') (n' := n') v ?_ hN hw hb hZ
    rw [opW, hN]; exact h
  have hsame : ∀ {w'}, S w' → At w0 F x.wb nbs Y w' := fun h => hclose h rfl rfl rfl (by rw [v.pl, v.npl, set_get hy])
  refine JoinX.mk (fun (z : Bool × Unit) w' => z.1 = decide (y.m.own.1 > 0 ∧ y.m.top = y.m.own) ∧ S w') ?_ ?_
  rotate_left
  · intro k7 hk7
    refine h.loadB 3 0 ⟨_, rfl, rfl⟩ rfl (kd := .int .i64) (x := n.e.own.1) rfl ?_
    rw [hdec.1, SplitB_iff]
    refine ⟨fun hc1 => ?_, fun hc1 => ?_⟩
    · have hc1 : y.m.own.1 > 0 := of_decide_eq_true hc1
      refine RunN.of (kd := Kd2) (x := (n.e.top.1, n.e.top.2, ())) (h.run_loadA (k := 4) (i := 0) (b := c7) (t := 54) (cs := epv n.e.top) ⟨_, rfl, rfl⟩ (t' := 54) (n := 2) (j := 0) rfl (vs := epv n.e.top) rfl rfl) ?_
      refine RunN.of (kd := Kd2) (x := (n.e.own.1, n.e.own.2, ())) (h.run_loadA (k := 3) (i := 0) (b := c6) (t := 54) (cs := epv n.e.own) ⟨_, rfl, rfl⟩ (t' := 54) (n := 2) (j := 0) rfl (vs := epv n.e.own) rfl rfl) ?_
      refine RunN.k2Eq ?_
      refine hk7 _ _ ⟨?_, h⟩
      dsimp only
      rw [eq_ep, hdec.1, hdec.2]
      exact decide_eq_decide.2 ⟨fun h => ⟨hc1, h⟩, fun h => h.2⟩
    · have hc1 : ¬ y.m.own.1 > 0 := of_decide_eq_false hc1
      exact hk7 _ _ ⟨by rw [decide_eq_false (fun hh => hc1 hh.1)], h⟩
  clear h
  rintro ⟨z, ⟨⟩⟩ w9 ⟨hz, h⟩
  dsimp only at hz
  subst hz
  dsimp only
  rw [SplitB_iff]
  refine ⟨fun hown => ?_, fun hnown => ?_⟩
  · -- the own epoch is the target
    have hown : y.m.own.1 > 0 ∧ y.m.top = y.m.own := of_decide_eq_true hown
    refine NilP.mk ?_
    refine h.drew.readB 1 0 ⟨_, rfl, rfl⟩ rfl (kd := .ptr) (x := n.e.p) rfl ?_
    refine NilP.mk ?_
    refine h.drew.readB 0 0 ⟨_, rfl, rfl⟩ rfl (kd := .int .i64) (x := x.lim) rfl ?_
    refine NilP.mk ?_
    refine h.drew.readB 1 0 ⟨_, rfl, rfl⟩ rfl (kd := .int .i64) (x := n.ri) rfl ?_
    refine NilP.mk ?_
    refine h.drew.readB 1 0 ⟨_, rfl, rfl⟩ rfl (kd := .int .i64) (x := n.he) rfl ?_
    have h := h.drew.ord 3 [2, 0, 1]
    dsimp only [pick, nthO, dropO] at h
    refine (look_st h hwf x.lim n.ri n.he).mono ?_
    rintro s w10 ⟨e', hcb, hmv, hsl, h⟩
    have h := h.ord 4 [2, 3, 1, 0]
    dsimp only [pick, nthO, dropO] at h
    have hlk : n.e.look x.lim n.ri n.he = y.m.look Y.lim y.ri y.he := by rw [hxl, hriy, hhey, ← hmy]
    rw [hlk] at hsl h
    rw [← ndE_e (n := n) hcb] at h
    let n1 : Nd := { n with e := e' }
    have hn1 : n1.pl = y := by
      rw [← v.npl]
      show (⟨e'.toMv, _, _, _, _, _, _⟩ : No) = ⟨n.e.toMv, _, _, _, _, _, _⟩
      rw [hmv]
    have h : St w0 w10 (woE x :: ndE n1 :: emE n1.e [] :: [.row 70 6 s (acs (y.m.look Y.lim y.ri y.he))] :: [.cel c6 54 (epv n.e.own)] :: [.cel c7 54 (epv n.e.top)] :: (nodesG (x.N.eraseIdx k) ++ F)) := h
    have hclose1 : ∀ {x' : Wm} {n' : Nd} {Z : Wo} {w'}, St w0 w' (woE x' :: ndE n' :: emE n'.e [] :: [.row 70 6 s (acs (y.m.look Y.lim y.ri y.he))] :: [.cel c6 54 (epv n.e.own)] :: [.cel c7 54 (epv n.e.top)] :: (nodesG (x.N.eraseIdx k) ++ F)) → x'.N = x.N → x'.wb = x.wb → n'.nb = n.nb → Z = { x'.pl with N := Y.N.set k n'.pl } → At w0 F x.wb nbs Z w' := fun {x' n' Z w'} h hN hw hb hZ => by
      have h := h.ord 4 [0, 1, 2]
      dsimp only [pick, nthO, dropO] at h
      exact hclose h hN hw hb hZ
    rw [SplitB_iff]
    refine ⟨fun hl0 => ?_, fun hl1 => ?_⟩
    · have hl0 : y.m.look Y.lim y.ri y.he = [] := by
        have : (s.len : Int) = 0 := by simpa using hl0
        exact List.length_eq_zero_iff.1 (by omega)
      have hone2 : Y.one k = (Y, false) := by rw [hone]; unfold Wo.oneX; rw [if_pos hown, if_pos hl0]
      have := hstop (by rw [hone2])
      rw [hone2] at this
      have this : Y = S0 := this
      rw [← this]
      exact hclose1 (x' := x) (n' := n1) h rfl rfl rfl (by rw [v.pl, hn1, set_get hy])
    · have hl1 : y.m.look Y.lim y.ri y.he ≠ [] := by
        intro h0
        rw [h0] at hsl
        rw [hsl] at hl1
        exact absurd hl1 (by decide)
      have hone2 : Y.one k = (Y.deal k y, true) := by rw [hone]; unfold Wo.oneX; rw [if_pos hown, if_neg hl1]
      rw [hone2] at hk5
      have hl : y.m.lv k = true := by
        have := own_live hok.wf
        rw [hok.me] at this
        rcases this with ⟨h, _⟩ | ⟨_, h, _⟩
        · exact h
        · rw [h] at hown; exact absurd hown.1 (by decide)
      have hlook := looks_of (X := Y) (x := y) hl1
      have hle : y.m.look Y.lim y.ri y.he = [(4, (y.m.me : Int), y.m.own.1, y.m.own.2, 0, 0)] := by unfold Mv.look; rw [if_pos hlook]
      rw [hle] at h hsl hclose1
      have hA := has_all hI hy hl hlook
      refine JoinX.mk (fun (z : Bool × Unit) w' => z.1 = false ∧ At w0 F x.wb nbs Y w') ?_ ?_
      rotate_left
      · intro k9 hk9
        have hrd : Rd w10 s 6 (acs [(4, (y.m.me : Int), y.m.own.1, y.m.own.2, 0, 0)]) := h.rd (k := 3) (i := 0) (E := 70) (sz := 6) ⟨_, rfl, rfl⟩
        refine hrd.idxK 0 rfl (by rw [hsl]; show 0 < 1; decide) ?_
        intro b0 o0 ha0
        refine hrd.el ha0 0 (by simp [add_lit']) (kd := .int .i64) (x := 4) rfl ?_
        rw [SplitB_iff]
        refine ⟨fun hf => by simp at hf, fun _ => ?_⟩
        have hat : At w0 F x.wb nbs Y w10 := hclose1 (x' := x) (n' := n1) h rfl rfl rfl (by rw [v.pl, hn1, set_get hy])
        refine (hasAll_st hat hI hy hA).mono ?_
        intro (b : Bool) w11 ⟨hb, hat⟩
        exact hk9 _ _ ⟨by rw [hb]; rfl, hat⟩
      clear h hclose1 hclose hsame
      rintro ⟨z, ⟨⟩⟩ w11 ⟨hz, h⟩
      dsimp only at hz
      subst hz
      rw [SplitB_iff]
      refine ⟨fun hf => (by cases hf), fun _ => ?_⟩
      obtain ⟨x2, n2, v2, h⟩ := At.openN h hy hnb
      have hwb2 := v2.wb
      have hnb2 := v2.nb
      rw [← hwb2, ← hnb2]
      have hri2 : n2.ri = y.ri := by rw [← v2.npl]; rfl
      have hhe2 : n2.he = y.he := by rw [← v2.npl]; rfl
      have hxt2 : x2.turn = Y.turn := by rw [← v2.pl]; rfl
      refine NilP.mk ?_
      refine h.loadB 0 0 ⟨_, rfl, rfl⟩ rfl (kd := .int .i64) (x := x2.turn) rfl ?_
      have htr : IntKind.i64.wrap (x2.turn + 1) = Y.turn + 1 := by rw [hxt2, wr (by omega)]
      rw [htr]
      refine NilP.mk ?_
      refine h.storB 0 0 ⟨_, rfl, rfl⟩ rfl rfl rfl ?_
      intro w12 h
      let x3 : Wm := { x2 with turn := Y.turn + 1 }
      have h : St w0 w12 (opW x3 k n2 F) := h
      refine NilP.mk ?_
      refine h.drew.readB 0 0 ⟨_, rfl, rfl⟩ rfl (kd := .int .i64) (x := Y.turn + 1) rfl ?_
      refine NilP.mk ?_
      refine h.drew.readB 1 0 ⟨_, rfl, rfl⟩ rfl (kd := .int .i64) (x := n2.ri) rfl ?_
      refine ReadN.of (kd := .int .i64) (min_i _ _ _) ?_
      rw [hri2]
      have hmod3 : 0 ≤ Int.tmod (Y.turn + 1) 3 := Int.tmod_nonneg _ (by omega)
      have hmod4 : 0 ≤ Int.tmod (Y.turn + 1) 4 := Int.tmod_nonneg _ (by omega)
      refine JoinX.mk (fun (z : Int × Unit) w' => z.1 = moved (Y.turn + 1) y ∧ St w0 w' (opW x3 k n2 F)) ?_ ?_
      rotate_left
      · intro k11 hk11
        refine NilP.mk ?_
        refine h.drew.loadB 0 0 ⟨_, rfl, rfl⟩ rfl (kd := .int .i64) (x := Y.turn + 1) rfl ?_
        rw [SplitB_iff]
        refine ⟨fun he => ?_, fun he => ?_⟩
        · have he : Int.tmod (Y.turn + 1) 2 = 0 := by simpa using he
          refine NilP.mk ?_
          refine h.drew.drew.readB 0 0 ⟨_, rfl, rfl⟩ rfl (kd := .int .i64) (x := Y.turn + 1) rfl ?_
          refine NilP.mk ?_
          refine h.drew.drew.readB 1 0 ⟨_, rfl, rfl⟩ rfl (kd := .int .i64) (x := n2.he) rfl ?_
          refine ReadN.of (kd := .int .i64) (min_i _ _ _) ?_
          rw [hhe2]
          refine hk11 _ _ ⟨?_, h.drew.drew⟩
          show IntKind.i64.wrap _ = moved _ _
          unfold moved
          rw [if_pos he, wr (by omega)]; omega
        · have he : ¬ Int.tmod (Y.turn + 1) 2 = 0 := by simpa using he
          refine hk11 _ _ ⟨?_, h.drew⟩
          show _ = moved _ _
          unfold moved
          rw [if_neg he]
      clear h
      rintro ⟨z, ⟨⟩⟩ w13 ⟨hz, h⟩
      dsimp only at hz
      subst hz
      dsimp only
      have hmo := moved_ok (x := y) (t := Y.turn + 1) (by omega) hri hhe
      generalize hmvd : moved (Y.turn + 1) y = d at hmo
      refine NilP.mk ?_
      refine h.loadB 1 0 ⟨_, rfl, rfl⟩ rfl (kd := .int .i64) (x := n2.ri) rfl ?_
      have hw1 : IntKind.i64.wrap (n2.ri - d) = y.ri - d := by rw [hri2, wr (by omega)]
      rw [hw1]
      refine NilP.mk ?_
      refine h.storB 1 0 ⟨_, rfl, rfl⟩ rfl rfl rfl ?_
      intro w14 h
      have h : St w0 w14 (opW x3 k { n2 with ri := y.ri - d } F) := h
      refine NilP.mk ?_
      refine h.loadB 1 0 ⟨_, rfl, rfl⟩ rfl (kd := .int .i64) (x := n2.he) rfl ?_
      have hw2 : IntKind.i64.wrap (n2.he + d) = y.he + d := by rw [hhe2, wr (by omega)]
      rw [hw2]
      refine NilP.mk ?_
      refine h.storB 1 0 ⟨_, rfl, rfl⟩ rfl rfl rfl ?_
      intro w15 h
      have h : St w0 w15 (opW x3 k { n2 with ri := y.ri - d, he := y.he + d } F) := h
      have hn3 : ({ n2 with ri := y.ri - d, he := y.he + d } : Nd).pl = y.mv d := by
        have : ({ n2 with ri := y.ri - d, he := y.he + d } : Nd).pl = { n2.pl with ri := y.ri - d, he := y.he + d } := rfl
        rw [this, v2.npl]; rfl
      let Y1 : Wo := { Y with turn := Y.turn + 1, N := Y.N.set k (y.mv d) }
      have hx3 : x3.pl = { Y with turn := Y.turn + 1 } := by
        show ({ x2.pl with turn := Y.turn + 1 } : Wo) = _
        rw [v2.pl]
      have hat : At w0 F x.wb nbs Y1 w15 := At.closeN (x' := x3) (n' := { n2 with ri := y.ri - d, he := y.he + d }) v2 h rfl rfl rfl (by rw [hn3, hx3])
      have hI1 : Wi 0 Y1 := hI.plain (x' := y.mv d) hy rfl hmo.1 hmo.2 (fun _ => rfl) (fun h => by rw [hl] at h; cases h) rfl rfl rfl rfl hI.wrong (by show (y.ri - d + (y.he + d)) + 0 = _; omega) (Int.le_refl 0)
      rw [hwb2]
      refine (finish_at hat hI1 (set_self hy) (by show Y.bag.length ≤ _; omega) (by show _ ≤ Y.ended ∧ Y.ended ≤ _; omega)).mono ?_
      intro _ w16 hat
      refine hk5 _ _ ⟨rfl, ?_⟩
      show At w0 F x.wb nbs (Y.deal k y) w16
      unfold Wo.deal
      rw [hmvd]
      exact hat
  · -- another one is, or none
    have hnown : ¬ (y.m.own.1 > 0 ∧ y.m.top = y.m.own) := of_decide_eq_false hnown
    have hlv := not_own hI hy hnown
    refine NilP.mk ?_
    refine h.loadB 1 0 ⟨_, rfl, rfl⟩ rfl (kd := .ptr) (x := n.e.p) rfl ?_
    have h := h.ord 3 [2, 0, 1]
    dsimp only [pick, nthO, dropO] at h
    refine (frozen_st h hwf).mono ?_
    intro (fz : Bool) w10 ⟨hfz, h⟩
    have h := h.ord 3 [1, 2, 0]
    dsimp only [pick, nthO, dropO] at h
    have h : S w10 := h
    rw [hfz, hdec.2, SplitB_iff]
    refine ⟨fun hfr => ?_, fun hnf => ?_⟩
    · -- frozen
      obtain ⟨j, hj, hlj, htj⟩ := top_in hI hy hfr
      refine JoinX.mk (fun (z : Bool × Unit) w' => z.1 = false ∧ S w') ?_ ?_
      rotate_left
      · intro k13 hk13
        have ht2 : n.e.top.2 = (j : Int) := by rw [hdec.2, htj]
        refine h.drew.readB 4 0 ⟨_, rfl, rfl⟩ rfl (kd := .int .i64) (x := n.e.top.2) rfl ?_
        rw [ht2, SplitB_iff]
        refine ⟨fun hf => ?_, fun _ => ?_⟩
        · have : (j : Int) < 0 := of_decide_eq_true hf
          omega
        refine h.drew.readB 4 0 ⟨_, rfl, rfl⟩ rfl (kd := .int .i64) (x := n.e.top.2) rfl ?_
        refine NilP.mk ?_
        have hnl := ns_len h
        refine h.drew.readB 0 0 ⟨_, rfl, rfl⟩ rfl (kd := .sl) (x := x.ns) rfl ?_
        refine hk13 _ _ ⟨?_, h.drew⟩
        rw [ht2]
        show decide ((j : Int) ≥ (x.ns.len : Int)) = false
        exact decide_eq_false (by omega)
      clear h
      rintro ⟨z, ⟨⟩⟩ w11 ⟨hz, h⟩
      dsimp only at hz
      subst hz
      rw [SplitB_iff]
      refine ⟨fun hf => (by cases hf), fun _ => ?_⟩
      refine JoinX.mk (fun (z : Bool × Unit) w' => z.1 = decide (y.m.top ≠ y.y ∨ y.ri > 0) ∧ S w') ?_ ?_
      rotate_left
      · intro k15 hk15
        refine ReadN.of (kd := Kd2) (x := (n.e.top.1, n.e.top.2, ())) (h.drew.run_loadA (k := 4) (i := 0) (b := c7) (t := 54) (cs := epv n.e.top) ⟨_, rfl, rfl⟩ (t' := 54) (n := 2) (j := 0) rfl (vs := epv n.e.top) rfl rfl) ?_
        refine NilP.mk ?_
        refine ReadN.of (kd := Kd2) (x := (n.y.1, n.y.2, ())) (h.drew.run_loadA (k := 1) (i := 0) (b := n.nb) (t := 65) (cs := ndC n) ⟨_, rfl, rfl⟩ (t' := 54) (n := 2) (j := 5) rfl (vs := epv n.y) rfl rfl) ?_
        refine ReadN.k2Ne ?_
        have hne := ne_ep n.e.top n.y
        rw [hdec.2, hyy] at hne
        show SplitB (!(n.e.top.1 == n.y.1 && n.e.top.2 == n.y.2)) _ _
        rw [hdec.2, hyy, hne, SplitB_iff]
        refine ⟨fun ht => ?_, fun ht => ?_⟩
        · have ht : y.m.top ≠ y.y := of_decide_eq_true ht
          exact hk15 _ _ ⟨by rw [decide_eq_true (.inl ht)], h.drew⟩
        · have ht : ¬ y.m.top ≠ y.y := of_decide_eq_false ht
          refine NilP.mk ?_
          refine h.drew.readB 1 0 ⟨_, rfl, rfl⟩ rfl (kd := .int .i64) (x := n.ri) rfl ?_
          refine hk15 _ _ ⟨?_, h.drew⟩
          rw [hriy]
          exact decide_eq_decide.2 ⟨fun h => .inr h, fun h => h.resolve_left ht⟩
      clear h
      rintro ⟨z, ⟨⟩⟩ w12 ⟨hz, h⟩
      dsimp only at hz
      subst hz
      dsimp only
      rw [SplitB_iff]
      refine ⟨fun hgo => ?_, fun hno => ?_⟩
      · have hgo : y.m.top ≠ y.y ∨ y.ri > 0 := of_decide_eq_true hgo
        have hone2 : Y.one k = (Y.yield k y, false) := by rw [hone]; unfold Wo.oneX; rw [if_neg hnown, if_pos hfr, if_pos hgo]
        have hfin := hstop (by rw [hone2])
        rw [hone2] at hfin
        have hfin : Y.yield k y = S0 := hfin
        refine h.drew.readB 4 0 ⟨_, rfl, rfl⟩ rfl (kd := .int .i64) (x := n.e.top.2) rfl ?_
        refine ReadN.of (kd := Kd2) (x := (n.e.top.1, n.e.top.2, ())) (h.drew.run_loadA (k := 4) (i := 0) (b := c7) (t := 54) (cs := epv n.e.top) ⟨_, rfl, rfl⟩ (t' := 54) (n := 2) (j := 0) rfl (vs := epv n.e.top) rfl rfl) ?_
        refine NilP.mk ?_
        refine h.drew.readB 1 0 ⟨_, rfl, rfl⟩ rfl (kd := .int .i64) (x := n.ri) rfl ?_
        refine NilP.mk ?_
        refine h.drew.readB 1 0 ⟨_, rfl, rfl⟩ rfl (kd := .int .i64) (x := n.he) rfl ?_
        refine (send_st (x := x) h.drew (by rw [hxb]; omega) ⟨4, (k : Int), n.e.top.2, n.e.top, (0, 0), n.ri, n.he⟩).mono ?_
        rintro _ w13 ⟨bs', h⟩
        let x1 : Wm := { x with bag := x.bag ++ [⟨4, (k : Int), n.e.top.2, n.e.top, (0, 0), n.ri, n.he⟩], bs := bs' }
        refine NilP.mk ?_
        refine h.storB 1 0 ⟨_, rfl, rfl⟩ rfl rfl rfl ?_
        intro w14 h
        have h : St w0 w14 (woE x1 :: ndE { n with ri := 0 } :: emE n.e [] :: [.cel c6 54 (epv n.e.own)] :: [.cel c7 54 (epv n.e.top)] :: (nodesG (x.N.eraseIdx k) ++ F)) := h
        refine RunN.of (kd := Kd2) (x := (n.e.top.1, n.e.top.2, ())) (h.run_loadA (k := 4) (i := 0) (b := c7) (t := 54) (cs := epv n.e.top) ⟨_, rfl, rfl⟩ (t' := 54) (n := 2) (j := 0) rfl (vs := epv n.e.top) rfl rfl) ?_
        refine NilP.mk ?_
        refine h.storA (P := Try.prog) 1 0 (b := n.nb) ⟨_, rfl, rfl⟩ (t' := 54) (n := 2) (j := 5) rfl (ds := epv n.e.top) rfl rfl rfl ?_
        intro w15 h
        let n1 : Nd := { n with ri := 0, y := n.e.top }
        have h : St w0 w15 (woE x1 :: ndE n1 :: emE n1.e [] :: [.cel c6 54 (epv n.e.own)] :: [.cel c7 54 (epv n.e.top)] :: (nodesG (x.N.eraseIdx k) ++ F)) := h
        rw [← hfin]
        refine hclose (x' := x1) (n' := n1) h rfl rfl rfl ?_
        have hn1 : n1.pl = { y with ri := 0, y := y.m.top } := by
          have : n1.pl = { n.pl with ri := 0, y := n.e.top } := rfl
          rw [this, v.npl, hdec.2]
        rw [hn1]
        unfold Wo.yield
        have e1 : x1.bag = Y.bag ++ [⟨4, (k : Int), y.m.top.2, y.m.top, (0, 0), y.ri, y.he⟩] := by
          show x.bag ++ [_] = _
          rw [hxb, hdec.2, hriy, hhey]
        rw [← e1, ← v.pl]
        rfl
      · have hno : ¬ (y.m.top ≠ y.y ∨ y.ri > 0) := of_decide_eq_false hno
        have hone2 : Y.one k = (Y, false) := by rw [hone]; unfold Wo.oneX; rw [if_neg hnown, if_pos hfr, if_neg hno]
        have hfin := hstop (by rw [hone2])
        rw [hone2] at hfin
        have hfin : Y = S0 := hfin
        rw [← hfin]; exact hsame h
    · -- free
      have hnf2 : ¬ someE y.m.top = true := by rw [hnf]; decide
      refine NilP.mk ?_
      refine h.storA (P := Try.prog) 1 0 (b := n.nb) ⟨_, rfl, rfl⟩ (t' := 54) (n := 2) (j := 5) rfl (ds := [.int .i64 0, .int .i64 0]) rfl rfl rfl ?_
      intro w11 h
      let n1 : Nd := { n with y := (0, 0) }
      have h : St w0 w11 (woE x :: ndE n1 :: emE n1.e [] :: [.cel c6 54 (epv n.e.own)] :: [.cel c7 54 (epv n.e.top)] :: (nodesG (x.N.eraseIdx k) ++ F)) := h
      have hwl : n.ws.len = n.wait.length := by
        have := (h.rd (k := 1) (i := 1) (E := 4) (sz := 1) (s := n.ws) (vs := lbo n.wait) ⟨_, rfl, rfl⟩).1
        simp [lbo] at this; omega
      have hn1 : n1.pl = { y with y := (0, 0) } := by
        have : n1.pl = { n.pl with y := (0, 0) } := rfl
        rw [this, v.npl]
      refine NilP.mk ?_
      refine h.loadB 1 0 ⟨_, rfl, rfl⟩ rfl (kd := .sl) (x := n.ws) rfl ?_
      rw [SplitB_iff]
      refine ⟨fun hw0 => ?_, fun hw1 => ?_⟩
      · have hw0 : y.wait = [] := by
          have : (n.ws.len : Int) = 0 := by simpa using hw0
          rw [← hwy]; exact List.length_eq_zero_iff.1 (by omega)
        have hone2 : Y.one k = (Y.put k { y with y := (0, 0) }, false) := by rw [hone]; unfold Wo.oneX; rw [if_neg hnown, if_neg hnf2, hw0]
        have hfin := hstop (by rw [hone2])
        rw [hone2] at hfin
        have hfin : Y.put k { y with y := (0, 0) } = S0 := hfin
        rw [← hfin]
        refine hclose (x' := x) (n' := n1) h rfl rfl rfl ?_
        rw [hn1, ← v.pl]; rfl
      · have hwne : 0 < n.wait.length := by
          rcases Nat.eq_zero_or_pos n.wait.length with h0 | h0
          · rw [hwl, h0] at hw1; exact absurd hw1 (by decide)
          · exact h0
        cases hwt : n.wait with
        | nil => rw [hwt] at hwne; exact absurd hwne (Nat.lt_irrefl _)
        | cons a r =>
          have hone2 : Y.one k = ((Y.put k { y with y := (0, 0), wait := r }).beg k { y with y := (0, 0), wait := r } a, true) := by
            rw [hone]; unfold Wo.oneX; rw [if_neg hnown, if_neg hnf2]
            rw [hwy] at hwt
            split
            · rename_i hh; rw [hwt] at hh; cases hh
            · rename_i a' r' hh
              rw [hwt] at hh
              cases hh; rfl
          rw [hone2] at hk5
          refine NilP.mk ?_
          refine h.loadB 1 0 ⟨_, rfl, rfl⟩ rfl (kd := .sl) (x := n.ws) rfl ?_
          have hwr := h.rd (k := 1) (i := 1) (E := 4) (sz := 1) (s := n.ws) (vs := lbo n.wait) ⟨_, rfl, rfl⟩
          refine hwr.idxK 0 rfl (by omega) ?_
          intro b0 o0 ha0
          refine hwr.el ha0 0 (by simp) (kd := .bool) (x := a) (by rw [hwt]; rfl) ?_
          refine NilP.mk ?_
          refine h.loadB 1 0 ⟨_, rfl, rfl⟩ rfl (kd := .sl) (x := n.ws) rfl ?_
          refine RunN.sL 1 rfl (by omega) ?_
          refine NilP.mk ?_
          refine h.storB 1 0 ⟨_, rfl, rfl⟩ rfl rfl rfl ?_
          intro w12 h
          have h := h.sufR (k := 1) (i := 1) (e := 4) (sz := 1) (s := n.ws) (vs := lbo n.wait) ⟨_, rfl, rfl⟩ (lo := 1) (by omega)
          let n2 : Nd := { n with y := (0, 0), ws := subS n.ws 1 n.ws.len 1, wait := r }
          have ed : (lbo n.wait).drop (1 * 1) = lbo r := by rw [hwt]; rfl
          rw [ed] at h
          have h : St w0 w12 (woE x :: ndE n2 :: emE n2.e [] :: [.cel c6 54 (epv n.e.own)] :: [.cel c7 54 (epv n.e.top)] :: (nodesG (x.N.eraseIdx k) ++ F)) := h
          have hn2 : n2.pl = { y with y := (0, 0), wait := r } := by
            have : n2.pl = { n.pl with y := (0, 0), wait := r } := rfl
            rw [this, v.npl]
          have hat : At w0 F x.wb nbs (Y.put k { y with y := (0, 0), wait := r }) w12 := hclose (x' := x) (n' := n2) h rfl rfl rfl (by rw [hn2, ← v.pl]; rfl)
          have hI1 : Wi 0 (Y.put k { y with y := (0, 0), wait := r }) := hI.plain (x' := { y with y := (0, 0), wait := r }) hy rfl hri hhe (fun _ => rfl) (fun _ _ => rfl) rfl rfl rfl rfl hI.wrong rfl (Int.le_refl 0)
          refine (begin_at hat hI1 (set_self hy) (by simpa using hnf) (by show Y.bag.length ≤ _; omega) (by show 0 ≤ Y.begun ∧ Y.begun ≤ _; omega) a).mono ?_
          intro _ w13 hat
          exact hk5 _ _ ⟨rfl, hat⟩
end Go.Proofs.Ytmfbmfppjdkeeaa

/- The world of epochs in memory: a message comes. -/
namespace Go.Proofs.Ytmfbmfppjdkeeaa
open Go Go.Fw Go.RowKit
set_option linter.unusedVariables false
set_option linter.unusedSimpArgs false
set_option maxRecDepth 4000
set_option maxHeartbeats 8000000
variable {w0 w : World} {F G : Grps} {wb : Nat} {nbs : List Nat} {X : Wo} {k : Nat} {y : No}

theorem node_ex {ex : Int} (hI : Wi ex X) (hy : X.N[k]? = some y) : y.ri + y.he + ex ≤ 30 := by
  have h1 := hI.sum; have h2 := hI.lim
  have h3 : y.ri + y.he ≤ rsum X.N := by
    have h4 := rsum_set (x' := ⟨y.m, 0, 0, [], false, (0, 0), false⟩) hy
    have h5 : 0 ≤ rsum (X.N.set k ⟨y.m, 0, 0, [], false, (0, 0), false⟩) := sum_nonneg fun z hz => by
      obtain ⟨q, hq, rfl⟩ := List.mem_map.1 hz
      rcases List.mem_or_eq_of_mem_set hq with hq | rfl
      · obtain ⟨i, hi, rfl⟩ := List.mem_iff_getElem.1 hq
        have h6 := hI.ok i _ (List.getElem?_eq_getElem hi)
        have h7 := h6.ri; have h8 := h6.he; omega
      · exact Int.le_refl 0
    dsimp only at h4
    omega
  have h4 : 0 ≤ bsum X.bag := sum_nonneg fun z hz => by
    obtain ⟨m, hm, rfl⟩ := List.mem_map.1 hz
    exact (hI.bag m hm).ri
  omega
theorem turn_len3 (e : Mv) (was : Ep) : (e.turn was).1.length ≤ 3 := by
  unfold Mv.turn
  split
  · have := tailA_len e.me e.own e.top e.own
    simp only [List.length_append, List.length_cons, List.length_nil]; omega
  · have := tailA_len e.me e.own e.top was
    dsimp only; omega
theorem hears_len (y : No) (m : Ms) : (y.hears m).1.length ≤ 3 := by
  unfold No.hears
  split
  · exact turn_len3 _ _
  · split
    · exact turn_len3 _ _
    · split
      · exact turn_len3 _ _
      · exact Nat.zero_le _
theorem act_len (own : Bool) (Z : Wo) (a : A6) : (Wo.act k own Z a).N.length = Z.N.length := by
  unfold Wo.act
  split
  · rfl
  · split
    · split
      · simp
      · rfl
    · rfl
theorem comes_at {c : Int} {m : Ms} (h : At w0 F wb nbs X w) (hI : Wi m.ri X) (hm : MsOk X m) (hB : Bd c X) (hc : c ≤ 999999900000) :
    CallK Try.prog (.tup .nilT) 23 #[.pointer (some ⟨wb, 0, none⟩), .agg #[.int .i64 m.kind, .int .i64 m.fr, .int .i64 m.to, .int .i64 m.e.1, .int .i64 m.e.2, .int .i64 m.ov.1, .int .i64 m.ov.2, .int .i64 m.ri, .int .i64 m.he]] w
    fun (_ : Unit) w' => At w0 F wb nbs (X.comes m) w' := by
  obtain ⟨k, hto, hk⟩ := hm.to
  have hy := List.getElem?_eq_getElem hk
  have htt : m.to.toNat = k := by omega
  have hcomes : X.comes m = (X.heardX m k X.N[k]).settle k := by unfold Wo.comes; rw [htt, hy]
  rw [hcomes]
  generalize X.N[k] = y at hy
  obtain ⟨hh1, hh2, hh3⟩ := heard_ok hI hy hm hB
  have hok := hI.ok k y hy
  have hn5 := hI.n
  have hbag := hB.bag; have hend := hB.ended
  have hri := hok.ri; have hhe := hok.he
  have hex := hI.ex
  have hnex := node_ex hI hy
  obtain ⟨nb, hnb⟩ : ∃ nb, nbs[k]? = some nb := by
    obtain ⟨x0, hwb0, hnb0, hpl0, h0⟩ := h
    have : k < nbs.length := by rw [← hnb0, List.length_map]; rw [pl_N hpl0, List.length_map] at hk; exact hk
    exact ⟨_, List.getElem?_eq_getElem this⟩
  obtain ⟨x, n, v, hop⟩ := At.openN h hy hnb
  clear h
  have hwbx := v.wb
  subst hwbx
  have hnbn := v.nb
  subst hnbn
  have h := hop
  clear hop
  have hwf : n.e.wf := by have := hok.wf; rw [← v.npl] at this; exact this
  have hmy : n.e.toMv = y.m := by rw [← v.npl]; rfl
  have hxb : x.bag = X.bag := by rw [← v.pl]; rfl
  have hlen : X.N.length = x.N.length := by rw [pl_N v.pl]; simp
  refine T23.calls (p1 := mgt m) ?_
  unfold T23
  refine h.newB run_boxA rfl ?_
  intro c3 w1 h
  have h : St w0 w1 ([.cel c3 73 (mgv m)] :: opW x k n F) := h
  refine NilP.mk ?_
  refine h.drew.readB 1 0 ⟨_, rfl, rfl⟩ rfl (kd := .sl) (x := x.ns) rfl ?_
  refine h.drew.readB 0 0 ⟨_, rfl, rfl⟩ rfl (kd := .int .i64) (x := m.to) rfl ?_
  have hnr := h.drew.rd (k := 1) (i := 1) (E := 62) (sz := 1) (s := x.ns) (vs := x.N.map ndp) ⟨_, rfl, rfl⟩
  have hnl : x.ns.len = x.N.length := by have := hnr.1; rw [List.length_map] at this; omega
  rw [hto]
  refine hnr.idxR k rfl (by omega) ?_
  intro b0 o0 ha0
  refine hnr.elR ha0 (k * 1) rfl (kd := .ptr) (x := n.p) (by rw [Nat.mul_one, List.getElem?_map, v.get]; rfl) ?_
  refine NilP.mk ?_
  refine h.drew.loadB 2 0 ⟨_, rfl, rfl⟩ rfl (kd := .bool) (x := n.own) rfl ?_
  have hoy : n.own = y.own := by rw [← v.npl]; rfl
  rw [hoy]
  have h := h.drew.ord 4 [1, 2, 3, 0]
  dsimp only [opW, pick, nthO, dropO] at h
  have hl3 := hears_len y m
  let l : List A6 := (y.hears m).1
  refine JoinX.mk (fun (z : Sl × Unit) w' => ∃ e' : Em, e'.cb = n.e.cb ∧ e'.toMv = (y.hears m).2 ∧ z.1.len = l.length ∧ St w0 w' (woE x :: ndE { n with e := e' } :: emE e' [] :: [.row 70 6 z.1 (acs l)] :: [.cel c3 73 (mgv m)] :: (nodesG (x.N.eraseIdx k) ++ F))) ?_ ?_
  rotate_left
  · intro k1 hk1
    refine h.loadB 3 0 ⟨_, rfl, rfl⟩ rfl (kd := .int .i64) (x := m.kind) rfl ?_
    rw [SplitB_iff]
    refine ⟨fun hk3 => ?_, fun hk3 => ?_⟩
    · have hk3 : m.kind = 3 := by simpa using hk3
      have hhe' : y.hears m = y.m.hear m.e := by unfold No.hears; rw [if_pos hk3]
      refine NilP.mk ?_
      refine h.drew.readB 1 0 ⟨_, rfl, rfl⟩ rfl (kd := .ptr) (x := n.e.p) rfl ?_
      refine ReadN.of (kd := Kd2) (x := (m.e.1, m.e.2, ())) (h.drew.run_loadA (k := 3) (i := 0) (b := c3) (t := 73) (cs := mgv m) ⟨_, rfl, rfl⟩ (t' := 54) (n := 2) (j := 3) rfl (vs := epv m.e) rfl rfl) ?_
      have h := h.drew.ord 3 [2, 0, 1]
      dsimp only [pick, nthO, dropO] at h
      refine (hear_st h hwf m.e).mono ?_
      rintro s w2 ⟨e', hcb, hmv, hsl, h⟩
      have h := h.ord 4 [2, 3, 1, 0]
      dsimp only [pick, nthO, dropO] at h
      rw [← ndE_e (n := n) hcb] at h
      have hlk : n.e.hear m.e = y.hears m := by rw [hhe', ← hmy]
      rw [hlk] at hmv hsl h
      exact hk1 _ _ ⟨e', hcb, hmv, hsl, h⟩
    have hk3 : ¬ m.kind = 3 := by simpa using hk3
    rw [SplitB_iff]
    refine ⟨fun hk5 => ?_, fun hk5 => ?_⟩
    · have hk5 : m.kind = 5 := by simpa using hk5
      have hhe' : y.hears m = y.m.end_ m.e (0, 0) := by unfold No.hears; rw [if_neg hk3, if_pos hk5]
      refine NilP.mk ?_
      refine h.drew.readB 1 0 ⟨_, rfl, rfl⟩ rfl (kd := .ptr) (x := n.e.p) rfl ?_
      refine ReadN.of (kd := Kd2) (x := (m.e.1, m.e.2, ())) (h.drew.run_loadA (k := 3) (i := 0) (b := c3) (t := 73) (cs := mgv m) ⟨_, rfl, rfl⟩ (t' := 54) (n := 2) (j := 3) rfl (vs := epv m.e) rfl rfl) ?_
      have h := h.drew.ord 3 [2, 0, 1]
      dsimp only [pick, nthO, dropO] at h
      refine (end_st h hwf m.e (0, 0)).mono ?_
      rintro s w2 ⟨e', hcb, hmv, hsl, h⟩
      have h := h.ord 4 [2, 3, 1, 0]
      dsimp only [pick, nthO, dropO] at h
      rw [← ndE_e (n := n) hcb] at h
      have hlk : n.e.end_ m.e (0, 0) = y.hears m := by rw [hhe', ← hmy]
      rw [hlk] at hmv hsl h
      exact hk1 _ _ ⟨e', hcb, hmv, hsl, h⟩
    have hk5 : ¬ m.kind = 5 := by simpa using hk5
    rw [SplitB_iff]
    refine ⟨fun hk7 => ?_, fun hk7 => ?_⟩
    · have hk7 : m.kind = 7 := by simpa using hk7
      have hhe' : y.hears m = y.m.end_ m.e m.ov := by unfold No.hears; rw [if_neg hk3, if_neg hk5, if_pos hk7]
      refine NilP.mk ?_
      refine h.drew.readB 1 0 ⟨_, rfl, rfl⟩ rfl (kd := .ptr) (x := n.e.p) rfl ?_
      refine ReadN.of (kd := Kd2) (x := (m.e.1, m.e.2, ())) (h.drew.run_loadA (k := 3) (i := 0) (b := c3) (t := 73) (cs := mgv m) ⟨_, rfl, rfl⟩ (t' := 54) (n := 2) (j := 3) rfl (vs := epv m.e) rfl rfl) ?_
      refine ReadN.of (kd := Kd2) (x := (m.ov.1, m.ov.2, ())) (h.drew.run_loadA (k := 3) (i := 0) (b := c3) (t := 73) (cs := mgv m) ⟨_, rfl, rfl⟩ (t' := 54) (n := 2) (j := 5) rfl (vs := epv m.ov) rfl rfl) ?_
      have h := h.drew.ord 3 [2, 0, 1]
      dsimp only [pick, nthO, dropO] at h
      refine (end_st h hwf m.e m.ov).mono ?_
      rintro s w2 ⟨e', hcb, hmv, hsl, h⟩
      have h := h.ord 4 [2, 3, 1, 0]
      dsimp only [pick, nthO, dropO] at h
      rw [← ndE_e (n := n) hcb] at h
      have hlk : n.e.end_ m.e m.ov = y.hears m := by rw [hhe', ← hmy]
      rw [hlk] at hmv hsl h
      exact hk1 _ _ ⟨e', hcb, hmv, hsl, h⟩
    have hk7 : ¬ m.kind = 7 := by simpa using hk7
    have hhe' : y.hears m = ([], if m.kind = 4 then y.m.report m.fr m.e m.he else y.m) := by unfold No.hears; rw [if_neg hk3, if_neg hk5, if_neg hk7]
    have hl0 : l = [] := by show (y.hears m).1 = []; rw [hhe']
    rw [SplitB_iff]
    refine ⟨fun hk4 => ?_, fun hk4 => ?_⟩
    · have hk4 : m.kind = 4 := by simpa using hk4
      refine NilP.mk ?_
      refine h.drew.readB 1 0 ⟨_, rfl, rfl⟩ rfl (kd := .ptr) (x := n.e.p) rfl ?_
      refine h.drew.readB 3 0 ⟨_, rfl, rfl⟩ rfl (kd := .int .i64) (x := m.fr) rfl ?_
      refine ReadN.of (kd := Kd2) (x := (m.e.1, m.e.2, ())) (h.drew.run_loadA (k := 3) (i := 0) (b := c3) (t := 73) (cs := mgv m) ⟨_, rfl, rfl⟩ (t' := 54) (n := 2) (j := 3) rfl (vs := epv m.e) rfl rfl) ?_
      refine h.drew.readB 3 0 ⟨_, rfl, rfl⟩ rfl (kd := .int .i64) (x := m.he) rfl ?_
      have h := h.drew.ord 3 [2, 0, 1]
      dsimp only [pick, nthO, dropO] at h
      refine (report_st h hwf m.fr m.e m.he).mono ?_
      rintro s w2 ⟨_, h⟩
      have h := (h.ord 3 [1, 2, 0]).nilrow 70 6
      dsimp only [pick, nthO, dropO] at h
      have h := h.ord 4 [1, 2, 3, 0]
      dsimp only [pick, nthO, dropO] at h
      let e' : Em := { n.e with toMv := n.e.report m.fr m.e m.he }
      rw [← ndE_e (n := n) (e' := e') rfl] at h
      refine hk1 (⟨none, 0, 0⟩, ()) _ ⟨e', rfl, ?_, by rw [hl0]; rfl, by rw [hl0]; exact h⟩
      show n.e.report m.fr m.e m.he = _
      rw [hhe', if_pos hk4, ← hmy]
    · have hk4 : ¬ m.kind = 4 := by simpa using hk4
      have h := h.nilrow 70 6
      have h := h.ord 4 [1, 2, 3, 0]
      dsimp only [pick, nthO, dropO] at h
      refine hk1 (⟨none, 0, 0⟩, ()) _ ⟨n.e, rfl, ?_, by rw [hl0]; rfl, by rw [hl0]; exact h⟩
      rw [hhe', if_neg hk4]; exact hmy
  clear h
  rintro ⟨s, ⟨⟩⟩ w2 ⟨e', hcb, hmv, hsl, h⟩
  dsimp only at hsl h ⊢
  -- the acts, one by one
  let X1 : Wo := X.put k { y with m := (y.hears m).2 }
  have hn1 : ({ n with e := e' } : Nd).pl = { y with m := (y.hears m).2 } := by
    have : ({ n with e := e' } : Nd).pl = { n.pl with m := e'.toMv } := rfl
    rw [this, v.npl, hmv]
  have hl3' : l.length ≤ 3 := hl3
  refine LoopX.mk (fun st w' => ∃ (i : Nat) (x' : Wm) (n' : Nd), st = ((i : Int), ()) ∧ i ≤ l.length ∧ x'.N = x.N ∧ x'.wb = x.wb ∧ x'.ns = x.ns ∧ n'.nb = n.nb ∧ n'.ri = n.ri ∧ ({ x'.pl with N := X.N.set k n'.pl } : Wo) = (l.take i).foldl (Wo.act k y.own) X1 ∧ (x'.bag.length : Int) ≤ c + 5 * i ∧ 0 ≤ x'.ended ∧ x'.ended ≤ c + i ∧ (n'.wait.length : Int) ≤ c + i ∧
      St w0 w' (woE x' :: ndE n' :: emE n'.e [] :: [.row 70 6 s (acs l)] :: [.cel c3 73 (mgv m)] :: (nodesG (x.N.eraseIdx k) ++ F))) (fun st => l.length - st.1.toNat)
    ⟨0, x, { n with e := e' }, rfl, Nat.zero_le _, rfl, rfl, rfl, rfl, rfl, ?_, by rw [hxb]; omega, ?_, ?_, ?_, h⟩ ?_
  · rw [hn1, List.take_zero, List.foldl_nil, v.pl]; rfl
  · have : x.ended = X.ended := by rw [← v.pl]; rfl
    omega
  · have : x.ended = X.ended := by rw [← v.pl]; rfl
    omega
  · have h1 := hB.wait k y hy
    have : n.wait = y.wait := by rw [← v.npl]; rfl
    show (n.wait.length : Int) ≤ _
    rw [this]; omega
  clear h
  rintro _ w3 ⟨i, x', n', rfl, hi, hxN, hxw, hxn, hnb', hri', hfold, hbg, he0, he1, hwt, h⟩ k4 hk4
  dsimp only at hk4 ⊢
  have hsli : (s.len : Int) = (l.length : Int) := by omega
  have hrd : ∀ {w' : World} {A B C : List Ent} {Z : Grps}, St w0 w' (A :: B :: C :: [.row 70 6 s (acs l)] :: Z) → Rd w' s 6 (acs l) := fun h => h.rd (k := 3) (i := 0) (E := 70) (sz := 6) ⟨_, rfl, rfl⟩
  rw [hsli, SplitB_iff]
  refine ⟨fun hc1 => ?_, fun hc1 => ?_⟩
  · have hc1 : i < l.length := by have : (i : Int) < (l.length : Int) := of_decide_eq_true hc1
                                  omega
    have hem : IntKind.i64.wrap ((i : Int) + 1) = ((i + 1 : Nat) : Int) := by rw [wr (by omega)]; omega
    rw [hem]
    have htk : (l.take (i + 1)).foldl (Wo.act k y.own) X1 = Wo.act k y.own ((l.take i).foldl (Wo.act k y.own) X1) l[i] := by
      rw [List.take_succ_eq_append_getElem hc1, List.foldl_append]; rfl
    refine JoinX.mk (fun (_ : Unit) w' => ∃ (x' : Wm) (n' : Nd), x'.N = x.N ∧ x'.wb = x.wb ∧ x'.ns = x.ns ∧ n'.nb = n.nb ∧ n'.ri = n.ri ∧ ({ x'.pl with N := X.N.set k n'.pl } : Wo) = (l.take (i + 1)).foldl (Wo.act k y.own) X1 ∧ (x'.bag.length : Int) ≤ c + 5 * (i + 1 : Nat) ∧ 0 ≤ x'.ended ∧ x'.ended ≤ c + (i + 1 : Nat) ∧ (n'.wait.length : Int) ≤ c + (i + 1 : Nat) ∧
      St w0 w' (woE x' :: ndE n' :: emE n'.e [] :: [.row 70 6 s (acs l)] :: [.cel c3 73 (mgv m)] :: (nodesG (x.N.eraseIdx k) ++ F))) ?_ ?_
    · rintro ⟨⟩ w4 ⟨x2, n2, a1, a2, a3, a4, a5, a6, a7, a8, a9, a10, h⟩
      exact hk4 _ _ ⟨i + 1, x2, n2, rfl, by omega, a1, a2, a3, a4, a5, a6, a7, a8, a9, a10, h⟩ (by dsimp only; omega)
    intro k5 hk5
    rw [htk, ← hfold] at hk5
    have hfl : ∀ {α : Type} {f : α → List Value} {nn : Nat} (hf : ∀ x, (f x).length = nn), True := fun _ => trivial
    refine (hrd h).idxK i rfl (by omega) ?_
    intro b1 o1 ha1
    refine (hrd h).el ha1 (i * 6) (by simp [add_lit']) (kd := .int .i64) (x := l[i].1) (flat_cell acv_len hc1 0 (by decide)) ?_
    rw [SplitB_iff]
    refine ⟨fun ha3 => ?_, fun ha3 => ?_⟩
    · have ha3 : l[i].1 = 3 := by simpa using ha3
      refine h.drew.readB 4 0 ⟨_, rfl, rfl⟩ rfl (kd := .int .i64) (x := m.to) rfl ?_
      refine (hrd h.drew).idxR i rfl (by omega) ?_
      intro b2 o2 ha2
      refine (hrd h.drew).elAR ha2 (i * 6 + 2) (by rw [add_lit', Nat.add_assoc]) (kd := Kd2) (l[i].2.2.1, l[i].2.2.2.1, ()) (ds := epv (l[i].2.2.1, l[i].2.2.2.1)) (by rw [flat_part acv_len hc1 2 2 (by decide)]; rfl) ?_
      refine (hrd h.drew).idxR i rfl (by omega) ?_
      intro b4 o4 ha4
      refine (hrd h.drew).elAR ha4 (i * 6 + 4) (by rw [add_lit', Nat.add_assoc]) (kd := Kd2) (l[i].2.2.2.2.1, l[i].2.2.2.2.2, ()) (ds := epv (l[i].2.2.2.2.1, l[i].2.2.2.2.2)) (by rw [flat_part acv_len hc1 4 2 (by decide)]; rfl) ?_
      rw [hto]
      have hxw2 : x'.p = some ⟨x.wb, 0, none⟩ := by rw [Wm.p, hxw]
      rw [← hxw2]
      refine (others_st (x := x') h.drew (by rw [hxN]; omega) (by omega) (m := ⟨7, (k : Int), 0, (l[i].2.2.1, l[i].2.2.2.1), (l[i].2.2.2.2.1, l[i].2.2.2.2.2), 0, 0⟩) (k := k) rfl).mono ?_
      rintro _ w4 ⟨bs', h⟩
      have hol := oth_len (n := x'.N.length) (k := k) ⟨7, (k : Int), 0, (l[i].2.2.1, l[i].2.2.2.1), (l[i].2.2.2.2.1, l[i].2.2.2.2.2), 0, 0⟩
      refine hk5 _ _ ⟨{ x' with bag := x'.bag ++ oth x'.N.length k ⟨7, (k : Int), 0, (l[i].2.2.1, l[i].2.2.2.1), (l[i].2.2.2.2.1, l[i].2.2.2.2.2), 0, 0⟩, bs := bs' }, n', hxN, hxw, hxn, hnb', hri', ?_, ?_, he0, by show x'.ended ≤ _; omega, by omega, h⟩
      · unfold Wo.act
        rw [if_pos ha3]
        have e1 : (X.N.set k n'.pl).length = x'.N.length := by rw [List.length_set, hxN, hlen]
        simp only [e1]
        rfl
      · show ((x'.bag ++ _).length : Int) ≤ _
        rw [List.length_append]
        rw [hxN] at hol ⊢
        omega
    have ha3 : ¬ l[i].1 = 3 := by simpa using ha3
    rw [SplitB_iff]
    refine ⟨fun ha5 => ?_, fun ha5 => ?_⟩
    · have ha5 : l[i].1 = 5 := by simpa using ha5
      refine h.newS 1 (bs63b _ _) rfl rfl rfl ?_
      intro u w4 hu1 hu2 _ h
      have hnp : n.p = n'.p := by rw [Nd.p, Nd.p, hnb']
      rw [hnp]
      refine NilP.mk ?_
      refine h.loadB 2 0 ⟨_, rfl, rfl⟩ rfl (kd := .sl) (x := n'.ws) rfl ?_
      have hwl : n'.ws.len = n'.wait.length := by
        have := (h.rd (k := 2) (i := 1) (E := 4) (sz := 1) (s := n'.ws) (vs := lbo n'.wait) ⟨_, rfl, rfl⟩).1
        simp [lbo] at this; omega
      have hwr := h.rd (k := 2) (i := 1) (E := 4) (sz := 1) (s := n'.ws) (vs := lbo n'.wait) ⟨_, rfl, rfl⟩
      refine h.app 0 0 (s := u) ⟨_, rfl, rfl⟩ hwr (fun v hv => by obtain ⟨b, _, rfl⟩ := List.mem_map.1 hv; rfl) (by simp only [maxLen]; omega) (by omega) ?_
      intro s' w5 hs' h
      dsimp only [updG, setO] at h
      refine NilP.mk ?_
      refine h.storB 2 0 ⟨_, rfl, rfl⟩ rfl rfl rfl ?_
      intro w6 h
      have h := h.ord 3 [0, 2, 1]
      dsimp only [pick, nthO, dropO, updG, setO, ndE] at h
      have h := h.plug (i := 1) rfl
      dsimp only [setO] at h
      have h := h.ord 2 [1, 0]
      dsimp only [pick, nthO, dropO] at h
      let n2 : Nd := { n' with ws := s', wait := y.own :: n'.wait }
      have h : St w0 w6 (woE x' :: ndE n2 :: emE n2.e [] :: [.row 70 6 s (acs l)] :: [.cel c3 73 (mgv m)] :: (nodesG (x.N.eraseIdx k) ++ F)) := h
      have hxw2 : x'.p = some ⟨x.wb, 0, none⟩ := by rw [Wm.p, hxw]
      rw [← hxw2]
      refine NilP.mk ?_
      refine h.loadB 0 0 ⟨_, rfl, rfl⟩ rfl (kd := .int .i64) (x := x'.ended) rfl ?_
      rw [wr (by omega)]
      refine NilP.mk ?_
      refine h.storB 0 0 ⟨_, rfl, rfl⟩ rfl rfl rfl ?_
      intro w7 h
      refine hk5 _ _ ⟨{ x' with ended := x'.ended + 1 }, n2, hxN, hxw, hxn, hnb', hri', ?_, by show (x'.bag.length : Int) ≤ _; omega, by show 0 ≤ x'.ended + 1; omega, by show x'.ended + 1 ≤ _; omega, by show ((n'.wait.length + 1 : Nat) : Int) ≤ _; omega, h⟩
      unfold Wo.act
      rw [if_neg ha3, if_pos ha5]
      have hg : (X.N.set k n'.pl)[k]? = some n'.pl := set_self hy
      simp only [hg, List.set_set]
      rfl
    · have ha5 : ¬ l[i].1 = 5 := by simpa using ha5
      refine hk5 _ _ ⟨x', n', hxN, hxw, hxn, hnb', hri', ?_, by omega, he0, by omega, by omega, h⟩
      rw [act_no ha3 ha5]
  · have hc1 : i = l.length := by have : ¬ (i : Int) < (l.length : Int) := of_decide_eq_false hc1
                                  omega
    subst hc1
    clear hk4
    rw [List.take_length] at hfold
    have hnp : n.p = n'.p := by rw [Nd.p, Nd.p, hnb']
    rw [hnp, ← hxw]
    refine NilP.mk ?_
    refine h.drew.readB 1 0 ⟨_, rfl, rfl⟩ rfl (kd := .int .i64) (x := n'.ri) rfl ?_
    refine h.drew.readB 4 0 ⟨_, rfl, rfl⟩ rfl (kd := .int .i64) (x := m.ri) rfl ?_
    have hriy : n'.ri = y.ri := by rw [hri', ← v.npl]; rfl
    rw [wr (by omega)]
    refine NilP.mk ?_
    refine h.drew.storB 1 0 ⟨_, rfl, rfl⟩ rfl rfl rfl ?_
    intro w4 h
    let n2 : Nd := { n' with ri := n'.ri + m.ri }
    have h : St w0 w4 (woE x' :: ndE n2 :: emE n2.e [] :: [.row 70 6 s (acs l)] :: [.cel c3 73 (mgv m)] :: (nodesG (x.N.eraseIdx k) ++ F)) := h
    refine h.loadB 4 0 ⟨_, rfl, rfl⟩ rfl (kd := .int .i64) (x := m.to) rfl ?_
    have h := h.ord 5 [0, 1, 2]
    dsimp only [pick, nthO, dropO] at h
    have hat : At w0 F x'.wb nbs (X.heardX m k y) w4 := by
      rw [hxw]
      refine At.closeN (x' := x') (n' := n2) v (by rw [opW, hxN]; exact h) hxN hxw hnb' ?_
      unfold Wo.heardX
      show Wo.gain (l.foldl (Wo.act k y.own) X1) k m.ri = _
      rw [← hfold, gain_eq (x := n'.pl) (set_self hy)]
      unfold Wo.put
      simp only [List.set_set]
      rfl
    rw [hto]
    exact settle_at hat hh1 hh2 (by omega) (by rw [hh3]; exact hk)
end Go.Proofs.Ytmfbmfppjdkeeaa

/- The world of epochs in memory: a step. -/
namespace Go.Proofs.Ytmfbmfppjdkeeaa
open Go Go.Fw Go.RowKit
set_option linter.unusedVariables false
set_option linter.unusedSimpArgs false
set_option maxRecDepth 4000
set_option maxHeartbeats 8000000
variable {w0 w : World} {F G : Grps} {wb : Nat} {nbs : List Nat} {X : Wo} {k : Nat} {y : No}

def spv (s : Stp) : List Value := [.int .i64 s.kind, .int .i64 s.who, .int .i64 s.a, .int .i64 s.b, .bool s.all]
theorem spv_len (s : Stp) : (spv s).length = 5 := rfl
def spt (s : Stp) : (Int × Int × Int × Int × Bool × Unit) := (s.kind, s.who, s.a, s.b, s.all, ())
abbrev Kd5 : Kd := .agg (.cons (.int .i64) (.cons (.int .i64) (.cons (.int .i64) (.cons (.int .i64) (.cons .bool .nilT)))))
structure Stp.ok (s : Stp) : Prop where
  who : -9223372036854775808 ≤ s.who ∧ s.who ≤ 9223372036854775807
  a : -9223372036854775808 ≤ s.a ∧ s.a ≤ 9223372036854775807
  b : -9223372036854775808 ≤ s.b ∧ s.b ≤ 9223372036854775807
theorem flat_take {α : Type} {f : α → List Value} {n : Nat} (hf : ∀ x, (f x).length = n) (l : List α) (k : Nat) (hk : k ≤ l.length) : (l.flatMap f).take (k * n) = (l.take k).flatMap f := by
  conv => lhs; rw [← List.take_append_drop k l, List.flatMap_append]
  have : ((l.take k).flatMap f).length = k * n := by rw [flat_len hf, List.length_take, Nat.min_eq_left hk]
  rw [List.take_append_of_le_length (by omega), List.take_of_length_le (by omega)]
theorem flat_drop {α : Type} {f : α → List Value} {n : Nat} (hf : ∀ x, (f x).length = n) (l : List α) (k : Nat) (hk : k ≤ l.length) : (l.flatMap f).drop (k * n) = (l.drop k).flatMap f := by
  conv => lhs; rw [← List.take_append_drop k l, List.flatMap_append]
  have : ((l.take k).flatMap f).length = k * n := by rw [flat_len hf, List.length_take, Nat.min_eq_left hk]
  rw [List.drop_append, List.drop_of_length_le (by omega), List.nil_append, this, Nat.sub_self, List.drop_zero]
theorem nbs_get (h : At w0 F wb nbs X w) (hk : k < X.N.length) : ∃ nb, nbs[k]? = some nb := by
  obtain ⟨x0, hwb0, hnb0, hpl0, h0⟩ := h
  have : k < nbs.length := by rw [← hnb0, List.length_map]; rw [pl_N hpl0, List.length_map] at hk; exact hk
  exact ⟨_, List.getElem?_eq_getElem this⟩
theorem moves_at (h : At w0 F wb nbs X w) (hI : Wi 0 X) (hy : X.N[k]? = some y) (hb : X.bag.length ≤ 999999990000) {s : Stp} (hs : s.ok) :
    CallK Try.prog (.tup .nilT) 27 #[.pointer (some ⟨wb, 0, none⟩), .int .i64 (k : Int), .agg #[.int .i64 s.kind, .int .i64 s.who, .int .i64 s.a, .int .i64 s.b, .bool s.all]] w fun (_ : Unit) w' => At w0 F wb nbs (X.moves k y s) w' := by
  have hok := hI.ok k y hy
  have hlt := get_lt hy
  have hn5 := hI.n
  have hri := hok.ri; have hhe := hok.he
  have hnex := node_ex hI hy
  obtain ⟨nb, hnb⟩ := nbs_get h hlt
  obtain ⟨x, n, v, hop⟩ := At.openN h hy hnb
  clear h
  have hwbx := v.wb
  subst hwbx
  have h := hop
  clear hop
  have hxb : x.bag = X.bag := by rw [← v.pl]; rfl
  have hlen : X.N.length = x.N.length := by rw [pl_N v.pl]; simp
  have hriy : n.ri = y.ri := by rw [← v.npl]; rfl
  have hhey : n.he = y.he := by rw [← v.npl]; rfl
  have h4 := wi2_in (x := s.a) (n := 4) (by decide)
  refine T27.calls (p2 := spt s) ?_
  unfold T27
  refine h.newB run_boxA rfl ?_
  intro c5 w1 h
  have h : St w0 w1 ([.cel c5 33 (spv s)] :: opW x k n F) := h
  have h := h.ord 4 [1, 2, 3, 0]
  dsimp only [opW, pick, nthO, dropO] at h
  refine nd_at h v.get ?_
  let S : Wm → Nd → World → Prop := fun x' n' w' => St w0 w' (woE x' :: ndE n' :: emE n'.e [] :: [.cel c5 33 (spv s)] :: (nodesG (x.N.eraseIdx k) ++ F))
  have hclose : ∀ {x' : Wm} {n' : Nd} {Z : Wo} {w'}, S x' n' w' → x'.N = x.N → x'.wb = x.wb → n'.nb = n.nb → Z = { x'.pl with N := X.N.set k n'.pl } → At w0 F x.wb nbs Z w' := fun {x' n' Z w'} h hN hw hb hZ => by
    have h := h.ord 4 [0, 1, 2]
    dsimp only [pick, nthO, dropO] at h
    refine At.closeN (x' := x') (n' := n') v ?_ hN hw hb hZ
    rw [opW, hN]; exact h
  have hsame : ∀ {w'}, S x n w' → At w0 F x.wb nbs X w' := fun h => hclose h rfl rfl rfl (by rw [v.pl, v.npl, set_get hy])
  have hmv : ∀ {w'} (d : Int), S x { n with ri := n.ri - d, he := n.he + d } w' → At w0 F x.wb nbs (X.put k (y.mv d)) w' := fun d h => hclose h rfl rfl rfl (by
    have : ({ n with ri := n.ri - d, he := n.he + d } : Nd).pl = n.pl.mv d := rfl
    rw [this, v.npl, v.pl]; rfl)
  refine h.loadB 3 0 ⟨_, rfl, rfl⟩ rfl (kd := .int .i64) (x := s.kind) rfl ?_
  unfold Wo.moves
  rw [SplitB_iff]
  refine ⟨fun hk3 => ?_, fun hk3 => ?_⟩
  · have hk3 : s.kind = 3 := by simpa using hk3
    rw [if_pos hk3]
    refine h.drew.readB 3 0 ⟨_, rfl, rfl⟩ rfl (kd := .int .i64) (x := s.a) rfl ?_
    refine NilP.mk ?_
    refine h.drew.readB 1 0 ⟨_, rfl, rfl⟩ rfl (kd := .int .i64) (x := n.ri) rfl ?_
    refine (within_st h.drew (x := s.a) (n := 4) (by decide) hs.a (by decide)).mono ?_
    intro (q : Int) w2 ⟨hq, h⟩
    refine ⟨h.stillB 1 0 ⟨_, rfl, rfl⟩ rfl rfl, ?_⟩
    refine ReadN.of (kd := .int .i64) (min_i _ _ _) ?_
    rw [hq, hriy]
    generalize hd : min (wi2 s.a 4) y.ri = d
    refine NilP.mk ?_
    refine h.loadB 1 0 ⟨_, rfl, rfl⟩ rfl (kd := .int .i64) (x := n.ri) rfl ?_
    rw [wr (by omega)]
    refine NilP.mk ?_
    refine h.storB 1 0 ⟨_, rfl, rfl⟩ rfl rfl rfl ?_
    intro w3 h
    refine NilP.mk ?_
    refine h.loadB 1 0 ⟨_, rfl, rfl⟩ rfl (kd := .int .i64) (x := n.he) rfl ?_
    rw [wr (by omega)]
    refine NilP.mk ?_
    refine h.storB 1 0 ⟨_, rfl, rfl⟩ rfl rfl rfl ?_
    intro w4 h
    exact hmv d h
  have hk3 : ¬ s.kind = 3 := by simpa using hk3
  rw [if_neg hk3, SplitB_iff]
  refine ⟨fun hk4 => ?_, fun hk4 => ?_⟩
  · have hk4 : s.kind = 4 := by simpa using hk4
    rw [if_pos hk4]
    refine h.drew.readB 3 0 ⟨_, rfl, rfl⟩ rfl (kd := .int .i64) (x := s.a) rfl ?_
    refine NilP.mk ?_
    refine h.drew.readB 1 0 ⟨_, rfl, rfl⟩ rfl (kd := .int .i64) (x := n.he) rfl ?_
    refine (within_st h.drew (x := s.a) (n := 4) (by decide) hs.a (by decide)).mono ?_
    intro (q : Int) w2 ⟨hq, h⟩
    refine ⟨h.stillB 1 0 ⟨_, rfl, rfl⟩ rfl rfl, ?_⟩
    refine ReadN.of (kd := .int .i64) (min_i _ _ _) ?_
    rw [hq, hhey]
    generalize hd : min (wi2 s.a 4) y.he = d
    refine NilP.mk ?_
    refine h.loadB 1 0 ⟨_, rfl, rfl⟩ rfl (kd := .int .i64) (x := n.ri) rfl ?_
    rw [wr (by omega)]
    refine NilP.mk ?_
    refine h.storB 1 0 ⟨_, rfl, rfl⟩ rfl rfl rfl ?_
    intro w3 h
    refine NilP.mk ?_
    refine h.loadB 1 0 ⟨_, rfl, rfl⟩ rfl (kd := .int .i64) (x := n.he) rfl ?_
    rw [wr (by omega)]
    refine NilP.mk ?_
    refine h.storB 1 0 ⟨_, rfl, rfl⟩ rfl rfl rfl ?_
    intro w4 h
    refine hmv (-d) ?_
    have e1 : n.ri - -d = n.ri + d := by omega
    have e2 : n.he + -d = n.he - d := by omega
    rw [e1, e2]
    exact h
  have hk4 : ¬ s.kind = 4 := by simpa using hk4
  rw [if_neg hk4, SplitB_iff]
  refine ⟨fun hk5 => ?_, fun hk5 => ?_⟩
  · have hk5 : s.kind = 5 := by simpa using hk5
    rw [if_pos hk5]
    have hnl : x.ns.len = x.N.length := ns_len h
    refine h.drew.readB 3 0 ⟨_, rfl, rfl⟩ rfl (kd := .int .i64) (x := s.a) rfl ?_
    refine NilP.mk ?_
    refine h.drew.readB 1 0 ⟨_, rfl, rfl⟩ rfl (kd := .int .i64) (x := n.ri) rfl ?_
    refine (within_st h.drew (x := s.a) (n := 4) (by decide) hs.a (by decide)).mono ?_
    intro (q : Int) w2 ⟨hq, h⟩
    refine ⟨h.stillB 1 0 ⟨_, rfl, rfl⟩ rfl rfl, ?_⟩
    refine ReadN.of (kd := .int .i64) (min_i _ _ _) ?_
    rw [hq, hriy]
    generalize hd : min (wi2 s.a 4) y.ri = d
    refine h.drew.readB 3 0 ⟨_, rfl, rfl⟩ rfl (kd := .int .i64) (x := s.b) rfl ?_
    refine NilP.mk ?_
    refine h.drew.readB 0 0 ⟨_, rfl, rfl⟩ rfl (kd := .sl) (x := x.ns) rfl ?_
    rw [hnl]
    refine (within_st h.drew (x := s.b) (n := (x.N.length : Int)) (by omega) hs.b (by omega)).mono ?_
    intro (t : Int) w3 ⟨ht, h⟩
    rw [hlen, ← ht]
    refine JoinX.mk (fun (z : Bool × Unit) w' => z.1 = decide (t ≠ (k : Int) ∧ d > 0) ∧ S x n w') ?_ ?_
    rotate_left
    · intro k1 hk1
      rw [SplitB_iff]
      refine ⟨fun hne => ?_, fun he => ?_⟩
      · have hne : t ≠ (k : Int) := by simpa using hne
        exact hk1 _ _ ⟨decide_eq_decide.2 ⟨fun h => ⟨hne, h⟩, fun h => h.2⟩, h⟩
      · have he : t = (k : Int) := by simpa using he
        exact hk1 _ _ ⟨by rw [decide_eq_false (fun hh => hh.1 he)], h⟩
    clear h
    rintro ⟨z, ⟨⟩⟩ w4 ⟨hz, h⟩
    dsimp only at hz
    subst hz
    dsimp only
    rw [SplitB_iff]
    refine ⟨fun hc => ?_, fun hc => ?_⟩
    · have hc : t ≠ (k : Int) ∧ d > 0 := of_decide_eq_true hc
      rw [if_pos hc]
      refine NilP.mk ?_
      refine h.loadB 1 0 ⟨_, rfl, rfl⟩ rfl (kd := .int .i64) (x := n.ri) rfl ?_
      rw [wr (by omega)]
      refine NilP.mk ?_
      refine h.storB 1 0 ⟨_, rfl, rfl⟩ rfl rfl rfl ?_
      intro w5 h
      have h : St w0 w5 (woE x :: ndE { n with ri := n.ri - d } :: emE n.e [] :: [.cel c5 33 (spv s)] :: (nodesG (x.N.eraseIdx k) ++ F)) := h
      refine (send_st (x := x) h (by rw [hxb]; omega) ⟨9, (k : Int), t, (0, 0), (0, 0), d, 0⟩).mono ?_
      rintro _ w6 ⟨bs', h⟩
      refine hclose (x' := { x with bag := x.bag ++ [⟨9, (k : Int), t, (0, 0), (0, 0), d, 0⟩], bs := bs' }) (n' := { n with ri := n.ri - d }) h rfl rfl rfl ?_
      have : ({ n with ri := n.ri - d } : Nd).pl = { n.pl with ri := n.ri - d } := rfl
      rw [this, v.npl, hriy, ← v.pl]; rfl
    · have hc : ¬ (t ≠ (k : Int) ∧ d > 0) := of_decide_eq_false hc
      rw [if_neg hc]
      exact hsame h
  · have hk5 : ¬ s.kind = 5 := by simpa using hk5
    rw [if_neg hk5]
    exact hsame h
theorem step_at {c : Int} (h : At w0 F wb nbs X w) (hI : Wi 0 X) (hB : Bd c X) (hc : c ≤ 999999800000) {s : Stp} (hs : s.ok) :
    CallK Try.prog (.tup .nilT) 12 #[.pointer (some ⟨wb, 0, none⟩), .agg #[.int .i64 s.kind, .int .i64 s.who, .int .i64 s.a, .int .i64 s.b, .bool s.all]] w fun (_ : Unit) w' => At w0 F wb nbs (X.step s) w' := by
  have hn := hI.n
  have hwi := wi2_in (x := s.who) (n := (X.N.length : Int)) (by omega)
  obtain ⟨k, hkw⟩ := Int.eq_ofNat_of_zero_le hwi.1
  have hkn : k < X.N.length := by omega
  have hstep : X.step s = X.stepX s k X.N[k] := by
    unfold Wo.step
    have e : (wi2 s.who X.N.length).toNat = k := by omega
    rw [e, List.getElem?_eq_getElem hkn]
  rw [hstep]
  have hy := List.getElem?_eq_getElem hkn
  generalize X.N[k] = y at hy
  have hok := hI.ok k y hy
  have hbag := hB.bag; have hend := hB.ended; have hbeg := hB.begun; have htur := hB.turn
  have hwt := hB.wait k y hy
  have hri := hok.ri; have hhe := hok.he
  obtain ⟨nb, hnb⟩ := nbs_get h hkn
  obtain ⟨x, n, v, hop⟩ := At.openN h hy hnb
  clear h
  have hwbx := v.wb
  subst hwbx
  have h := hop
  clear hop
  have hxb : x.bag = X.bag := by rw [← v.pl]; rfl
  have hlen : X.N.length = x.N.length := by rw [pl_N v.pl]; simp
  have hwf : n.e.wf := by have := hok.wf; rw [← v.npl] at this; exact this
  have hmy : n.e.toMv = y.m := by rw [← v.npl]; rfl
  have hwy : n.wait = y.wait := by rw [← v.npl]; rfl
  refine T12.calls (p1 := spt s) ?_
  unfold T12
  refine h.newB run_boxA rfl ?_
  intro c3 w1 h
  have h : St w0 w1 ([.cel c3 33 (spv s)] :: opW x k n F) := h
  have h := h.ord 4 [1, 2, 3, 0]
  dsimp only [opW, pick, nthO, dropO] at h
  have hnl : x.ns.len = x.N.length := ns_len h
  refine h.drew.readB 3 0 ⟨_, rfl, rfl⟩ rfl (kd := .int .i64) (x := s.who) rfl ?_
  refine NilP.mk ?_
  refine h.drew.readB 0 0 ⟨_, rfl, rfl⟩ rfl (kd := .sl) (x := x.ns) rfl ?_
  rw [hnl]
  refine (within_st h.drew (x := s.who) (n := (x.N.length : Int)) (by omega) hs.who (by omega)).mono ?_
  intro (iv : Int) w2 ⟨hiv, h⟩
  have hik : iv = (k : Int) := by rw [hiv, ← hlen, hkw]
  rw [hik]
  refine nd_at h v.get ?_
  let S : Wm → Nd → World → Prop := fun x' n' w' => St w0 w' (woE x' :: ndE n' :: emE n'.e [] :: [.cel c3 33 (spv s)] :: (nodesG (x.N.eraseIdx k) ++ F))
  have hclose : ∀ {x' : Wm} {n' : Nd} {Z : Wo} {w'}, S x' n' w' → x'.N = x.N → x'.wb = x.wb → n'.nb = n.nb → Z = { x'.pl with N := X.N.set k n'.pl } → At w0 F x.wb nbs Z w' := fun {x' n' Z w'} h hN hw hb hZ => by
    have h := h.ord 4 [0, 1, 2]
    dsimp only [pick, nthO, dropO] at h
    refine At.closeN (x' := x') (n' := n') v ?_ hN hw hb hZ
    rw [opW, hN]; exact h
  have hsame : ∀ {w'}, S x n w' → At w0 F x.wb nbs X w' := fun h => hclose h rfl rfl rfl (by rw [v.pl, v.npl, set_get hy])
  have hbl : x.bs.len = x.bag.length := bs_len h
  have hbl2 : x.bs.len = X.bag.length := by rw [hbl, hxb]
  unfold Wo.stepX
  refine JoinX.mk (fun (z : Bool × Unit) w' => z.1 = decide (s.kind = 2 ∧ 0 < X.bag.length) ∧ S x n w') ?_ ?_
  rotate_left
  · intro k1 hk1
    refine h.loadB 3 0 ⟨_, rfl, rfl⟩ rfl (kd := .int .i64) (x := s.kind) rfl ?_
    rw [SplitB_iff]
    refine ⟨fun hk2 => ?_, fun hk2 => ?_⟩
    · have hk2 : s.kind = 2 := by simpa using hk2
      refine NilP.mk ?_
      refine h.loadB 0 0 ⟨_, rfl, rfl⟩ rfl (kd := .sl) (x := x.bs) rfl ?_
      refine hk1 _ _ ⟨?_, h⟩
      rw [hbl, hxb]
      exact decide_eq_decide.2 ⟨fun h => ⟨hk2, by omega⟩, fun h => by omega⟩
    · have hk2 : ¬ s.kind = 2 := by simpa using hk2
      exact hk1 _ _ ⟨by rw [decide_eq_false (fun hh => hk2 hh.1)], h⟩
  clear h
  rintro ⟨z, ⟨⟩⟩ w3 ⟨hz, h⟩
  dsimp only at hz
  subst hz
  dsimp only
  rw [SplitB_iff]
  refine ⟨fun hc2 => ?_, fun hc2 => ?_⟩
  · have hc2 : s.kind = 2 ∧ 0 < X.bag.length := of_decide_eq_true hc2
    rw [if_pos hc2]
    have hwb := wi2_in (x := s.a) (n := (X.bag.length : Int)) (by omega)
    obtain ⟨j, hj⟩ := Int.eq_ofNat_of_zero_le hwb.1
    have hjt : (wi2 s.a X.bag.length).toNat = j := by omega
    have hjn : j < X.bag.length := by omega
    rw [hjt]
    have hgj := List.getElem?_eq_getElem hjn
    simp only [hgj]
    have htk := take_ok hI hgj
    have hxj : x.bag[j]'(by rw [hxb]; exact hjn) = X.bag[j] := by simp only [hxb]
    have hjx : j < x.bag.length := by rw [hxb]; exact hjn
    generalize X.bag[j] = m at htk hxj
    refine h.drew.readB 3 0 ⟨_, rfl, rfl⟩ rfl (kd := .int .i64) (x := s.a) rfl ?_
    refine NilP.mk ?_
    refine h.drew.readB 0 0 ⟨_, rfl, rfl⟩ rfl (kd := .sl) (x := x.bs) rfl ?_
    rw [hbl, hxb]
    refine (within_st h.drew (x := s.a) (n := (X.bag.length : Int)) (by omega) hs.a (by omega)).mono ?_
    intro (jv : Int) w4 ⟨hjv, h⟩
    have hjj : jv = (j : Int) := by rw [hjv, hj]
    rw [hjj]
    have hrb : ∀ {w' : World} {Z : Grps}, St w0 w' (woE x :: Z) → Rd w' x.bs 9 (x.bag.flatMap mgv) := fun h => h.rd (k := 0) (i := 2) (E := 73) (sz := 9) ⟨_, rfl, rfl⟩
    refine NilP.mk ?_
    refine h.loadB 0 0 ⟨_, rfl, rfl⟩ rfl (kd := .sl) (x := x.bs) rfl ?_
    refine (hrb h).idxK j rfl (by omega) ?_
    intro b0 o0 ha0
    refine (hrb h).elA ha0 (j * 9) rfl (kd := Kd9) (mgt m) (ds := mgv m) (by rw [flat_at mgv_len _ _ hjx, hxj]) ?_
    refine h.newB (NewC.run _) rfl ?_
    intro c7 w5 h
    refine h.storA (P := Try.prog) 0 0 (b := c7) ⟨_, rfl, rfl⟩ (t' := 73) (n := 9) (j := 0) rfl (ds := mgv m) rfl rfl rfl ?_
    intro w6 h
    dsimp only [updG, setO] at h
    have h : St w0 w6 ([.cel c7 73 (mgv m)] :: woE x :: ndE n :: emE n.e [] :: [.cel c3 33 (spv s)] :: (nodesG (x.N.eraseIdx k) ++ F)) := h
    have h := h.ord 2 [1, 0]
    dsimp only [pick, nthO, dropO] at h
    refine NilP.mk ?_
    refine h.loadB 0 0 ⟨_, rfl, rfl⟩ rfl (kd := .sl) (x := x.bs) rfl ?_
    refine RunN.sH j rfl (by have := (hrb h).2.2; omega) ?_
    have hpre := (hrb h).pre (hi := j) (by omega)
    rw [flat_take mgv_len _ _ (by omega)] at hpre
    refine h.appNil hpre (flat_one mgv_one _) (by show j ≤ maxLen; simp only [maxLen]; omega) (by show j * 72 ≤ _; omega) ?_
    intro s1 w7 hs1 h
    have hs1 : s1.len = j := hs1
    refine NilP.mk ?_
    refine h.loadB 1 0 ⟨_, rfl, rfl⟩ rfl (kd := .sl) (x := x.bs) rfl ?_
    rw [wr (x := (j : Int) + 1) (by omega)]
    have hrb2 : Rd w7 x.bs 9 (x.bag.flatMap mgv) := h.rd (k := 1) (i := 2) (E := 73) (sz := 9) ⟨_, rfl, rfl⟩
    refine RunN.sL (j + 1) (by omega) (by omega) ?_
    have hsuf := hrb2.suf (lo := j + 1) (by omega)
    rw [flat_drop mgv_len _ _ (by omega)] at hsuf
    have hsl2 : (subS x.bs (j + 1) x.bs.len 9).len = x.bs.len - (j + 1) := rfl
    refine h.app 0 0 (s := s1) ⟨_, rfl, rfl⟩ hsuf (flat_one mgv_one _) (by rw [hsl2]; simp only [maxLen]; omega) (by rw [hsl2]; omega) ?_
    intro s2 w8 hs2 h
    dsimp only [updG, setO] at h
    rw [← List.flatMap_append] at h
    refine NilP.mk ?_
    refine h.storB 1 0 ⟨_, rfl, rfl⟩ rfl rfl rfl ?_
    intro w9 h
    dsimp only [updG, setO, woE] at h
    have h := h.plug (i := 2) rfl
    dsimp only [setO] at h
    let x1 : Wm := { x with bag := x.bag.take j ++ x.bag.drop (j + 1), bs := s2 }
    have h : St w0 w9 (woE x1 :: [.cel c7 73 (mgv m)] :: ndE n :: emE n.e [] :: [.cel c3 33 (spv s)] :: (nodesG (x.N.eraseIdx k) ++ F)) := h
    refine RunN.of (kd := Kd9) (x := mgt m) (h.run_loadA (k := 1) (i := 0) (b := c7) (t := 73) (cs := mgv m) ⟨_, rfl, rfl⟩ (t' := 73) (n := 9) (j := 0) rfl (vs := mgv m) rfl rfl) ?_
    have h := h.ord 5 [0, 2, 3, 4]
    dsimp only [pick, nthO, dropO] at h
    have hx1 : x1.pl = X.takeOut j := by
      show ({ x.pl with bag := x.bag.take j ++ x.bag.drop (j + 1) } : Wo) = _
      rw [v.pl, hxb]; rfl
    have hat : At w0 F x.wb nbs (X.takeOut j) w9 := hclose (x' := x1) (n' := n) h rfl rfl rfl (by rw [hx1, v.npl, set_get hy]; rfl)
    have hB1 : Bd c (X.takeOut j) := ⟨by
      show ((X.bag.take _ ++ X.bag.drop _).length : Int) ≤ _
      rw [List.length_append, List.length_take, List.length_drop]; omega, hB.begun, hB.ended, hB.turn, hB.wait⟩
    exact comes_at (m := m) hat htk.1 htk.2 hB1 (by omega)
  have hc2 : ¬ (s.kind = 2 ∧ 0 < X.bag.length) := of_decide_eq_false hc2
  rw [if_neg hc2]
  refine h.loadB 3 0 ⟨_, rfl, rfl⟩ rfl (kd := .int .i64) (x := s.kind) rfl ?_
  rw [SplitB_iff]
  refine ⟨fun hk1 => ?_, fun hk1 => ?_⟩
  · have hk1 : s.kind = 1 := by simpa using hk1
    rw [if_pos hk1]
    refine NilP.mk ?_
    refine h.drew.readB 1 0 ⟨_, rfl, rfl⟩ rfl (kd := .sl) (x := n.ws) rfl ?_
    refine h.drew.readB 3 0 ⟨_, rfl, rfl⟩ rfl (kd := .bool) (x := s.all) rfl ?_
    refine h.drew.newS 1 (bs63b _ _) rfl rfl rfl ?_
    intro u w4 hu1 hu2 _ h
    refine ⟨h.stillB 2 0 ⟨_, rfl, rfl⟩ rfl rfl, ?_⟩
    have hwl : n.ws.len = n.wait.length := by
      have := (h.rd (k := 2) (i := 1) (E := 4) (sz := 1) (s := n.ws) (vs := lbo n.wait) ⟨_, rfl, rfl⟩).1
      simp [lbo] at this; omega
    refine h.app 2 1 (s := n.ws) ⟨_, rfl, rfl⟩ (h.rd (k := 0) (i := 0) ⟨_, rfl, rfl⟩) (fun v hv => by simp at hv; subst hv; rfl) (by simp only [maxLen]; rw [hwy] at hwl; omega) (by rw [hwy] at hwl; omega) ?_
    intro s' w5 hs' h
    have h := h.drop 0
    dsimp only [delO, updG, setO, ndE] at h
    refine NilP.mk ?_
    refine h.storB 1 0 ⟨_, rfl, rfl⟩ rfl rfl rfl ?_
    intro w6 h
    let n1 : Nd := { n with ws := s', wait := n.wait ++ [s.all] }
    have e1 : lbo (n.wait ++ [s.all]) = lbo n.wait ++ [.bool s.all] := by simp [lbo]
    have h : S x n1 w6 := by
      show St w0 w6 (woE x :: [.cel n.nb 65 (ndC n1), .row 4 1 s' (lbo (n.wait ++ [s.all]))] :: _)
      rw [e1]; exact h
    have hn1 : n1.pl = { y with wait := y.wait ++ [s.all] } := by
      have : n1.pl = { n.pl with wait := n.wait ++ [s.all] } := rfl
      rw [this, v.npl, hwy]
    refine NilP.mk ?_
    refine h.loadB 1 0 ⟨_, rfl, rfl⟩ rfl (kd := .ptr) (x := n.e.p) rfl ?_
    have h := h.ord 3 [2, 0, 1]
    dsimp only [pick, nthO, dropO] at h
    refine (frozen_st h hwf).mono ?_
    intro (fz : Bool) w7 ⟨hfz, h⟩
    have h := h.ord 3 [1, 2, 0]
    dsimp only [pick, nthO, dropO] at h
    have hfz : fz = someE y.m.top := by rw [hfz, ← hmy]
    have hat : At w0 F x.wb nbs (X.put k { y with wait := y.wait ++ [s.all] }) w7 := hclose (x' := x) (n' := n1) h rfl rfl rfl (by rw [hn1, v.pl]; rfl)
    rw [hfz, SplitB_iff]
    refine ⟨fun hf => ?_, fun hf => ?_⟩
    · have hf : ¬ someE y.m.top = true := by simpa using hf
      rw [if_neg hf]
      have hI1 : Wi 0 (X.put k { y with wait := y.wait ++ [s.all] }) := hI.plain (x' := { y with wait := y.wait ++ [s.all] }) hy rfl hri hhe (fun _ => rfl) (fun _ _ => rfl) rfl rfl rfl rfl hI.wrong rfl (Int.le_refl 0)
      have hB1 : Bd (c + 1) (X.put k { y with wait := y.wait ++ [s.all] }) := (hB.mono (show c ≤ c + 1 by omega)).put (X' := X.put k { y with wait := y.wait ++ [s.all] }) hy rfl (by show ((y.wait ++ [s.all]).length : Int) ≤ _; rw [List.length_append]; simp; omega) (by show (X.bag.length : Int) ≤ _; omega) (by show 0 ≤ X.begun ∧ X.begun ≤ _; omega) (by show 0 ≤ X.ended ∧ X.ended ≤ _; omega) (by show 0 ≤ X.turn ∧ X.turn ≤ _; omega)
      exact settle_at hat hI1 hB1 (by omega) (by simp [Wo.put]; exact hkn)
    · have hf : someE y.m.top = true := by simpa using hf
      rw [if_pos hf]
      exact hat
  have hk1 : ¬ s.kind = 1 := by simpa using hk1
  rw [if_neg hk1]
  refine h.loadB 3 0 ⟨_, rfl, rfl⟩ rfl (kd := .int .i64) (x := s.kind) rfl ?_
  rw [SplitB_iff]
  refine ⟨fun hk6 => ?_, fun hk6 => ?_⟩
  · have hk6 : s.kind = 6 := by simpa using hk6
    rw [if_pos hk6]
    refine NilP.mk ?_
    refine h.loadB 1 0 ⟨_, rfl, rfl⟩ rfl (kd := .ptr) (x := n.e.p) rfl ?_
    have h := h.ord 3 [2, 0, 1]
    dsimp only [pick, nthO, dropO] at h
    refine (own_st h hwf).mono ?_
    rintro _ w4 ⟨rfl, h⟩
    refine h.newB (NewC.run _) rfl ?_
    intro c9 w5 h
    refine h.storA (P := Try.prog) 0 0 (b := c9) ⟨_, rfl, rfl⟩ (t' := 54) (n := 2) (j := 0) rfl (ds := epv n.e.own) rfl rfl rfl ?_
    intro w6 h
    dsimp only [updG, setO] at h
    have h : St w0 w6 ([.cel c9 54 (epv n.e.own)] :: emE n.e [] :: woE x :: ndE n :: [.cel c3 33 (spv s)] :: (nodesG (x.N.eraseIdx k) ++ F)) := h
    refine h.loadB 0 0 ⟨_, rfl, rfl⟩ rfl (kd := .int .i64) (x := n.e.own.1) rfl ?_
    have how : n.e.own = y.m.own := by rw [← hmy]
    have h := h.ord 5 [2, 3, 1, 4]
    dsimp only [pick, nthO, dropO] at h
    have hat := hsame h
    rw [how, SplitB_iff]
    refine ⟨fun hp => ?_, fun hp => ?_⟩
    · have hp : y.m.own.1 > 0 := of_decide_eq_true hp
      rw [if_pos hp]
      have hl : y.m.lv k = true := by
        have := own_live hok.wf
        rw [hok.me] at this
        rcases this with ⟨h, _⟩ | ⟨_, h, _⟩
        · exact h
        · rw [h] at hp; exact absurd hp (by decide)
      refine (finish_at hat hI hy (by omega) (by omega)).mono ?_
      intro _ w7 hat
      exact settle_at hat (hI.fin hy hl) (hB.fin hy hn.2) (by omega) (by rw [fin_len]; exact hkn)
    · have hp : ¬ y.m.own.1 > 0 := of_decide_eq_false hp
      rw [if_neg hp]
      exact hat
  have hk6 : ¬ s.kind = 6 := by simpa using hk6
  rw [if_neg hk6]
  refine JoinX.mk (fun (z : Bool × Unit) w' => z.1 = decide ((3 ≤ s.kind ∧ s.kind ≤ 5) ∧ someE y.m.top = false) ∧ S x n w') ?_ ?_
  rotate_left
  · intro k3 hk3
    refine h.loadB 3 0 ⟨_, rfl, rfl⟩ rfl (kd := .int .i64) (x := s.kind) rfl ?_
    rw [SplitB_iff]
    refine ⟨fun h3 => ?_, fun h3 => ?_⟩
    · have h3 : s.kind ≥ 3 := of_decide_eq_true h3
      refine h.loadB 3 0 ⟨_, rfl, rfl⟩ rfl (kd := .int .i64) (x := s.kind) rfl ?_
      rw [SplitB_iff]
      refine ⟨fun h5 => ?_, fun h5 => ?_⟩
      · have h5 : s.kind ≤ 5 := of_decide_eq_true h5
        refine NilP.mk ?_
        refine h.loadB 1 0 ⟨_, rfl, rfl⟩ rfl (kd := .ptr) (x := n.e.p) rfl ?_
        have h := h.ord 3 [2, 0, 1]
        dsimp only [pick, nthO, dropO] at h
        refine (frozen_st h hwf).mono ?_
        intro (fz : Bool) w7 ⟨hfz, h⟩
        have h := h.ord 3 [1, 2, 0]
        dsimp only [pick, nthO, dropO] at h
        have hfz : fz = someE y.m.top := by rw [hfz, ← hmy]
        refine hk3 _ _ ⟨?_, h⟩
        rw [hfz]
        cases hh : someE y.m.top with
        | true => rw [decide_eq_false (fun hq => by cases hq.2)]; rfl
        | false => rw [decide_eq_true ⟨⟨h3, h5⟩, rfl⟩]; rfl
      · have h5 : ¬ s.kind ≤ 5 := of_decide_eq_false h5
        exact hk3 _ _ ⟨by rw [decide_eq_false (fun hq => h5 hq.1.2)], h⟩
    · have h3 : ¬ s.kind ≥ 3 := of_decide_eq_false h3
      exact hk3 _ _ ⟨by rw [decide_eq_false (fun hq => h3 hq.1.1)], h⟩
  clear h
  rintro ⟨z, ⟨⟩⟩ w4 ⟨hz, h⟩
  dsimp only at hz
  subst hz
  dsimp only
  rw [SplitB_iff]
  refine ⟨fun hg => ?_, fun hg => ?_⟩
  · have hg : (3 ≤ s.kind ∧ s.kind ≤ 5) ∧ someE y.m.top = false := of_decide_eq_true hg
    rw [if_pos hg]
    refine RunN.of (kd := Kd5) (x := spt s) (h.run_loadA (k := 3) (i := 0) (b := c3) (t := 33) (cs := spv s) ⟨_, rfl, rfl⟩ (t' := 33) (n := 5) (j := 0) rfl (vs := spv s) rfl rfl) ?_
    exact moves_at (s := s) (hsame h) hI hy (by omega) hs
  · have hg : ¬ ((3 ≤ s.kind ∧ s.kind ≤ 5) ∧ someE y.m.top = false) := of_decide_eq_false hg
    rw [if_neg hg]
    exact hsame h
end Go.Proofs.Ytmfbmfppjdkeeaa

/- The document's first answers, of the program's machine. -/
namespace Go.Proofs.Ytmfbmfppjdkeeaa
open Go Go.Fw Go.RowKit
set_option linter.unusedVariables false
set_option linter.unusedSimpArgs false
set_option maxRecDepth 4000
set_option maxHeartbeats 4000000
variable {w0 w : World} {F G : Grps}
/-! ### the document's first answers -/
def ab1 : Mv := ((mv0 1 3).begin_ 10 4 0 false).2.2
theorem ab_acts : ((mv0 1 3).begin_ 10 4 0 false).1 = [(1, -1, 1, 1, 0, 0)] := by decide +kernel
theorem ab_err : ((mv0 1 3).begin_ 10 4 0 false).2.1 = 0 := by decide +kernel
theorem ab_look : ab1.look 10 10 0 = [(4, 1, 1, 1, 0, 0)] := by decide +kernel
theorem ab_top : someE ab1.top = true := by decide +kernel
theorem able_st (h : St w0 w F) : CallK Try.prog .bool 11 #[] w fun (v : Bool) w' => v = true ∧ St w0 w' F := by
  refine T11.calls ?_
  unfold T11
  refine (new_st h 1 3).mono ?_
  rintro _ w1 (⟨h0, _⟩ | ⟨_, e, rfl, h1, h2, h3, hw, h⟩)
  · exact absurd (by decide) h0
  have h1 : e.me = 1 := by omega
  have h2 : e.n = 3 := by omega
  rw [h1, h2] at h3
  refine JoinX.mk (fun (y : Bool × Unit) w' => y.1 = false ∧ St w0 w' (emE e [] :: F)) ?_ ?_
  · rintro ⟨y, ⟨⟩⟩ w2 ⟨hy, h⟩
    dsimp only at hy
    subst hy
    rw [SplitB_iff]
    refine ⟨fun hf => (by cases hf), fun _ => ?_⟩
    refine (begin_st h hw 10 4 0 false).mono ?_
    rintro _ w3 ⟨s, e1, rfl, g1, g2, g3, h⟩
    rw [h3] at g2 g3 h
    rw [h3, ab_err]
    rw [ab_acts] at g3 h
    have hw1 : e1.wf := by rw [g2]; exact wf_begin (wf_mv0 (by omega) (by omega)) _ _ _ _
    have hp : e.p = e1.p := by show some _ = some _; rw [g1]
    have hs : s.len = 1 := g3
    have hrd : ∀ {w' : World}, St w0 w' ([.row 70 6 s (acs [(1, -1, 1, 1, 0, 0)])] :: emE e1 [] :: F) → Rd w' s 6 (acs [(1, -1, 1, 1, 0, 0)]) := fun h => h.rd (k := 0) (i := 0) (E := 70) (sz := 6) (s := s) ⟨_, rfl, rfl⟩
    refine JoinX.mk (fun (y : Bool × Unit) w' => y.1 = false ∧ St w0 w' ([.row 70 6 s (acs [(1, -1, 1, 1, 0, 0)])] :: emE e1 [] :: F)) ?_ ?_
    · rintro ⟨y, ⟨⟩⟩ w4 ⟨hy, h⟩
      dsimp only at hy
      subst hy
      rw [SplitB_iff]
      refine ⟨fun hf => (by cases hf), fun _ => ?_⟩
      have h := h.drop 0
      rw [hp]
      refine (look_st h hw1 10 10 0).mono ?_
      rintro s2 w5 ⟨e2, k1, k2, k3, h⟩
      have g2 : e1.toMv = ab1 := g2
      rw [g2, ab_look] at k3 h
      rw [SplitB_iff]
      refine ⟨fun _ => ?_, fun hf => ?_⟩
      · have hs2 : s2.len = 1 := k3
        have hrd2 := h.rd (k := 0) (i := 0) (E := 70) (sz := 6) (s := s2) ⟨_, rfl, rfl⟩
        refine hrd2.idxK 0 rfl (by omega) ?_
        intro g o ha
        refine hrd2.el ha 0 (add_lit' _ _ _) (kd := .int .i64) (x := 4) rfl ?_
        rw [SplitB_iff]
        refine ⟨fun _ => ?_, fun hf => (by cases hf)⟩
        have h := h.drop 0
        have hp2 : e1.p = e2.p := by show some _ = some _; rw [k1]
        rw [hp2]
        refine (frozen_st h (by rw [k2]; exact hw1)).mono ?_
        rintro _ w6 ⟨rfl, h⟩
        rw [k2, g2, ab_top]
        exact ⟨rfl, h.drop 0⟩
      · exfalso
        have : ¬ (s2.len : Int) = 1 := by simpa using hf
        have : s2.len = 1 := k3
        omega
    · intro k3 hk3
      rw [SplitB_iff]
      refine ⟨fun hf => (by cases hf), fun _ => ?_⟩
      dsimp only
      rw [SplitB_iff]
      refine ⟨fun hf => ?_, fun _ => ?_⟩
      · exfalso
        have : (s.len : Int) ≠ 1 := by simpa using hf
        omega
      refine (hrd h).idxK 0 rfl (by omega) ?_
      intro g o ha
      refine (hrd h).el ha 0 (add_lit' _ _ _) (kd := .int .i64) (x := 1) rfl ?_
      rw [SplitB_iff]
      refine ⟨fun hf => (by cases hf), fun _ => ?_⟩
      refine (hrd h).idxK 0 rfl (by omega) ?_
      intro g o ha
      refine (hrd h).el ha 1 (add_lit' _ _ _) (kd := .int .i64) (x := -1) rfl ?_
      rw [SplitB_iff]
      refine ⟨fun hf => (by cases hf), fun _ => ?_⟩
      refine (hrd h).idxK 0 rfl (by omega) ?_
      intro g o ha
      refine (hrd h).elA ha 2 (add_lit' _ _ _) (kd := Kd2) (1, 1, ()) rfl ?_
      refine RunN.k2Ne ?_
      exact hk3 _ _ ⟨rfl, h⟩
  · intro k1 hk1
    refine RunN.pEqS ?_
    rw [SplitB_iff]
    refine ⟨fun hf => (by cases hf), fun _ => ?_⟩
    exact hk1 _ _ ⟨rfl, h⟩
end Go.Proofs.Ytmfbmfppjdkeeaa

/- The world of epochs in memory: the sums; how it begins; EpochGathers. -/
namespace Go.Proofs.Ytmfbmfppjdkeeaa
open Go Go.Fw Go.RowKit
set_option linter.unusedVariables false
set_option linter.unusedSimpArgs false
set_option maxRecDepth 4000
set_option maxHeartbeats 8000000
variable {W w0 w : World} {F G : Grps} {wb : Nat} {nbs : List Nat} {X : Wo} {k : Nat} {y : No}

instance : Et Try.prog 27 33 5 40 := ⟨ET.of (by kernel_rfl), by decide⟩
theorem rsum_app (a b : List No) : rsum (a ++ b) = rsum a + rsum b := by simp [rsum]
theorem rsum_take {l : List No} {j : Nat} (hj : j < l.length) : rsum (l.take (j + 1)) = rsum (l.take j) + (l[j].ri + l[j].he) := by
  rw [List.take_succ_eq_append_getElem hj, rsum_app]; simp [rsum]
theorem bsum_take {l : List Ms} {j : Nat} (hj : j < l.length) : bsum (l.take (j + 1)) = bsum (l.take j) + l[j].ri := by
  rw [List.take_succ_eq_append_getElem hj, bsum_app]; simp [bsum]
theorem rsum_nn {l : List No} (h : ∀ x ∈ l, 0 ≤ x.ri ∧ 0 ≤ x.he) : 0 ≤ rsum l := sum_nonneg fun z hz => by
  obtain ⟨x, hx, rfl⟩ := List.mem_map.1 hz
  have := h x hx; omega
theorem bsum_nn {l : List Ms} (h : ∀ x ∈ l, 0 ≤ x.ri) : 0 ≤ bsum l := sum_nonneg fun z hz => by
  obtain ⟨x, hx, rfl⟩ := List.mem_map.1 hz
  exact h x hx
theorem part_bound (hI : Wi 0 X) (j i : Nat) : 0 ≤ rsum (X.N.take j) + bsum (X.bag.take i) ∧ rsum (X.N.take j) + bsum (X.bag.take i) ≤ 30 ∧ 0 ≤ rsum (X.N.take j) ∧ rsum (X.N.take j) ≤ 30 := by
  have hN : ∀ x ∈ X.N, 0 ≤ x.ri ∧ 0 ≤ x.he := fun x hx => by
    obtain ⟨q, hq, rfl⟩ := List.mem_iff_getElem.1 hx
    have := hI.ok q _ (List.getElem?_eq_getElem hq)
    exact ⟨this.ri, this.he⟩
  have hb : ∀ m ∈ X.bag, 0 ≤ m.ri := fun m hm => (hI.bag m hm).ri
  have h1 := rsum_nn (l := X.N.take j) fun x hx => hN x (List.mem_of_mem_take hx)
  have h2 := rsum_nn (l := X.N.drop j) fun x hx => hN x (List.mem_of_mem_drop hx)
  have h3 := bsum_nn (l := X.bag.take i) fun x hx => hb x (List.mem_of_mem_take hx)
  have h4 := bsum_nn (l := X.bag.drop i) fun x hx => hb x (List.mem_of_mem_drop hx)
  have h5 : rsum X.N = rsum (X.N.take j) + rsum (X.N.drop j) := by rw [← rsum_app, List.take_append_drop]
  have h6 : bsum X.bag = bsum (X.bag.take i) + bsum (X.bag.drop i) := by rw [← bsum_app, List.take_append_drop]
  have h7 := hI.sum; have h8 := hI.lim
  omega
theorem conserved_st (h : At w0 F wb nbs X w) (hI : Wi 0 X) (hb : X.bag.length ≤ 999999990000) : CallK Try.prog .bool 13 #[.pointer (some ⟨wb, 0, none⟩)] w fun (v : Bool) w' => v = true ∧ At w0 F wb nbs X w' := by
  obtain ⟨x, hwb, hnb, hpl, h⟩ := h
  subst hwb
  have hXN := pl_N hpl
  have hlen : X.N.length = x.N.length := by rw [hXN]; simp
  have hn5 := hI.n
  have hbag : X.bag = x.bag := by rw [← hpl]; rfl
  refine T13.calls ?_
  unfold T13
  refine LoopX.mk (fun st w' => ∃ j : Nat, st = (rsum (X.N.take j), (j : Int), ()) ∧ j ≤ X.N.length ∧ St w0 w' (stW x F)) (fun st => X.N.length - st.2.1.toNat) ⟨0, rfl, Nat.zero_le _, h⟩ ?_
  clear h
  rintro _ w1 ⟨j, rfl, hj, h⟩ k2 hk2
  dsimp only at hk2 ⊢
  have hnl : x.ns.len = x.N.length := ns_len h
  refine NilP.mk ?_
  refine h.loadB 0 0 ⟨_, rfl, rfl⟩ rfl (kd := .sl) (x := x.ns) rfl ?_
  rw [SplitB_iff]
  refine ⟨fun hc => ?_, fun hc => ?_⟩
  · have hc : j < X.N.length := by have : (j : Int) < (x.ns.len : Int) := of_decide_eq_true hc
                                   omega
    have hem : IntKind.i64.wrap ((j : Int) + 1) = ((j + 1 : Nat) : Int) := by rw [wr (by omega)]; omega
    rw [hem]
    have hjx : j < x.N.length := by omega
    have hn := List.getElem?_eq_getElem hjx
    have ho := St.openN h.drew hn
    have ho2 := St.openN h hn
    have hXj : X.N[j] = x.N[j].pl := by simp only [hXN, List.getElem_map]
    have hok := hI.ok j _ (List.getElem?_eq_getElem hc)
    have hri := hok.ri; have hhe := hok.he
    have hts := rsum_take hc
    have hp1 := part_bound hI j 0
    have hp2 := part_bound hI (j + 1) 0
    rw [hXj] at hri hhe hts
    have hri : 0 ≤ x.N[j].ri := hri
    have hhe : 0 ≤ x.N[j].he := hhe
    have hts : rsum (X.N.take (j + 1)) = rsum (X.N.take j) + (x.N[j].ri + x.N[j].he) := hts
    have hnr := h.drew.rd (k := 0) (i := 1) (E := 62) (sz := 1) (s := x.ns) (vs := x.N.map ndp) ⟨_, rfl, rfl⟩
    have hnat : (x.N.map ndp)[j * 1]? = some (.pointer x.N[j].p) := by rw [Nat.mul_one, List.getElem?_map, hn]; rfl
    refine NilP.mk ?_
    refine h.drew.readB 0 0 ⟨_, rfl, rfl⟩ rfl (kd := .sl) (x := x.ns) rfl ?_
    refine hnr.idxR j rfl (by omega) ?_
    intro b1 o1 ha1
    refine hnr.elR ha1 (j * 1) rfl (kd := .ptr) (x := x.N[j].p) hnat ?_
    refine NilP.mk ?_
    refine ho.readB 1 0 ⟨_, rfl, rfl⟩ rfl (kd := .int .i64) (x := x.N[j].ri) rfl ?_
    refine NilP.mk ?_
    refine h.drew.readB 0 0 ⟨_, rfl, rfl⟩ rfl (kd := .sl) (x := x.ns) rfl ?_
    refine hnr.idxR j rfl (by omega) ?_
    intro b2 o2 ha2
    refine hnr.elR ha2 (j * 1) rfl (kd := .ptr) (x := x.N[j].p) hnat ?_
    refine NilP.mk ?_
    refine ho.readB 1 0 ⟨_, rfl, rfl⟩ rfl (kd := .int .i64) (x := x.N[j].he) rfl ?_
    rw [wr (x := x.N[j].ri + x.N[j].he) (by omega), wr (by omega), ← hts]
    refine JoinX.mk (fun (z : Bool × Unit) w' => z.1 = false ∧ St w0 w' (stW x F)) ?_ ?_
    · rintro ⟨z, ⟨⟩⟩ w2 ⟨hz, h⟩
      dsimp only at hz
      subst hz
      rw [SplitB_iff]
      exact ⟨fun hf => (by cases hf), fun _ => hk2 _ _ ⟨j + 1, rfl, by omega, h⟩ (by dsimp only; omega)⟩
    intro k3 hk3
    refine nd_at h.drew hn ?_
    refine NilP.mk ?_
    refine ho.loadB 1 0 ⟨_, rfl, rfl⟩ rfl (kd := .int .i64) (x := x.N[j].ri) rfl ?_
    rw [SplitB_iff]
    refine ⟨fun hf => ?_, fun _ => ?_⟩
    · have : x.N[j].ri < 0 := of_decide_eq_true hf
      omega
    refine nd_at h.drew hn ?_
    refine NilP.mk ?_
    refine ho.loadB 1 0 ⟨_, rfl, rfl⟩ rfl (kd := .int .i64) (x := x.N[j].he) rfl ?_
    refine hk3 _ _ ⟨?_, h.drew⟩
    show decide (x.N[j].he < 0) = false
    exact decide_eq_false (by omega)
  · have hc : j = X.N.length := by have : ¬ (j : Int) < (x.ns.len : Int) := of_decide_eq_false hc
                                   omega
    subst hc
    clear hk2
    have hbl : x.bs.len = x.bag.length := bs_len h
    rw [List.take_length]
    refine LoopX.mk (fun st w' => ∃ j : Nat, st = (rsum X.N + bsum (X.bag.take j), (j : Int), ()) ∧ j ≤ X.bag.length ∧ St w0 w' (stW x F)) (fun st => X.bag.length - st.2.1.toNat) ⟨0, by simp [bsum], Nat.zero_le _, h⟩ ?_
    clear h
    rintro _ w2 ⟨j, rfl, hj, h⟩ k6 hk6
    dsimp only at hk6 ⊢
    refine NilP.mk ?_
    refine h.loadB 0 0 ⟨_, rfl, rfl⟩ rfl (kd := .sl) (x := x.bs) rfl ?_
    have hbl2 : x.bs.len = X.bag.length := by rw [hbl, hbag]
    rw [SplitB_iff]
    refine ⟨fun hc => ?_, fun hc => ?_⟩
    · have hc : j < X.bag.length := by have : (j : Int) < (x.bs.len : Int) := of_decide_eq_true hc
                                       omega
      have hem : IntKind.i64.wrap ((j : Int) + 1) = ((j + 1 : Nat) : Int) := by rw [wr (by omega)]; omega
      rw [hem]
      have hcx : j < x.bag.length := by rw [← hbag]; exact hc
      have hr := h.rd (k := 0) (i := 2) (E := 73) (sz := 9) (s := x.bs) (vs := x.bag.flatMap mgv) ⟨_, rfl, rfl⟩
      have hp1 := part_bound hI X.N.length j
      have hp2 := part_bound hI X.N.length (j + 1)
      rw [List.take_length] at hp1 hp2
      have hts := bsum_take hc
      have hxj : X.bag[j].ri = x.bag[j].ri := by simp only [hbag]
      rw [hxj] at hts
      refine NilP.mk ?_
      refine h.loadB 0 0 ⟨_, rfl, rfl⟩ rfl (kd := .sl) (x := x.bs) rfl ?_
      refine hr.idxK j rfl (by omega) ?_
      intro b0 o0 ha
      refine hr.el ha (j * 9 + 7) (by rw [add_lit', Nat.add_assoc]) (kd := .int .i64) (x := x.bag[j].ri) (by rw [flat_cell mgv_len hcx 7 (by decide)]; rfl) ?_
      rw [wr (by omega)]
      refine hk6 _ _ ⟨j + 1, ?_, by omega, h⟩ (by dsimp only; omega)
      rw [hts, Int.add_assoc]
    · have hc : j = X.bag.length := by have : ¬ (j : Int) < (x.bs.len : Int) := of_decide_eq_false hc
                                       omega
      subst hc
      rw [List.take_length]
      refine NilP.mk ?_
      refine h.loadB 0 0 ⟨_, rfl, rfl⟩ rfl (kd := .int .i64) (x := x.lim) rfl ?_
      have hs := hI.sum
      have hl : X.lim = x.lim := by rw [← hpl]; rfl
      exact ⟨by simp; omega, x, rfl, hnb, hpl, h⟩
/-- How a world begins. -/
structure Start (X : Wo) : Prop where
  n : 2 ≤ X.N.length ∧ X.N.length ≤ 5
  nodes : ∀ (j : Nat) (x : No), X.N[j]? = some x → x.m = mv0 j X.N.length ∧ (0 ≤ x.ri ∧ x.ri ≤ 6) ∧ x.he = 0 ∧ x.wait = [] ∧ x.own = false ∧ x.y = (0, 0) ∧ x.told = false
  bag : X.bag = []
  lim : X.lim = rsum X.N ∧ 1 ≤ X.lim
  begun : X.begun = 0
  ended : X.ended = 0
  turn : X.turn = 0
  wrong : X.wrong = false
theorem gI_rep (n : Nat) (v : Int) (i : Nat) (h : i < n) : gI (List.replicate n v) i = v := by rw [gI, List.getElem?_replicate, if_pos h]; rfl
theorem gI_zero (n : Nat) (i : Nat) : gI (List.replicate n 0) i = 0 := by
  rw [gI, List.getElem?_replicate]; split <;> rfl
theorem Start.wi (h : Start X) : Wi 0 X := by
  have hno : ∀ (j : Nat) (x : No), X.N[j]? = some x → (∀ i, gI x.m.kn i = 0) ∧ (∀ i, gI x.m.fi i = 0) := fun j x hx => by
    rw [(h.nodes j x hx).1]
    exact ⟨fun i => gI_zero 16 i, fun i => gI_zero 16 i⟩
  have hlv : ∀ (j : Nat) (x : No), X.N[j]? = some x → ∀ i, x.m.lv i = false := fun j x hx i => lv_no.2 (by rw [(hno j x hx).1, (hno j x hx).2]; exact Int.le_refl _)
  have hrs : rsum X.N ≤ 30 := by
    have : ∀ (l : List No), (∀ x ∈ l, x.ri ≤ 6 ∧ x.he = 0) → rsum l ≤ 6 * l.length := by
      intro l
      induction l with
      | nil => intro _; simp [rsum]
      | cons a r ih =>
        intro hl
        have h1 := hl a (List.mem_cons_self ..)
        have h2 := ih fun x hx => hl x (List.mem_cons_of_mem _ hx)
        have e : rsum (a :: r) = (a.ri + a.he) + rsum r := by simp [rsum]
        rw [e, List.length_cons]; omega
    have h1 := this X.N fun x hx => by
      obtain ⟨j, hj, rfl⟩ := List.mem_iff_getElem.1 hx
      have h2 := h.nodes j _ (List.getElem?_eq_getElem hj)
      exact ⟨h2.2.1.2, h2.2.2.1⟩
    have := h.n; omega
  have hl := h.lim
  refine ⟨h.n, by omega, fun j x hx => ?_, fun i x j y hx hy => ?_, fun i x j y hx hy => ?_, fun i x f hx _ _ hlv' => ?_, fun m hm => ?_, ?_, Int.le_refl 0, h.wrong⟩
  · obtain ⟨h1, h2, h3, h4, h5, h6, h7⟩ := h.nodes j x hx
    have hj := get_lt hx
    have hn := h.n
    refine ⟨by rw [h1]; exact wf_mv0 (by omega) hj, by rw [h1]; rfl, by rw [h1]; rfl, h2.1, by rw [h3]; exact Int.le_refl 0, fun z hz => ?_, fun i => ?_, fun hq => ?_, fun hq => ?_, fun hq => ?_⟩
    · rw [h1] at hz
      have := (List.mem_replicate.1 hz).2
      rw [h.begun]; omega
    · rw [(hno j x hx).1, (hno j x hx).2]; exact Int.le_refl 0
    · rw [hlv j x hx] at hq; cases hq
    · rw [hlv j x hx] at hq; cases hq
    · rw [hlv j x hx] at hq; cases hq
  · rw [(hno i x hx).1, (hno j y hy).1]; exact Int.le_refl 0
  · rw [(hno i x hx).2, (hno j y hy).2]; exact Int.le_refl 0
  · rw [hlv i x hx] at hlv'; cases hlv'
  · rw [h.bag] at hm; cases hm
  · rw [h.bag, hl.1]; simp [bsum]
theorem Start.bd (h : Start X) : Bd 0 X := by
  refine ⟨by rw [h.bag]; exact Int.le_refl 0, by rw [h.begun]; omega, by rw [h.ended]; omega, by rw [h.turn]; omega, fun k x hx => ?_⟩
  rw [(h.nodes k x hx).2.2.2.1]; exact Int.le_refl 0
end Go.Proofs.Ytmfbmfppjdkeeaa

/- The world of epochs in memory: how it is made; EpochGathers. -/
namespace Go.Proofs.Ytmfbmfppjdkeeaa
open Go Go.Fw Go.RowKit
set_option linter.unusedVariables false
set_option linter.unusedSimpArgs false
set_option maxRecDepth 4000
set_option maxHeartbeats 8000000
variable {W w0 w : World} {F G : Grps} {wb : Nat} {nbs : List Nat} {X : Wo} {k : Nat} {y : No}

theorem nodesG_snoc (N : List Nd) (n : Nd) : nodesG (N ++ [n]) = nodesG N ++ [ndE n, emE n.e []] := by simp [nodesG]
def fresh0 (n j : Nat) (r : Int) : No := ⟨mv0 j n, r, 0, [], false, (0, 0), false⟩
theorem made_st (h : St w0 w F) {s : Sl} {L : List Int} (hs : Rd w0 s 1 (lin L)) (hL : ∀ v ∈ L, -9223372036854775808 ≤ v ∧ v ≤ 9223372036854775807) {p0 : Int} (r0 : -9223372036854775808 ≤ p0 ∧ p0 ≤ 9223372036854775807) :
    CallK Try.prog .ptr 10 #[.int .i64 p0, .slice s.a s.len s.cap] w fun (r : Option Addr) w' => ∃ wb nbs X, r = some ⟨wb, 0, none⟩ ∧ Start X ∧ At w0 F wb nbs X w' := by
  have hsl : s.len = L.length := by have := hs.1; rw [lin_len] at this; omega
  refine T10.calls ?_
  unfold T10
  refine (within_st h (x := p0) (n := 4) (by decide) r0 (by decide)).mono ?_
  intro (q : Int) w1 ⟨hq, h⟩
  have hq4 := wi2_in (x := p0) (n := 4) (by decide)
  rw [← hq] at hq4
  obtain ⟨n, hn⟩ : ∃ n : Nat, (n : Int) = 2 + q := ⟨(2 + q).toNat, by omega⟩
  have hn5 : 2 ≤ n ∧ n ≤ 5 := by omega
  have hw2 : IntKind.i64.wrap (2 + q) = (n : Int) := by rw [wr (by omega)]; omega
  rw [hw2]
  refine h.newB run_boxA rfl ?_
  intro wb w2 h
  have h := (h.nilrow 73 9).nilrow 62 1
  let x0 : Wm := ⟨[], ⟨none, 0, 0⟩, [], ⟨none, 0, 0⟩, 0, 0, 0, 0, false, wb⟩
  have h : St w0 w2 (stW x0 F) := h.perm (by
    show (List.flatten ([Ent.row 62 1 ⟨none, 0, 0⟩ []] :: [Ent.row 73 9 ⟨none, 0, 0⟩ []] :: [Ent.cel wb 37 (woC x0)] :: F)).Perm (List.flatten ([Ent.cel wb 37 (woC x0), .row 62 1 ⟨none, 0, 0⟩ [], .row 73 9 ⟨none, 0, 0⟩ []] :: ([] ++ F)))
    simp only [List.flatten_cons, List.nil_append, List.cons_append, List.singleton_append]
    exact (List.Perm.swap _ _ _).trans ((List.Perm.cons _ (.swap _ _ _)).trans ((List.Perm.swap _ _ _).trans (.cons _ (.swap _ _ _)))))
  refine LoopX.mk (fun st w' => ∃ (i : Nat) (x : Wm), st = ((i : Int), ()) ∧ i ≤ n ∧ x.wb = wb ∧ x.N.length = i ∧ (∀ (j : Nat) (nd : Nd), x.N[j]? = some nd → ∃ r, nd.pl = fresh0 n j r ∧ 0 ≤ r ∧ r ≤ 6) ∧ x.bag = [] ∧ x.lim = rsum (x.N.map Nd.pl) ∧ (0 ≤ x.lim ∧ x.lim ≤ 6 * i) ∧ x.begun = 0 ∧ x.ended = 0 ∧ x.turn = 0 ∧ x.wrong = false ∧ St w0 w' (stW x F)) (fun st => n - st.1.toNat)
    ⟨0, x0, rfl, Nat.zero_le _, rfl, rfl, fun j nd hj => by simp [x0] at hj, rfl, rfl, ⟨Int.le_refl 0, Int.le_refl 0⟩, rfl, rfl, rfl, rfl, h⟩ ?_
  clear h
  rintro _ w3 ⟨i, x, rfl, hi, hwb, hxl, hnd, hbag, hlim, hlb, hbg, hen, htu, hwr, hst⟩ k2 hk2
  dsimp only at hk2 ⊢
  subst hwb
  have h := hst
  clear hst
  rw [SplitB_iff]
  refine ⟨fun hc => ?_, fun hc => ?_⟩
  · have hc : i < n := by have : (i : Int) < (n : Int) := of_decide_eq_true hc
                          omega
    have hem : IntKind.i64.wrap ((i : Int) + 1) = ((i + 1 : Nat) : Int) := by rw [wr (by omega)]; omega
    rw [hem]
    have hE : newE (i : Int) (n : Int) = 0 := by rw [newE, if_neg (by omega), if_neg (by omega)]
    refine (new_st h (i : Int) (n : Int)).mono ?_
    rintro r w4 (⟨hne, _⟩ | ⟨_, e, rfl, hme, hnn, hmv, hwf, h⟩)
    · exact absurd hE hne
    have hme : e.me = i := by omega
    have hnn : e.n = n := by omega
    refine JoinX.mk (fun (z : Bool × Unit) w' => z.1 = false ∧ St w0 w' (emE e [] :: stW x F)) ?_ ?_
    rotate_left
    · intro k3 hk3
      refine RunN.pEqS ?_
      rw [SplitB_iff]
      exact ⟨fun hf => (by cases hf), fun _ => hk3 _ _ ⟨rfl, h⟩⟩
    clear h
    rintro ⟨z, ⟨⟩⟩ w5 ⟨hz, h⟩
    dsimp only at hz
    subst hz
    rw [SplitB_iff]
    refine ⟨fun hf => (by cases hf), fun _ => ?_⟩
    refine h.newB run_boxA rfl ?_
    intro nb w6 h
    let nd : Int → Nd := fun r => ⟨e, r, 0, ⟨none, 0, 0⟩, [], false, (0, 0), false, nb⟩
    have h : St w0 w6 ([.cel nb 65 (ndC (nd 0))] :: emE e [] :: stW x F) := h
    refine JoinX.mk (fun (_ : Unit) w' => ∃ r, 0 ≤ r ∧ r ≤ 6 ∧ St w0 w' ([.cel nb 65 (ndC (nd r))] :: emE e [] :: stW x F)) ?_ ?_
    rotate_left
    · intro k5 hk5
      rw [SplitB_iff]
      refine ⟨fun hir => ?_, fun _ => hk5 _ _ ⟨0, by omega, by omega, h⟩⟩
      have hir : i < L.length := by have : (i : Int) < (s.len : Int) := of_decide_eq_true hir
                                    omega
      have hsr := h.old hs
      refine hsr.idxK i rfl (by omega) ?_
      intro b0 o0 ha0
      refine hsr.el ha0 (i * 1) rfl (kd := .int .i64) (x := L[i]) (by rw [Nat.mul_one]; exact lin_at hir) ?_
      refine (within_st h (x := L[i]) (n := 7) (by decide) (hL _ (List.getElem_mem hir)) (by decide)).mono ?_
      intro (r : Int) w7 ⟨hr, h⟩
      have hr7 := wi2_in (x := L[i]) (n := 7) (by decide)
      rw [← hr] at hr7
      refine h.storB 0 0 ⟨_, rfl, rfl⟩ rfl rfl rfl ?_
      intro w8 h
      exact hk5 _ _ ⟨r, by omega, by omega, h⟩
    clear h
    rintro ⟨⟩ w7 ⟨r, hr0, hr6, h⟩
    dsimp only [stW] at h
    have hnl : x.ns.len = x.N.length := by
      have := (h.rd (k := 2) (i := 1) (E := 62) (sz := 1) (s := x.ns) (vs := x.N.map ndp) ⟨_, rfl, rfl⟩).1
      rw [List.length_map] at this; omega
    refine h.loadB 2 0 ⟨_, rfl, rfl⟩ rfl (kd := .sl) (x := x.ns) rfl ?_
    refine h.newS 1 (bs34p _ _) rfl rfl rfl ?_
    intro u w8 hu1 hu2 _ h
    refine h.app 3 1 (s := x.ns) ⟨_, rfl, rfl⟩ (h.rd (k := 0) (i := 0) ⟨_, rfl, rfl⟩) (fun v hv => by simp at hv; subst hv; rfl) (by simp only [maxLen]; omega) (by omega) ?_
    intro ns' w9 hns' h
    have h := h.drop 0
    dsimp only [delO, updG, setO, woE] at h
    refine h.storB 2 0 ⟨_, rfl, rfl⟩ rfl rfl rfl ?_
    intro w10 h
    dsimp only [updG, setO] at h
    refine h.drew.readB 2 0 ⟨_, rfl, rfl⟩ rfl (kd := .int .i64) (x := x.lim) rfl ?_
    refine h.drew.readB 0 0 ⟨_, rfl, rfl⟩ rfl (kd := .int .i64) (x := r) rfl ?_
    rw [wr (by omega)]
    refine h.drew.storB 2 0 ⟨_, rfl, rfl⟩ rfl rfl rfl ?_
    intro w11 h
    dsimp only [updG, setO] at h
    have h := h.nilrow 4 1
    let x1 : Wm := { x with N := x.N ++ [nd r], ns := ns', lim := x.lim + r }
    have hp : (x.N ++ [nd r]).map ndp = x.N.map ndp ++ [.pointer (some ⟨nb, 0, none⟩)] := by rw [List.map_append]; rfl
    have h : St w0 w11 ([.row 4 1 ⟨none, 0, 0⟩ []] :: [.cel nb 65 (ndC (nd r))] :: emE e [] :: woE x1 :: (nodesG x.N ++ F)) := by
      have e1 : woE x1 = [.cel x.wb 37 (woC x1), .row 62 1 ns' (x.N.map ndp ++ [.pointer (some ⟨nb, 0, none⟩)]), .row 73 9 x.bs (x.bag.flatMap mgv)] := by rw [← hp]; rfl
      rw [e1]; exact h
    have h : St w0 w11 (stW x1 F) := h.perm (by
      show (List.flatten ([Ent.row 4 1 ⟨none, 0, 0⟩ []] :: [Ent.cel nb 65 (ndC (nd r))] :: emE e [] :: woE x1 :: (nodesG x.N ++ F))).Perm (List.flatten (woE x1 :: (nodesG (x.N ++ [nd r]) ++ F)))
      rw [nodesG_snoc]
      simp only [List.flatten_cons, List.flatten_append, List.flatten_nil, List.append_nil, List.append_assoc]
      have e2 : ndE (nd r) = [Ent.cel nb 65 (ndC (nd r)), .row 4 1 ⟨none, 0, 0⟩ []] := rfl
      have e3 : emE (nd r).e [] = emE e [] := rfl
      rw [e2, e3]
      have P1 : ([Ent.row 4 1 ⟨none, 0, 0⟩ []] ++ ([Ent.cel nb 65 (ndC (nd r))] ++ (emE e [] ++ (woE x1 ++ ((nodesG x.N).flatten ++ F.flatten))))).Perm ([Ent.cel nb 65 (ndC (nd r)), .row 4 1 ⟨none, 0, 0⟩ []] ++ (emE e [] ++ (woE x1 ++ ((nodesG x.N).flatten ++ F.flatten)))) := List.Perm.swap _ _ _
      refine P1.trans ?_
      generalize [Ent.cel nb 65 (ndC (nd r)), .row 4 1 ⟨none, 0, 0⟩ []] = a
      generalize emE e [] = b
      generalize woE x1 = c
      generalize (nodesG x.N).flatten = d
      generalize F.flatten = f
      have h1 : a ++ (b ++ (c ++ (d ++ f))) = (a ++ b) ++ (c ++ d) ++ f := by simp
      have h2 : c ++ (d ++ (a ++ (b ++ f))) = (c ++ d) ++ (a ++ b) ++ f := by simp
      rw [h1, h2]
      exact List.perm_append_comm.append_right _)
    have hpl : (nd r).pl = fresh0 n i r := by
      show (⟨e.toMv, r, 0, [], false, (0, 0), false⟩ : No) = ⟨mv0 i n, r, 0, [], false, (0, 0), false⟩
      rw [hmv, hme, hnn]
    refine hk2 _ _ ⟨i + 1, x1, rfl, by omega, rfl, by show (x.N ++ [nd r]).length = _; simp; omega, fun j nd' hj => ?_, hbag, ?_, by show 0 ≤ x.lim + r ∧ x.lim + r ≤ _; omega, hbg, hen, htu, hwr, h⟩ (by dsimp only; omega)
    · have hj : (x.N ++ [nd r])[j]? = some nd' := hj
      rcases Nat.lt_or_ge j x.N.length with hlt | hge
      · rw [List.getElem?_append_left hlt] at hj
        exact hnd j nd' hj
      · rw [List.getElem?_append_right hge] at hj
        have hj0 : j - x.N.length = 0 := by
          rcases Nat.eq_zero_or_pos (j - x.N.length) with h0 | h0
          · exact h0
          · rw [List.getElem?_eq_none (by simp; omega)] at hj; cases hj
        rw [hj0] at hj
        simp at hj; subst hj
        have : j = i := by omega
        subst this
        exact ⟨r, hpl, hr0, hr6⟩
    · show x.lim + r = rsum ((x.N ++ [nd r]).map Nd.pl)
      rw [List.map_append, rsum_app, ← hlim]
      have : rsum ([nd r].map Nd.pl) = r := by simp [rsum, Nd.pl, nd]
      rw [this]
  · have hc : i = n := by have : ¬ (i : Int) < (n : Int) := of_decide_eq_false hc
                          omega
    subst hc
    clear hk2
    have hplen : x.pl.N.length = i := by show (x.N.map Nd.pl).length = i; rw [List.length_map]; exact hxl
    have hnodes : ∀ (j : Nat) (z : No), x.pl.N[j]? = some z → ∃ r, z = fresh0 i j r ∧ 0 ≤ r ∧ r ≤ 6 := fun j z hz => by
      have hz : (x.N.map Nd.pl)[j]? = some z := hz
      rw [List.getElem?_map] at hz
      cases hn' : x.N[j]? with
      | none => rw [hn'] at hz; cases hz
      | some nd =>
        rw [hn'] at hz
        simp at hz
        obtain ⟨r, h1, h2⟩ := hnd j nd hn'
        exact ⟨r, by rw [← hz, h1], h2⟩
    refine h.loadB 0 0 ⟨_, rfl, rfl⟩ rfl (kd := .int .i64) (x := x.lim) rfl ?_
    rw [SplitB_iff]
    refine ⟨fun hl0 => ?_, fun hl1 => ?_⟩
    · have hl0 : x.lim = 0 := by simpa using hl0
      have h0x : 0 < x.N.length := by omega
      have hn0 := List.getElem?_eq_getElem h0x
      generalize x.N[0] = n0 at hn0
      obtain ⟨r, hr1, hr2, hr3⟩ := hnd 0 n0 hn0
      have ho := St.openN h hn0
      have hnr := h.rd (k := 0) (i := 1) (E := 62) (sz := 1) (s := x.ns) (vs := x.N.map ndp) ⟨_, rfl, rfl⟩
      have hnl : x.ns.len = x.N.length := ns_len h
      refine h.loadB 0 0 ⟨_, rfl, rfl⟩ rfl (kd := .sl) (x := x.ns) rfl ?_
      refine hnr.idxK 0 rfl (by omega) ?_
      intro b0 o0 ha0
      refine hnr.el ha0 0 (by simp) (kd := .ptr) (x := n0.p) (by rw [List.getElem?_map, hn0]; rfl) ?_
      refine NilP.mk ?_
      refine ho.storB 1 0 ⟨_, rfl, rfl⟩ rfl rfl rfl ?_
      intro w4 ho
      refine ho.storB 0 0 ⟨_, rfl, rfl⟩ rfl rfl rfl ?_
      intro w5 ho
      let x1 : Wm := { x with lim := 1 }
      let n1 : Nd := { n0 with ri := 1 }
      have ho : St w0 w5 (opW x1 0 n1 F) := ho
      have hcl := St.closeN (x := x1) (n := n0) ho hn0 rfl
      have hri0 : n0.pl.ri = 0 ∧ n0.pl.he = 0 ∧ r = 0 := by
        have hs0 := rsum_set (l := x.N.map Nd.pl) (k := 0) (x := n0.pl) (x' := ⟨n0.pl.m, 0, 0, [], false, (0, 0), false⟩) (by rw [List.getElem?_map, hn0]; rfl)
        have hnn : 0 ≤ rsum ((x.N.map Nd.pl).set 0 ⟨n0.pl.m, 0, 0, [], false, (0, 0), false⟩) := rsum_nn fun z hz => by
          rcases List.mem_or_eq_of_mem_set hz with hz | rfl
          · obtain ⟨j, hj, rfl⟩ := List.mem_iff_getElem.1 hz
            obtain ⟨r', h1, h2, _⟩ := hnodes j _ (List.getElem?_eq_getElem hj)
            have h1 : (x.N.map Nd.pl)[j] = fresh0 i j r' := h1
            rw [h1]; exact ⟨h2, Int.le_refl 0⟩
          · exact ⟨Int.le_refl 0, Int.le_refl 0⟩
        rw [hr1] at hs0 ⊢
        have e1 : (fresh0 i 0 r).ri = r := rfl
        have e2 : (fresh0 i 0 r).he = 0 := rfl
        dsimp only at hs0
        rw [← hlim, hl0, e1, e2] at hs0
        rw [e1, e2]
        rw [hr1] at hnn
        omega
      have hsetN : (x.N.set 0 n1).map Nd.pl = (x.N.map Nd.pl).set 0 (fresh0 i 0 1) := by
        rw [List.map_set]
        congr 1
        have : n1.pl = { n0.pl with ri := 1 } := rfl
        rw [this, hr1]; rfl
      have hlim1 : rsum ((x.N.map Nd.pl).set 0 (fresh0 i 0 1)) = 1 := by
        rw [rsum_set (x := n0.pl) (by rw [List.getElem?_map, hn0]; rfl), ← hlim, hl0, hri0.1, hri0.2.1]; rfl
      refine ⟨x.wb, (x.N.set 0 n1).map (·.nb), ({ x1 with N := x1.N.set 0 n1 } : Wm).pl, rfl, ?_, ⟨{ x1 with N := x1.N.set 0 n1 }, rfl, rfl, rfl, hcl⟩⟩
      have hlen' : (({ x1 with N := x1.N.set 0 n1 } : Wm).pl).N.length = i := by show ((x.N.set 0 n1).map Nd.pl).length = i; simp [hxl]
      refine ⟨by rw [hlen']; exact hn5, fun j z hz => ?_, hbag, ⟨?_, by show (1 : Int) ≤ 1; decide⟩, hbg, hen, htu, hwr⟩
      · rw [hlen']
        have hz : ((x.N.set 0 n1).map Nd.pl)[j]? = some z := hz
        rw [hsetN] at hz
        rcases Nat.eq_zero_or_pos j with h0 | h0
        · subst h0
          have hlt : 0 < (x.N.map Nd.pl).length := by rw [List.length_map]; exact h0x
          rw [List.getElem?_set_self hlt] at hz
          cases hz
          exact ⟨rfl, ⟨by show (0 : Int) ≤ 1; decide, by show (1 : Int) ≤ 6; decide⟩, rfl, rfl, rfl, rfl, rfl⟩
        · rw [List.getElem?_set_ne (by omega)] at hz
          obtain ⟨r', rfl, h2, h3⟩ := hnodes j z hz
          exact ⟨rfl, ⟨h2, h3⟩, rfl, rfl, rfl, rfl, rfl⟩
      · show (1 : Int) = rsum ((x.N.set 0 n1).map Nd.pl)
        rw [hsetN, hlim1]
    · have hl1 : x.lim ≠ 0 := by simpa using hl1
      refine ⟨x.wb, x.N.map (·.nb), x.pl, rfl, ⟨by rw [hplen]; exact hn5, fun j z hz => ?_, hbag, ⟨hlim, by show 1 ≤ x.lim; omega⟩, hbg, hen, htu, hwr⟩, ⟨x, rfl, rfl, rfl, h⟩⟩
      obtain ⟨r', rfl, h2, h3⟩ := hnodes j z hz
      rw [hplen]
      exact ⟨rfl, ⟨h2, h3⟩, rfl, rfl, rfl, rfl, rfl⟩
def spvs (L : List Stp) : List Value := L.flatMap spv
theorem gathers_st {s1 s2 : Sl} {L1 : List Int} {L2 : List Stp} (h1 : Rd W s1 1 (lin L1)) (hL1 : ∀ v ∈ L1, -9223372036854775808 ≤ v ∧ v ≤ 9223372036854775807) (h2 : Rd W s2 5 (spvs L2)) (hL2 : ∀ s ∈ L2, s.ok) {p0 : Int} (r0 : -9223372036854775808 ≤ p0 ∧ p0 ≤ 9223372036854775807) :
    CallK Try.prog .bool 7 #[.int .i64 p0, .slice s1.a s1.len s1.cap, .slice s2.a s2.len s2.cap] W fun (r : Bool) w' => Upd W w' nobody ∧ r = true := by
  have hsl2 : s2.len = L2.length := by have := h2.1; rw [spvs, flat_len spv_len] at this; omega
  refine T7.calls ?_
  unfold T7
  refine (made_st (St.init W) h1 hL1 r0).mono ?_
  rintro _ w1 ⟨wb, nbs, X, rfl, hS, hat⟩
  have hup : ∀ {X : Wo} {w : World}, At W [] wb nbs X w → Upd W w nobody := fun ⟨x, _, _, _, h⟩ => h.upd
  refine JoinX.mk (fun (z : Bool × Unit) w' => z.1 = false ∧ At W [] wb nbs X w') ?_ ?_
  rotate_left
  · intro k1 hk1
    obtain ⟨x, e1, e2, e3, h⟩ := hat
    refine (able_st h).mono ?_
    rintro _ w2 ⟨rfl, h⟩
    rw [SplitB_iff]
    refine ⟨fun hf => (by cases hf), fun _ => ?_⟩
    refine RunN.pEqS ?_
    exact hk1 _ _ ⟨rfl, x, e1, e2, e3, h⟩
  clear hat
  rintro ⟨z, ⟨⟩⟩ w2 ⟨hz, hat⟩
  dsimp only at hz
  subst hz
  rw [SplitB_iff]
  refine ⟨fun hf => (by cases hf), fun _ => ?_⟩
  refine LoopX.mk (fun st w' => ∃ (i : Nat) (Y : Wo), st = ((i : Int), ()) ∧ i ≤ 120 ∧ Wi 0 Y ∧ Bd (20000 * i) Y ∧ At W [] wb nbs Y w') (fun st => 120 - st.1.toNat) ⟨0, X, rfl, Nat.zero_le _, hS.wi, hS.bd, hat⟩ ?_
  clear hat hS
  rintro _ w3 ⟨i, Y, rfl, hi, hI, hB, hat⟩ k4 hk4
  dsimp only at hk4 ⊢
  refine JoinX.mk (fun (z : Bool × Unit) w' => (z.1 = true → i < L2.length ∧ i < 120) ∧ w' = w3) ?_ ?_
  rotate_left
  · intro k5 hk5
    rw [SplitB_iff]
    refine ⟨fun hc => hk5 _ _ ⟨fun h => ?_, rfl⟩, fun _ => hk5 _ _ ⟨fun h => (by cases h), rfl⟩⟩
    have h1 : (i : Int) < (s2.len : Int) := of_decide_eq_true hc
    have h2 : (i : Int) < 120 := of_decide_eq_true h
    omega
  rintro ⟨z, ⟨⟩⟩ _ ⟨hz, rfl⟩
  dsimp only at hz ⊢
  rw [SplitB_iff]
  refine ⟨fun hzt => ?_, fun _ => ⟨hup hat, rfl⟩⟩
  obtain ⟨hiL, hi120⟩ := hz hzt
  have hem : IntKind.i64.wrap ((i : Int) + 1) = ((i + 1 : Nat) : Int) := by rw [wr (by omega)]; omega
  rw [hem]
  obtain ⟨x, e1, e2, e3, h⟩ := hat
  have hr := h.old h2
  refine hr.idxK i rfl (by omega) ?_
  intro b0 o0 ha0
  refine hr.elA ha0 (i * 5) rfl (kd := Kd5) (spt L2[i]) (ds := spv L2[i]) (flat_at spv_len _ _ hiL) ?_
  refine (step_at (s := L2[i]) ⟨x, e1, e2, e3, h⟩ hI hB (by omega) (hL2 _ (List.getElem_mem hiL))).mono ?_
  intro _ w4 hat
  obtain ⟨a1, a2, a3⟩ := step_ok hI hB (by omega) L2[i]
  generalize Y.step L2[i] = Y' at hat a1 a2
  refine JoinX.mk (fun (z : Bool × Unit) w' => z.1 = false ∧ At W [] wb nbs Y' w') ?_ ?_
  · clear hat h
    rintro ⟨z, ⟨⟩⟩ w5 ⟨hz, hat⟩
    dsimp only at hz
    subst hz
    rw [SplitB_iff]
    exact ⟨fun hf => (by cases hf), fun _ => hk4 _ _ ⟨i + 1, Y', rfl, by omega, a1, a2.mono (by omega), hat⟩ (by dsimp only; omega)⟩
  intro k7 hk7
  obtain ⟨x2, f1, f2, f3, h'⟩ := hat
  have hw0 : x2.wrong = false := by have := a1.wrong; rw [← f3] at this; exact this
  refine NilP.mk ?_
  subst f1
  refine h'.loadB 0 0 ⟨_, rfl, rfl⟩ rfl (kd := .bool) (x := x2.wrong) rfl ?_
  rw [hw0, SplitB_iff]
  refine ⟨fun hf => (by cases hf), fun _ => ?_⟩
  refine (conserved_st ⟨x2, rfl, f2, f3, h'⟩ a1 (by have := a2.bag; omega)).mono ?_
  intro (v : Bool) w6 ⟨hv, hat⟩
  exact hk7 _ _ ⟨by rw [hv]; rfl, hat⟩
end Go.Proofs.Ytmfbmfppjdkeeaa

/- What a law of a world of epochs reads of its arguments. -/
namespace Go.Proofs.Ytmfbmfppjdkeeaa
open Go.ChangeShapes Go.WideShapes Go.ChangeAt Go.RowKit Go Go.Fw
set_option linter.unusedVariables false
set_option linter.unusedSimpArgs false
set_option maxRecDepth 20000

theorem u26 : Try.prog.underlying 26 = some (.slice 3) := by kernel_rfl
theorem u27 : Try.prog.underlying 27 = some (.slice 33) := by kernel_rfl
noncomputable def fields33 : Array Field := match Try.prog.underlying 33 with | some (.struct fs) => fs | _ => #[]
theorem u33 : Try.prog.underlying 33 = some (.struct fields33) := by kernel_rfl
theorem f33 : fields33.toList.map (fun f => (f.type, f.offset)) = [(3, 0), (3, 1), (3, 2), (3, 3), (4, 4)] := by kernel_rfl
theorem wf_i64 {n : Int} (h : Lit.wf (.int .i64 n) = true) : -9223372036854775808 ≤ n ∧ n ≤ 9223372036854775807 := by
  have hmax : IntKind.i64.max = 9223372036854775807 := rfl
  have hmin : IntKind.i64.min = -9223372036854775808 := rfl
  simp [Lit.wf, hmax, hmin] at h
  omega
theorem ints_of {H : Type} {enc : TypeId × Value → H} {W : World} {base b : Nat} {spare : Nat → Bool} {held : Bool} {v : Value} {d : DataW H} {ps : List MemPlace} (hval : Value.okWide Try.prog W .any b 26 v)
    (hd : DataW.Trod enc Try.prog W base spare held 26 v d ps) (hw : Wt Try.prog 26 d) : ∃ (s : Sl) (L : List Int), v = .slice s.a s.len s.cap ∧ Rd W s 1 (lin L) ∧ ∀ v ∈ L, -9223372036854775808 ≤ v ∧ v ≤ 9223372036854775807 := by
  obtain ⟨a0, len, cap, rfl⟩ := okWide_slice u26 hval
  obtain ⟨fuel0, hf⟩ := hd
  obtain ⟨s, els, hcs, hl, hr, _, hel⟩ := open_rd u26 (sz := 1) (by kernel_rfl) (by decide) hf hw
  have : ∃ L : List Int, els.flatten = lin L ∧ ∀ v ∈ L, -9223372036854775808 ≤ v ∧ v ≤ 9223372036854775807 := by
    clear hl hr hcs
    induction els with
    | nil => exact ⟨[], rfl, fun m hm => by cases hm⟩
    | cons c r ih =>
      obtain ⟨L, e, hL⟩ := ih fun c hc => hel c (List.mem_cons_of_mem _ hc)
      obtain ⟨hc1, n, y, hy, hwy⟩ := hel c (List.mem_cons_self ..)
      obtain ⟨x, hx, _, wx⟩ := DataW.trod_int u3 hy
      subst hx
      refine ⟨x :: L, by rw [List.flatten_cons, e]; rfl, fun z hz => ?_⟩
      rcases List.mem_cons.1 hz with rfl | hz
      · exact wf_i64 wx
      · exact hL z hz
  obtain ⟨L, e, hL⟩ := this
  rw [e] at hr
  simp [Value.cells] at hcs
  obtain ⟨rfl, rfl, rfl⟩ := hcs
  exact ⟨s, L, rfl, hr, hL⟩
theorem stp_of {H : Type} {enc : TypeId × Value → H} {W : World} {base : Nat} {spare : Nat → Bool} {held : Bool} {n : Nat} {c : List Value} {y : DataW H × List MemPlace} (hc : c.length = 5)
    (hd : DataW.trod enc Try.prog W base spare held n 33 c = some y) (hw : Wt Try.prog 33 y.1) : ∃ s : Stp, c = spv s ∧ s.ok := by
  have hf := open_fields u33 hd hw
  have c3 : Try.prog.cellsOf 3 = 1 := by kernel_rfl
  have c4 : Try.prog.cellsOf 4 = 1 := by kernel_rfl
  obtain ⟨g0, h0, t0, o0⟩ := field_of f33 (i := 0) rfl
  obtain ⟨g1, h1, t1, o1⟩ := field_of f33 (i := 1) rfl
  obtain ⟨g2, h2, t2, o2⟩ := field_of f33 (i := 2) rfl
  obtain ⟨g3, h3, t3, o3⟩ := field_of f33 (i := 3) rfl
  obtain ⟨g4, h4, t4, o4⟩ := field_of f33 (i := 4) rfl
  obtain ⟨n0, y0, e0, _⟩ := hf 0 g0 h0
  obtain ⟨n1, y1, e1, _⟩ := hf 1 g1 h1
  obtain ⟨n2, y2, e2, _⟩ := hf 2 g2 h2
  obtain ⟨n3, y3, e3, _⟩ := hf 3 g3 h3
  obtain ⟨n4, y4, e4, _⟩ := hf 4 g4 h4
  rw [t0, o0, c3] at e0
  rw [t1, o1, c3] at e1
  rw [t2, o2, c3] at e2
  rw [t3, o3, c3] at e3
  rw [t4, o4, c4] at e4
  obtain ⟨a0, ha0, _, wa0⟩ := DataW.trod_int u3 e0
  obtain ⟨a1, ha1, _, wa1⟩ := DataW.trod_int u3 e1
  obtain ⟨a2, ha2, _, wa2⟩ := DataW.trod_int u3 e2
  obtain ⟨a3, ha3, _, wa3⟩ := DataW.trod_int u3 e3
  obtain ⟨a4, ha4, _⟩ := DataW.trod_bool u4 e4
  match c, hc with
  | [x0, x1, x2, x3, x4], _ =>
    simp at ha0 ha1 ha2 ha3 ha4
    subst ha0; subst ha1; subst ha2; subst ha3; subst ha4
    exact ⟨⟨a0, a1, a2, a3, a4⟩, rfl, ⟨wf_i64 wa1, wf_i64 wa2, wf_i64 wa3⟩⟩
theorem stps_of {H : Type} {enc : TypeId × Value → H} {W : World} {base b : Nat} {spare : Nat → Bool} {held : Bool} {v : Value} {d : DataW H} {ps : List MemPlace} (hval : Value.okWide Try.prog W .any b 27 v)
    (hd : DataW.Trod enc Try.prog W base spare held 27 v d ps) (hw : Wt Try.prog 27 d) : ∃ (s : Sl) (L : List Stp), v = .slice s.a s.len s.cap ∧ Rd W s 5 (spvs L) ∧ ∀ m ∈ L, m.ok := by
  obtain ⟨a0, len, cap, rfl⟩ := okWide_slice u27 hval
  obtain ⟨fuel0, hf⟩ := hd
  obtain ⟨s, els, hcs, hl, hr, _, hel⟩ := open_rd u27 (sz := 5) (by kernel_rfl) (by decide) hf hw
  have : ∃ L : List Stp, els.flatten = spvs L ∧ ∀ m ∈ L, m.ok := by
    clear hl hr hcs
    induction els with
    | nil => exact ⟨[], rfl, fun m hm => by cases hm⟩
    | cons c r ih =>
      obtain ⟨L, e, hL⟩ := ih fun c hc => hel c (List.mem_cons_of_mem _ hc)
      obtain ⟨hc1, n, y, hy, hwy⟩ := hel c (List.mem_cons_self ..)
      obtain ⟨m, rfl, hm⟩ := stp_of hc1 hy hwy
      refine ⟨m :: L, by rw [List.flatten_cons, e]; rfl, fun z hz => ?_⟩
      rcases List.mem_cons.1 hz with rfl | hz
      · exact hm
      · exact hL z hz
  obtain ⟨L, e, hL⟩ := this
  rw [e] at hr
  simp [Value.cells] at hcs
  obtain ⟨rfl, rfl, rfl⟩ := hcs
  exact ⟨s, L, rfl, hr, hL⟩
theorem law7 {W : World} {s1 s2 : Sl} {L1 : List Int} {L2 : List Stp} (h1 : Rd W s1 1 (lin L1) ∧ ∀ v ∈ L1, -9223372036854775808 ≤ v ∧ v ≤ 9223372036854775807) (h2 : Rd W s2 5 (spvs L2) ∧ ∀ s ∈ L2, s.ok) {p0 : Int} (r0 : Lit.wf (.int .i64 p0) = true) :
    CallK Try.prog .bool 7 #[.int .i64 p0, .slice s1.a s1.len s1.cap, .slice s2.a s2.len s2.cap] W fun (r : Bool) w' => Upd W w' nobody ∧ r = true :=
  gathers_st h1.1 h1.2 h2.1 h2.2 (wf_i64 r0)
end Go.Proofs.Ytmfbmfppjdkeeaa

/- The world of epochs, in plain words: all messages come; at rest. -/
namespace Go.Proofs.Ytmfbmfppjdkeeaa
open Go Go.Fw Go.RowKit
set_option linter.unusedVariables false
set_option linter.unusedSimpArgs false

def ordK (L : List Int) (i : Nat) : Int := if i % 2 = 1 then L[(i / 2) % L.length]?.getD 0 else 0
def restS (L : List Int) (i : Nat) : Stp := ⟨2, 0, ordK L i, 0, false⟩
def Wo.restN (L : List Int) : Nat → Nat → Wo → Wo
  | 0, _, X => X
  | f + 1, i, X => if X.bag = [] then X else Wo.restN L f (i + 1) (X.step (restS L i))
structure Calm (X : Wo) : Prop where
  bag : X.bag = []
  be : X.begun = X.ended
  no : ∀ (k : Nat) (x : No), X.N[k]? = some x → someE x.m.top = false ∧ x.wait = []
def Wo.runS (L : List Stp) (X : Wo) : Wo := L.foldl Wo.step X
theorem restN_nil (L : List Int) (f i : Nat) {X : Wo} (h : X.bag = []) : X.restN L f i = X := by
  cases f with
  | zero => rfl
  | succ f => rw [Wo.restN, if_pos h]
theorem restN_step (L : List Int) (f i : Nat) {X : Wo} (h : X.bag ≠ []) : X.restN L (f + 1) i = (X.step (restS L i)).restN L f (i + 1) := by
  rw [Wo.restN, if_neg h]
theorem restN_ok (L : List Int) : ∀ (f i : Nat) (X : Wo) (c : Int), Wi 0 X → Bd c X → c + 20000 * f ≤ 999999800000 → Wi 0 (X.restN L f i) ∧ Bd (c + 20000 * f) (X.restN L f i)
  | 0, i, X, c, h1, h2, h3 => ⟨h1, h2.mono (by omega)⟩
  | f + 1, i, X, c, h1, h2, h3 => by
    rw [Wo.restN]
    split
    · exact ⟨h1, h2.mono (by omega)⟩
    · obtain ⟨a1, a2, a3⟩ := step_ok h1 h2 (by omega) (restS L i)
      obtain ⟨b1, b2⟩ := restN_ok L f (i + 1) _ (c + 20000) a1 (a2.mono (by omega)) (by omega)
      exact ⟨b1, b2.mono (by omega)⟩
theorem runS_ok : ∀ (L : List Stp) (X : Wo) (c : Int), Wi 0 X → Bd c X → c + 20000 * L.length ≤ 999999800000 → Wi 0 (X.runS L) ∧ Bd (c + 20000 * L.length) (X.runS L)
  | [], X, c, h1, h2, h3 => ⟨h1, h2.mono (by simp)⟩
  | s :: L, X, c, h1, h2, h3 => by
    rw [List.length_cons] at h3 ⊢
    obtain ⟨a1, a2, a3⟩ := step_ok h1 h2 (by omega) s
    obtain ⟨b1, b2⟩ := runS_ok L _ (c + 20000) a1 (a2.mono (by omega)) (by omega)
    exact ⟨b1, b2.mono (by omega)⟩
theorem wf_range : (-9223372036854775808 : Int) ≤ 0 ∧ (0 : Int) ≤ 9223372036854775807 := by decide
theorem ordK_range {L : List Int} (hL : ∀ v ∈ L, -9223372036854775808 ≤ v ∧ v ≤ 9223372036854775807) (i : Nat) : -9223372036854775808 ≤ ordK L i ∧ ordK L i ≤ 9223372036854775807 := by
  unfold ordK
  split
  · cases h : L[(i / 2) % L.length]? with
    | none => exact ⟨by decide, by decide⟩
    | some v => exact hL v (List.mem_of_getElem? h)
  · exact ⟨by decide, by decide⟩
end Go.Proofs.Ytmfbmfppjdkeeaa
