/- The law of moving a letter there and back: it answers yes. -/
import Derived.Test.YtmhjlngkdppgpaaNtO
namespace Go.Proofs.Ytmhjlngkdppgpaa
open Go Go.Fw Go.RowKit
set_option linter.unusedVariables false
set_option linter.unusedSimpArgs false

theorem rem_pos (w : World) (a : Int) {n : Nat} (hn : 0 < n) : (binOp .rem 3 (.int .i64 a) (.int .i64 (n : Int))).run Try.prog w = .ok (.int .i64 (Int.tmod a (n : Int))) w := by
  have hne : (n : Int) ≠ 0 := by omega
  have hne' : n ≠ 0 := by omega
  simp [binOp, Op.intDiv, hne']
theorem slot_eq (a : Int) {n : Nat} (hn : 0 < n) : ∃ k : Nat, k < n ∧ Int.tmod (Int.tmod a (n : Int) + (n : Int)) (n : Int) = (k : Int) ∧ -(n : Int) < Int.tmod a (n : Int) ∧ Int.tmod a (n : Int) < (n : Int) := by
  have h1 : Int.tmod a (n : Int) < (n : Int) := Int.tmod_lt_of_pos a (by omega)
  have h2 : -(n : Int) < Int.tmod a (n : Int) := Int.lt_tmod_of_pos a (by omega)
  have h3 : Int.tmod (Int.tmod a (n : Int) + (n : Int)) (n : Int) < (n : Int) := Int.tmod_lt_of_pos _ (by omega)
  have h4 : 0 ≤ Int.tmod (Int.tmod a (n : Int) + (n : Int)) (n : Int) := Int.tmod_nonneg _ (by omega)
  exact ⟨(Int.tmod (Int.tmod a (n : Int) + (n : Int)) (n : Int)).toNat, by omega, by omega, h2, h1⟩

theorem bs1 (w : World) : (Instr.buildSlice 22 1 #[(0, .agg #[.int .i64 9, .int .i64 9, .slice none 0 0])]).run Try.prog w = .ok (.slice (some ⟨w.heap.size, 0, none⟩) 1 1) (w.alloc (.cells ⟨lc 9 9 ⟨none, 0, 0⟩⟩ 31)) := by kernel_rfl

theorem cont_erase (xs : List (Ltr × Sl)) (a : Nat) : cont (xs.eraseIdx a) = (cont xs).eraseIdx a := by
  unfold cont; rw [List.eraseIdx_eq_take_drop_succ, List.eraseIdx_eq_take_drop_succ]; simp [List.map_take, List.map_drop]
theorem cont_insert (xs : List (Ltr × Sl)) (b : Nat) (x : Ltr × Sl) (hb : b ≤ xs.length) : cont (xs.insertIdx b x) = (cont xs).insertIdx b x.1 := by
  unfold cont
  rw [insertIdx_td _ _ _ hb, insertIdx_td _ _ _ (by simpa using hb)]
  simp [List.map_take, List.map_drop]

theorem law4 {w : World} {n1 n2 : Int} {p : Sl} {ls : List (Ltr × Sl)} (hg : Given w p ls) : CallK Try.prog .bool 4 #[.slice p.a p.len p.cap, .int .i64 n1, .int .i64 n2] w fun (r : Bool) w' => Upd w w' nobody ∧ r = true := by
  have hl := hg.len
  refine T4.calls ?_
  unfold T4
  rw [SplitB_iff]
  refine ⟨fun _ => ⟨Upd.refl _ _, rfl⟩, fun h => ?_⟩
  have h : ¬ (p.len : Int) > 1023 := of_decide_eq_false h
  refine (new_ok (n := 1024) (by omega) (by omega)).mono ?_
  rintro r w1 ⟨rfl, hu1, hs1, hb1⟩
  dsimp only [JoinX]
  refine num_ok.mono ?_
  rintro r w2 ⟨rfl, rfl⟩
  rw [SplitB_iff]
  refine ⟨fun h => by simp at h, fun _ => ?_⟩
  refine RunN.of (kd := .bool) (ptr_ne _ _ _) ?_
  rw [SplitB_iff]
  refine ⟨fun h => by simp at h, fun _ => ?_⟩
  generalize hB : w.heap.size = B at *
  refine RunN.newS (base := B) (sz := 3) (bs1 w2) (by omega) (by decide) rfl ?_
  intro w3 ho3 hu3 hs3
  have hU3 := hu1.trans hu3
  have hg3 := hg.keep hU3
  refine RunN.appO et22 ⟨31, et22⟩ (by decide) ho3 hg3.rd (row_one _) (by omega) (by simp only [maxLen]; omega) (by dsimp only; omega) ?_
  intro s4 w4 hl4 ho4 hu4 hb4
  have hU4 : Upd w w4 nobody := hU3.fresh hu4 fun j hj => by simp [Sl.blk] at hj; omega
  have hz4 := hU4.size
  -- all the letters
  have hrow4 : Rd w4 s4 3 (row ((⟨9, 9, []⟩, ⟨none, 0, 0⟩) :: ls)) := by rw [row_cons]; exact ho4.rd
  have mkg : ∀ w', Upd w w' nobody → Rd w' s4 3 (row ((⟨9, 9, []⟩, ⟨none, 0, 0⟩) :: ls)) → Given w' s4 ((⟨9, 9, []⟩, ⟨none, 0, 0⟩) :: ls) := by
    intro w' hU hr
    refine ⟨hr, fun x hx => ?_⟩
    rcases List.mem_cons.1 hx with rfl | hx
    · exact ⟨Rd.nil _ _, Nat.zero_le _⟩
    · exact (hg.keep hU).each x hx
  have hs4 : ∀ b, s4.blk = some b → B < b ∧ b < w4.heap.size := by
    intro b hb
    have h1 := ho4.lt hb
    rcases hb4 with h' | ⟨g, hg', hge, _⟩
    · rw [h'] at hb; simp [Sl.blk] at hb; omega
    · rw [hg'] at hb; cases hb; omega
  generalize hall : (((⟨9, 9, []⟩ : Ltr), (⟨none, 0, 0⟩ : Sl)) :: ls) = al at hrow4 mkg
  have hal : al.length = ls.length + 1 := by rw [← hall]; rfl
  have hl4' := (mkg w4 hU4 hrow4).len
  have hbag4 : BagAt w4 B B 1024 ⟨none, 0, 0⟩ [] := (hb1.keep hu3).upd hu4 (fun h => by simp [Sl.blk] at h; omega) (fun b hb => by simp [Sl.blk] at hb) (fun x hx => by cases hx)
  clear ho4 hb4 hu4 ho3
  -- sending: what is owned by the list of all is never written
  refine ⟨fun st w' => ∃ (k : Nat) (s : Sl) (xs : List (Ltr × Sl)), k ≤ al.length ∧ st.1 = (k : Int) ∧ BagAt w' B B 1024 s xs ∧ cont xs = (cont al).take k ∧ Upd w w' nobody ∧ Rd w' s4 3 (row al) ∧ (∀ b, s.blk = some b → s4.blk ≠ some b) ∧ w4.heap.size ≤ w'.heap.size, fun st _ => al.length - st.1.toNat,
    ⟨0, _, _, Nat.zero_le _, rfl, hbag4, by simp [cont], hU4, hrow4, fun b hb => by simp [Sl.blk] at hb, Nat.le_refl _⟩, ?_⟩
  rintro ⟨i, ⟨⟩⟩ w5 ⟨k, s, xs, hk, h1, hbag, hcont, hU5, hrow5, hsep, hz5⟩
  dsimp only at h1
  have hg5 := mkg w5 hU5 hrow5
  subst h1
  have hxl : xs.length = k := by have := congrArg List.length hcont; simp [cont] at this; omega
  rw [SplitB_iff]
  constructor
  · intro hlt
    have hlt : k < al.length := by have := of_decide_eq_true hlt; omega
    obtain ⟨b, o, ha, hld⟩ := hg5.at hlt
    refine RunN.idx et22 ha (by omega) (by omega) ?_
    simp only [Int.toNat_natCast]
    refine RunN.of (kd := KL) (x := (al[k].1.f, al[k].1.t, al[k].2, ())) hld ?_
    have hx := hg5.each al[k] (List.getElem_mem _)
    refine (own_ok hx.1 hx.2).mono ?_
    rintro ⟨f', t', q, ⟨⟩⟩ w6 ⟨hu6, e1, e2, ho6⟩
    dsimp only at e1 e2 ho6
    subst e1; subst e2
    have hbag6 := hbag.keep hu6
    have hz6 := hu6.size
    refine (send_ok hbag6 (by omega) (by omega) ho6.rd hx.2).mono ?_
    rintro r w7 hs
    rcases hs with ⟨hfull, _⟩ | ⟨hfull, rfl, hu7, s', q', hnx, hbag7⟩
    · omega
    refine num_ok.mono ?_
    rintro r w8 ⟨rfl, rfl⟩
    rw [SplitB_iff]
    refine ⟨fun h => by simp at h, fun _ => ?_⟩
    have hk1 : IntKind.i64.wrap ((k : Int) + 1) = ((k + 1 : Nat) : Int) := by rw [IntWalk.i64_in _ ⟨by omega, by omega⟩]; omega
    rw [hk1]
    have hz7 := hu7.size
    refine ⟨⟨k + 1, s', _, by omega, rfl, hbag7, ?_, (hU5.trans hu6).fresh hu7 fun j hj => ?_, ?_, ?_, by omega⟩, by omega⟩
    · have hlt' : k < (cont al).length := by simpa [cont] using hlt
      rw [List.take_succ_eq_append_getElem hlt']
      have e3 : cont (xs ++ [(⟨al[k].1.f, al[k].1.t, al[k].1.m⟩, q')]) = cont xs ++ [al[k].1] := by simp [cont]
      rw [e3, hcont]; simp [cont]
    · rcases hj with hj | hj
      · omega
      · have := (hbag.ow.lt hj).1; omega
    · refine (hrow5.upd hu6 (fun _ _ h => h)).upd hu7 fun b hb e => ?_
      rcases e with e | e
      · have := (hs4 b hb).1; omega
      · exact hsep b e hb
    · intro b hb
      rcases hnx with h' | ⟨g, hg', hge⟩
      · rw [h'] at hb; exact hsep b hb
      · rw [hg'] at hb; cases hb
        intro e; have := (hs4 _ e).2; omega
  · intro hge
    have hge : k = al.length := by have := of_decide_eq_false hge; omega
    subst hge
    have hcont : cont xs = cont al := by rw [hcont, List.take_of_length_le (by simp [cont])]
    have hn : 0 < s4.len := by omega
    obtain ⟨a, ha, ea, ea1, ea2⟩ := slot_eq n1 hn
    obtain ⟨b, hb, eb, eb1, eb2⟩ := slot_eq n2 hn
    refine RunN.of (kd := .int .i64) (rem_pos _ _ hn) ?_
    rw [IntWalk.i64_in (Int.tmod n1 (s4.len : Int) + (s4.len : Int)) ⟨by omega, by omega⟩]
    refine RunN.of (kd := .int .i64) (rem_pos _ _ hn) ?_
    refine RunN.of (kd := .int .i64) (rem_pos _ _ hn) ?_
    rw [IntWalk.i64_in (Int.tmod n2 (s4.len : Int) + (s4.len : Int)) ⟨by omega, by omega⟩]
    refine RunN.of (kd := .int .i64) (rem_pos _ _ hn) ?_
    rw [ea, eb]
    have hax : a < xs.length := by omega
    have hbx : b < xs.length := by omega
    -- there
    refine (move_ok hbag (by omega) (i := (a : Int)) (j := (b : Int))).mono ?_
    rintro r w6 hr
    rcases hr with ⟨hbad, _⟩ | ⟨a', b', ha', hb', h1, h2, rfl, hu6, hbag6⟩
    · exact absurd ⟨⟨by omega, by omega⟩, by omega, by omega⟩ hbad
    have ea' : a' = a := by omega
    have eb' : b' = b := by omega
    subst ea'; subst eb'
    refine num_ok.mono ?_
    rintro r w7 ⟨rfl, rfl⟩
    rw [SplitB_iff]
    refine ⟨fun h => by simp at h, fun _ => ?_⟩
    have hU6 : Upd w w7 nobody := hU5.fresh hu6 fun j hj => by
      rcases hj with hj | hj
      · omega
      · have := (hbag.ow.lt hj).1; omega
    have hrow6 : Rd w7 s4 3 (row al) := hrow5.upd hu6 fun c hc e => by
      rcases e with e | e
      · have := (hs4 c hc).1; omega
      · exact hsep c e hc
    have hel : (xs.eraseIdx a').length = xs.length - 1 := by rw [List.length_eraseIdx, if_pos ha']
    generalize hxs' : (xs.eraseIdx a').insertIdx b' xs[a'] = xs' at hbag6
    have hx'l : xs'.length = xs.length := by rw [← hxs', List.length_insertIdx, if_pos (by omega)]; omega
    have hal' : a' < al.length := by omega
    have hc' : cont xs' = ((cont al).eraseIdx a').insertIdx b' (al[a']'hal').1 := by
      rw [← hxs', cont_insert _ _ _ (by omega), cont_erase, hcont]
      congr 1
      have h0 : (cont xs)[a']? = (cont al)[a']? := by rw [hcont]
      simp only [cont, List.getElem?_map, List.getElem?_eq_getElem ha', List.getElem?_eq_getElem hal', Option.map_some] at h0
      exact Option.some.inj h0
    refine (len_ok hbag6).mono ?_
    rintro (r : Int) w8 ⟨rfl, hrl⟩
    have hrl : r = (s4.len : Int) := by rw [hrl]; omega
    subst hrl
    rw [SplitB_iff]
    refine ⟨fun h => by simp at h, fun _ => ?_⟩
    -- looking at each
    refine ⟨fun st w' => ∃ (k c : Nat), k ≤ al.length ∧ st.2.1 = (k : Int) ∧ st.1 = (c : Int) ∧ (c = (if (if k ≤ b' then k else k - 1) ≤ a' then (if k ≤ b' then k else k - 1) else (if k ≤ b' then k else k - 1) + 1)) ∧ BagAt w' B B 1024 s xs' ∧ Upd w w' nobody ∧ Rd w' s4 3 (row al), fun st _ => al.length - st.2.1.toNat,
      ⟨0, 0, Nat.zero_le _, rfl, rfl, by simp, hbag6, hU6, hrow6⟩, ?_⟩
    rintro ⟨(ci : Int), (ki : Int), ⟨⟩⟩ w9 ⟨k, c, hk9, h1, h2, hc, hbag9, hU9, hrow9⟩
    dsimp only at h1 h2
    subst h1; subst h2
    dsimp only
    rw [SplitB_iff]
    constructor
    · intro hlt
      have hlt : k < al.length := by have := of_decide_eq_true hlt; omega
      refine (at_ok hbag9 (i := (k : Int))).mono ?_
      rintro r w10 ⟨hu10, hr⟩
      rcases hr with ⟨hbad, _⟩ | ⟨k', hk', q, h1, rfl, hq⟩
      · exact absurd ⟨by omega, by omega⟩ hbad
      have ek : k' = k := by omega
      subst ek
      have hU10 := hU9.trans hu10
      refine RunN.newB (new31 w10) ?_
      intro w11 hb11 hu11 hs11
      refine RunU.storA ag31 hb11 rfl (ds := lc xs'[k'].1.f xs'[k'].1.t q) rfl (lc_one _ _ _) ?_
      intro w12 hb12 hu12
      have hV : Upd w10 w12 nobody := hu11.fresh hu12 fun j hj => by omega
      have hU12 := hU10.trans hV
      have hbag12 := (hbag9.keep hu10).keep hV
      have hq12 := hq.upd hV (fun _ _ h => h)
      have hrow12 := (hrow9.upd hu10 (fun _ _ h => h)).upd hV (fun _ _ h => h)
      refine num_ok.mono ?_
      rintro r w13 ⟨rfl, rfl⟩
      rw [SplitB_iff]
      refine ⟨fun h => by simp at h, fun _ => ?_⟩
      have hud : Upd w13 w13.drew nobody := Upd.drew _ _
      have hbd := hb12.upd hud (fun h => h)
      have hgd := mkg _ (hU12.trans hud) (hrow12.upd hud (fun _ _ h => h))
      have hqd := hq12.rd.upd hud (fun _ _ h => h)
      have hget : (cont xs')[k']? = some xs'[k'].1 := by simp [cont, hk']
      rw [hc', List.getElem?_insertIdx] at hget
      have hcal : ∀ j (hj : j < al.length), (cont al)[j]? = some (al[j].1) := fun j hj => by simp [cont, hj]
      have hk1 : IntKind.i64.wrap ((k' : Int) + 1) = ((k' + 1 : Nat) : Int) := by rw [IntWalk.i64_in _ ⟨by omega, by omega⟩]; omega
      rw [SplitB_iff]
      constructor
      · intro hkb
        have hkb : k' = b' := by have : (k' : Int) = (b' : Int) := by simpa using hkb
                                 omega
        rw [if_neg (by omega), if_pos hkb, if_pos (by rw [List.length_eraseIdx]; simp [cont]; split <;> omega)] at hget
        have hget := Option.some.inj hget
        refine ReadN.loadA (kd := KL) (x := (xs'[k'].1.f, xs'[k'].1.t, q, ())) ag31 hbd rfl rfl ?_
        obtain ⟨bb, o, haa, hld⟩ := hgd.at hal'
        refine ReadN.of (kd := .addr) (run_idx et22 haa (by omega) (by omega)) ?_
        simp only [Int.toNat_natCast]
        refine ReadN.of (kd := KL) (x := (al[a'].1.f, al[a'].1.t, al[a'].2, ())) hld ?_
        refine (alike_ok hqd (hgd.each al[a'] (List.getElem_mem _)).1).mono ?_
        rintro r w14 ⟨hu14, hr⟩
        have hr : r = true := hr.2 ⟨by rw [← hget], by rw [← hget], by rw [← hget]⟩
        subst hr
        rw [SplitB_iff]
        refine ⟨fun h => by simp at h, fun _ => ?_⟩
        rw [hk1]
        refine ⟨⟨k' + 1, c, by omega, rfl, rfl, ?_, (hbag12.keep hud).keep hu14, (hU12.trans hud).trans hu14, (hrow12.upd hud (fun _ _ h => h)).upd hu14 (fun _ _ h => h)⟩, by omega⟩
        have e1 : (if k' + 1 ≤ b' then k' + 1 else k' + 1 - 1) = k' := by rw [if_neg (by omega)]; omega
        have e2 : (if k' ≤ b' then k' else k' - 1) = k' := if_pos (by omega)
        rw [e2] at hc
        rw [e1]; exact hc
      · intro hkb
        have hkb : k' ≠ b' := by intro e; subst e; simp at hkb
        -- the next of the others
        have step : ∀ j : Nat, j = (if (if k' ≤ b' then k' else k' - 1) < a' then (if k' ≤ b' then k' else k' - 1) else (if k' ≤ b' then k' else k' - 1) + 1) → 
            ReadN Try.prog KL (V (Instr.loadAt 31 (.pointer (some ⟨w10.heap.size, 0, none⟩)))) w13.drew fun t109 =>
                            ReadN Try.prog .addr (V (Instr.indexAt 22 (.slice s4.a s4.len s4.cap) (.int .i64 (j : Int)))) w13.drew fun t112 =>
                            ReadN Try.prog KL (V (Instr.loadAt 31 (.pointer (some t112)))) w13.drew fun t113 =>
                            CallK Try.prog .bool 14 #[.agg #[.int .i64 t109.1, .int .i64 t109.2.1, .slice t109.2.2.1.a t109.2.2.1.len t109.2.2.1.cap], .agg #[.int .i64 t113.1, .int .i64 t113.2.1, .slice t113.2.2.1.a t113.2.2.1.len t113.2.2.1.cap]] w13.drew fun t114 w' =>
                            SplitB (!t114) (Upd w w' nobody ∧ false = true) ((∃ (k_1 c : Nat), k_1 ≤ al.length ∧ IntKind.i64.wrap ((k' : Int) + 1) = (k_1 : Int) ∧ IntKind.i64.wrap ((j : Int) + 1) = (c : Int) ∧ (c = (if (if k_1 ≤ b' then k_1 else k_1 - 1) ≤ a' then (if k_1 ≤ b' then k_1 else k_1 - 1) else (if k_1 ≤ b' then k_1 else k_1 - 1) + 1)) ∧ BagAt w' B B 1024 s xs' ∧ Upd w w' nobody ∧ Rd w' s4 3 (row al)) ∧ al.length - (IntKind.i64.wrap ((k' : Int) + 1)).toNat < al.length - (k' : Int).toNat) := by
          intro j hj
          have hjl : j < al.length := by rw [hj]; split <;> split <;> omega
          have hget : al[j].1 = xs'[k'].1 := by
            have h0 := hcal j hjl
            have hk0 : (if k' < b' then ((cont al).eraseIdx a')[k']? else ((cont al).eraseIdx a')[k' - 1]?) = some xs'[k'].1 := by
              by_cases h : k' < b'
              · rw [if_pos h] at hget ⊢; exact hget
              · rw [if_neg h, if_neg hkb] at hget; rw [if_neg h]; exact hget
            have : ((cont al).eraseIdx a')[(if k' ≤ b' then k' else k' - 1)]? = some xs'[k'].1 := by
              by_cases h : k' < b'
              · rw [if_pos h] at hk0; rw [if_pos (by omega)]; exact hk0
              · rw [if_neg h] at hk0; rw [if_neg (by omega)]; exact hk0
            rw [List.getElem?_eraseIdx] at this
            have h5 : (cont al)[j]? = some xs'[k'].1 := by
              rw [← this, hj]
              generalize (if k' ≤ b' then k' else k' - 1) = q0
              by_cases h : q0 < a'
              · rw [if_pos h, if_pos h]
              · rw [if_neg h, if_neg h]
            rw [h0] at h5
            exact Option.some.inj h5
          refine ReadN.loadA (kd := KL) (x := (xs'[k'].1.f, xs'[k'].1.t, q, ())) ag31 hbd rfl rfl ?_
          obtain ⟨bb, o, haa, hld⟩ := hgd.at hjl
          refine ReadN.of (kd := .addr) (run_idx et22 haa (by omega) (by omega)) ?_
          simp only [Int.toNat_natCast]
          refine ReadN.of (kd := KL) (x := (al[j].1.f, al[j].1.t, al[j].2, ())) hld ?_
          refine (alike_ok hqd (hgd.each al[j] (List.getElem_mem _)).1).mono ?_
          rintro r w14 ⟨hu14, hr⟩
          have hr : r = true := hr.2 ⟨by rw [← hget], by rw [← hget], by rw [← hget]⟩
          subst hr
          rw [SplitB_iff]
          refine ⟨fun h => by simp at h, fun _ => ?_⟩
          rw [hk1]
          refine ⟨⟨k' + 1, j + 1, by omega, rfl, by rw [IntWalk.i64_in ((j : Int) + 1) ⟨by omega, by omega⟩]; omega, ?_, (hbag12.keep hud).keep hu14, (hU12.trans hud).trans hu14, (hrow12.upd hud (fun _ _ h => h)).upd hu14 (fun _ _ h => h)⟩, by omega⟩
          have e : (if k' + 1 ≤ b' then k' + 1 else k' + 1 - 1) = (if k' ≤ b' then k' else k' - 1) + 1 := by split <;> split <;> omega
          rw [e, hj]
          generalize (if k' ≤ b' then k' else k' - 1) = q0
          split <;> split <;> omega
        rw [SplitB_iff]
        constructor
        · intro hca
          have hca : c = a' := by have : (c : Int) = (a' : Int) := by simpa using hca
                                  omega
          rw [IntWalk.i64_in ((c : Int) + 1) ⟨by omega, by omega⟩]
          refine step (c + 1) ?_
          generalize (if k' ≤ b' then k' else k' - 1) = q at hc
          split at hc <;> split <;> omega
        · intro hca
          have hca : c ≠ a' := by intro e; subst e; simp at hca
          refine step c ?_
          generalize (if k' ≤ b' then k' else k' - 1) = q at hc
          split at hc <;> split <;> omega
    · intro hge
      have hge : k = al.length := by have := of_decide_eq_false hge; omega
      -- and back
      refine (move_ok hbag9 (by omega) (i := (b' : Int)) (j := (a' : Int))).mono ?_
      rintro r w10 hr
      rcases hr with ⟨hbad, _⟩ | ⟨b2, a2, hb2, ha2, h1, h2, rfl, hu10, hbag10⟩
      · exact absurd ⟨⟨by omega, by omega⟩, by omega, by omega⟩ hbad
      have ea' : a2 = a' := by omega
      have eb' : b2 = b' := by omega
      subst ea'; subst eb'
      refine num_ok.mono ?_
      rintro r w11 ⟨rfl, rfl⟩
      rw [SplitB_iff]
      refine ⟨fun h => by simp at h, fun _ => ?_⟩
      have hU10 : Upd w w11 nobody := hU9.fresh hu10 fun j hj => by
        rcases hj with hj | hj
        · omega
        · have := (hbag.ow.lt hj).1; omega
      have hrow10 : Rd w11 s4 3 (row al) := hrow9.upd hu10 fun c hc e => by
        rcases e with e | e
        · have := (hs4 c hc).1; omega
        · exact hsep c e hc
      have hxe : (xs'.eraseIdx b2).length = xs'.length - 1 := by rw [List.length_eraseIdx, if_pos hb2]
      generalize hxs2 : (xs'.eraseIdx b2).insertIdx a2 xs'[b2] = xs2 at hbag10
      have hx2l : xs2.length = xs'.length := by rw [← hxs2, List.length_insertIdx, if_pos (by omega)]; omega
      have hc2 : cont xs2 = cont al := by
        have hb0 : (cont xs')[b2]? = some xs'[b2].1 := by simp [cont, hb2]
        rw [hc', List.getElem?_insertIdx, if_neg (by omega), if_pos rfl, if_pos (by rw [List.length_eraseIdx]; simp [cont]; split <;> omega)] at hb0
        rw [← hxs2, cont_insert _ _ _ (by omega), cont_erase, hc', List.eraseIdx_insertIdx_self, ← Option.some.inj hb0]
        have hlc : a2 < (cont al).length := by simpa [cont] using hal'
        rw [insertIdx_td _ _ _ (by rw [List.length_eraseIdx, if_pos hlc]; omega), List.eraseIdx_eq_take_drop_succ]
        have h1 : ((cont al).take a2).length = a2 := by simp; omega
        rw [List.take_left' h1, List.drop_left' h1]
        have h2 : (al[a2]'hal').1 = (cont al)[a2] := by simp [cont]
        rw [h2, ← List.drop_eq_getElem_cons hlc, List.take_append_drop]
      refine ⟨fun st w' => ∃ (k : Nat), k ≤ al.length ∧ st.1 = (k : Int) ∧ BagAt w' B B 1024 s xs2 ∧ Upd w w' nobody ∧ Rd w' s4 3 (row al), fun st _ => al.length - st.1.toNat, ⟨0, Nat.zero_le _, rfl, hbag10, hU10, hrow10⟩, ?_⟩
      rintro ⟨(ki : Int), ⟨⟩⟩ w12 ⟨k, hk12, h1, hbag12, hU12, hrow12⟩
      dsimp only at h1
      subst h1
      rw [SplitB_iff]
      constructor
      · intro hlt
        have hlt : k < al.length := by have := of_decide_eq_true hlt; omega
        refine (at_ok hbag12 (i := (k : Int))).mono ?_
        rintro r w13 ⟨hu13, hr⟩
        rcases hr with ⟨hbad, _⟩ | ⟨k', hk', q, h1, rfl, hq⟩
        · exact absurd ⟨by omega, by omega⟩ hbad
        have ek : k' = k := by omega
        subst ek
        refine RunN.newB (new31 w13) ?_
        intro w14 hb14 hu14 hs14
        refine RunU.storA ag31 hb14 rfl (ds := lc xs2[k'].1.f xs2[k'].1.t q) rfl (lc_one _ _ _) ?_
        intro w15 hb15 hu15
        have hV : Upd w13 w15 nobody := hu14.fresh hu15 fun j hj => by omega
        have hud : Upd w15 w15.drew nobody := Upd.drew _ _
        have hU15 := ((hU12.trans hu13).trans hV).trans hud
        have hrow15 := ((hrow12.upd hu13 (fun _ _ h => h)).upd hV (fun _ _ h => h)).upd hud (fun _ _ h => h)
        have hbag15 := ((hbag12.keep hu13).keep hV).keep hud
        refine num_ok.mono ?_
        rintro r w16 ⟨rfl, rfl⟩
        rw [SplitB_iff]
        refine ⟨fun h => by simp at h, fun _ => ?_⟩
        have hg15 := mkg _ hU15 hrow15
        have hget : al[k'].1 = xs2[k'].1 := by
          have h0 : (cont xs2)[k']? = (cont al)[k']? := by rw [hc2]
          simp only [cont, List.getElem?_map, List.getElem?_eq_getElem hk', List.getElem?_eq_getElem hlt, Option.map_some] at h0
          exact (Option.some.inj h0).symm
        refine ReadN.loadA (kd := KL) (x := (xs2[k'].1.f, xs2[k'].1.t, q, ())) ag31 (hb15.upd hud (fun h => h)) rfl rfl ?_
        obtain ⟨bb, o, haa, hld⟩ := hg15.at hlt
        refine ReadN.of (kd := .addr) (run_idx et22 haa (by omega) (by omega)) ?_
        simp only [Int.toNat_natCast]
        refine ReadN.of (kd := KL) (x := (al[k'].1.f, al[k'].1.t, al[k'].2, ())) hld ?_
        refine (alike_ok ((hq.upd hV (fun _ _ h => h)).upd hud (fun _ _ h => h)).rd (hg15.each al[k'] (List.getElem_mem _)).1).mono ?_
        rintro r w17 ⟨hu17, hr⟩
        have hr : r = true := hr.2 ⟨by rw [← hget], by rw [← hget], by rw [← hget]⟩
        subst hr
        rw [SplitB_iff]
        refine ⟨fun h => by simp at h, fun _ => ?_⟩
        have hk1 : IntKind.i64.wrap ((k' : Int) + 1) = ((k' + 1 : Nat) : Int) := by rw [IntWalk.i64_in _ ⟨by omega, by omega⟩]; omega
        rw [hk1]
        exact ⟨⟨k' + 1, by omega, rfl, hbag15.keep hu17, hU15.trans hu17, hrow15.upd hu17 (fun _ _ h => h)⟩, by omega⟩
      · intro _
        exact ⟨hU12, rfl⟩
end Go.Proofs.Ytmhjlngkdppgpaa
