/- The cache: a reply is kept. -/
import Derived.Test.YtbdhmeefjlkdcaaCkC
namespace Go.Proofs.Ytbdhmeefjlkdcaa
open Go Go.Fw Go.RowKit
set_option linter.unusedVariables false
set_option linter.unusedSimpArgs false
set_option maxRecDepth 4000
set_option maxHeartbeats 2000000
variable {w0 w : World} {F G : Grps}

def insL (l : List Rp) (i : Nat) (r : Rp) : List Rp := l.take i ++ r :: l.drop i
/-- What is kept next to a reply that is new. -/
def keepL (room : Nat) (l : List Rp) (i : Nat) (r : Rp) : List Rp := if l.length < room then insL l i r else (insL l i r).drop 1
theorem kept_len {s : Ses} (hs : s.wf) : s.kept.length = s.n := by have := hs.n; have := hs.ring; simp [Ses.kept]; omega
theorem keep_st (h : St w0 w G) {k i : Nat} {s : Ses} (he : Has G k i (sesE s)) (hs : s.wf) (r : Rp) (room : Nat) (hroom : 1 ≤ room ∧ room ≤ 16) (hn : s.n ≤ room) :
    CallK Try.prog (.tup .nilT) 26 #[.pointer s.p, .agg #[.int .i64 r.1, .int .i64 r.2.1, .int .i64 r.2.2.1, .int .i64 r.2.2.2], .int .i64 (room : Int)] w fun _ w' =>
      ∃ j ring' n', LB (ids s.kept) r.2.1 j ∧ ring'.length = 16 ∧ n' ≤ room ∧ ring'.take n' = keepL room s.kept j r ∧ St w0 w' (updG G k i [sesE { s with ring := ring', n := n' }]) := by
  have hr16 := hs.ring
  have hkl := kept_len hs
  refine T26.calls (p1 := rpt r) ?_
  unfold T26
  refine h.newB run_boxA rfl ?_
  intro b w1 h
  refine h.loadB 0 0 ⟨_, rfl, rfl⟩ rfl rfl ?_
  have he1 : Has ([.cel b 43 (rpv r)] :: G) (k + 1) i (sesE s) := he
  refine (find_st h he1 hs _).mono ?_
  rintro _ w2 ⟨hu, j, hj, rfl⟩
  have hjn : j ≤ s.n := by have := hj.1; simp only [ids, List.length_map, hkl] at this; exact this
  have h := h.keep hu
  refine NilP.mk ?_
  refine h.loadB (k + 1) i he1 rfl (sesC_n hr16) ?_
  rw [SplitB_iff]
  refine ⟨fun hc => ?_, fun hc => ?_⟩
  · have hc : s.n < room := by have : (s.n : Int) < (room : Int) := of_decide_eq_true hc; omega
    refine NilP.mk (NilP.mk ?_)
    refine h.drew.readB (k + 1) i he1 rfl (sesC_n hr16) ?_
    refine ReadN.arrLH (j + 1) (s.n + 1) (by show IntKind.i64.wrap ((j : Int) + 1) = _; rw [wr (by omega)]; omega) (by show IntKind.i64.wrap ((s.n : Int) + 1) = _; rw [wr (by omega)]; omega) (by omega) (by omega) ?_
    refine NilP.mk (NilP.mk ?_)
    refine h.drew.readB (k + 1) i he1 rfl (sesC_n hr16) ?_
    refine ReadN.arrLH j s.n rfl rfl hjn hs.n ?_
    have hrd := h.drew.arrRd (k + 1) i he1 (o := 2) (n := 16) (sz := 4) (by rw [sesC_len hr16]; decide) hjn hs.n
    rw [sesC_sub hr16 j s.n hjn hs.n] at hrd
    have hml : ((s.ring.take s.n).drop j).length = s.n - j := by simp; have := hs.n; omega
    refine h.drew.copyC (k + 1) i he1 (2 + (j + 1) * 4) (fun hd => ?_) (by rw [sesC_len hr16]; simp only [subS]; omega) hrd (rps_one _) ?_
    · rw [subS_addr (b := s.b) (o := 2) rfl (by dsimp only; simp only [subS] at hd; omega)]
    intro w3 h
    have hm : Nat.min (subS ⟨some ⟨s.b, 2, none⟩, 16, 16⟩ j s.n 4).len (subS ⟨some ((⟨s.b, 0, none⟩ : Addr).add 2), 16, 16⟩ (j + 1) (s.n + 1) 4).len = ((s.ring.take s.n).drop j).length := by
      rw [hml]; simp only [subS]; rw [Nat.add_sub_add_right]; exact Nat.min_self _
    have htk : (rps ((s.ring.take s.n).drop j)).take (((s.ring.take s.n).drop j).length * 4) = rps ((s.ring.take s.n).drop j) := List.take_of_length_le (by rw [flat_len rpv_len]; omega)
    rw [hm, htk, sesC_put hr16 (j + 1) _ (by rw [hml]; omega)] at h
    have hl1 := put_len (a := j + 1) (m := (s.ring.take s.n).drop j) hr16 (by rw [hml]; omega)
    generalize hrg : s.ring.take (j + 1) ++ (s.ring.take s.n).drop j ++ s.ring.drop (j + 1 + ((s.ring.take s.n).drop j).length) = ring1 at h hl1
    have he2 : Has (updG ([Ent.cel b 43 (rpv r)] :: G) (k + 1) i [.cel s.b 68 (sesC { s with ring := ring1 })]) (k + 1) i (sesE { s with ring := ring1 }) := has_upd he1 _
    have h : St w0 w3 (updG ([Ent.cel b 43 (rpv r)] :: G) (k + 1) i [.cel s.b 68 (sesC { s with ring := ring1 })]) := h
    refine ReadN.of (kd := .agg (.cons (.int .i64) (.cons (.int .i64) (.cons (.int .i64) (.cons (.int .i64) .nilT))))) (x := rpt r) (h.drew.run_loadA (k := 0) (i := 0) (b := b) (t := 43) (cs := rpv r) ⟨_, rfl, rfl⟩ (t' := 43) (n := 4) (j := 0) rfl (vs := rpv r) rfl rfl) ?_
    refine NilP.mk ?_
    refine ReadN.arrs (g := s.b) (o := 2) rfl j rfl (by omega) ?_
    refine h.drew.storA (k + 1) i he2 (t' := 43) (n := 4) rfl (ds := rpv r) rfl (by rw [sesC_len (s := { s with ring := ring1 }) hl1]; exact Nat.ble_eq_true_of_le (by omega)) rfl ?_
    intro w4 h
    have e3 := sesC_put (s := { s with ring := ring1 }) hl1 j [r] (by simp; omega)
    simp only [rps, List.flatMap_cons, List.flatMap_nil, List.append_nil, List.length_cons, List.length_nil, Nat.zero_add, Nat.one_mul] at e3
    rw [e3, upd_upd he1] at h
    have hl2 := put_len (a := j) (m := [r]) hl1 (by simp; omega)
    simp only [List.length_cons, List.length_nil, Nat.zero_add] at hl2
    generalize hrg2 : ring1.take j ++ [r] ++ ring1.drop (j + 1) = ring2 at h hl2
    have he3 : Has (updG ([Ent.cel b 43 (rpv r)] :: G) (k + 1) i [.cel s.b 68 (sesC { s with ring := ring2 })]) (k + 1) i (sesE { s with ring := ring2 }) := has_upd he1 _
    have h : St w0 w4 (updG ([Ent.cel b 43 (rpv r)] :: G) (k + 1) i [.cel s.b 68 (sesC { s with ring := ring2 })]) := h
    refine NilP.mk ?_
    refine h.loadB (k + 1) i he3 rfl (sesC_n hl2) ?_
    refine NilP.mk ?_
    refine h.storB (k + 1) i he3 rfl (by rw [sesC_len (s := { s with ring := ring2 }) hl2]; rfl) rfl ?_
    intro w5 h
    have e4 : setO (sesC { s with ring := ring2 }) 66 (.int .i64 (IntKind.i64.wrap ((s.n : Int) + 1))) = sesC { s with ring := ring2, n := s.n + 1 } := by
      have e5 : IntKind.i64.wrap ((s.n : Int) + 1) = ((s.n + 1 : Nat) : Int) := by rw [wr (by omega)]; omega
      have e6 : (rps ring2).length = 64 := by rw [flat_len rpv_len, hl2]
      rw [setO_set, e5, sesC, sesC, List.set_append_right _ _ (by simp only [List.length_append, e6, List.length_cons, List.length_nil]; omega)]
      simp only [List.length_append, e6, List.length_cons, List.length_nil]
      rfl
    have h : St w0 w5 (updG (updG ([Ent.cel b 43 (rpv r)] :: G) (k + 1) i [.cel s.b 68 (sesC { s with ring := ring2 })]) (k + 1) i [.cel s.b 68 (setO (sesC { s with ring := ring2 }) 66 (.int .i64 (IntKind.i64.wrap ((s.n : Int) + 1))))]) := h
    rw [e4, upd_upd he1] at h
    refine ⟨j, ring2, s.n + 1, hj, hl2, by omega, ?_, h.drop 0⟩
    rw [keepL, hkl, if_pos hc, insL, ← hrg2, ← hrg, Ses.kept]
    refine List.ext_getElem? fun m => ?_
    simp only [List.getElem?_append, List.getElem?_take, List.getElem?_drop, List.length_append, List.length_take, List.length_drop, List.getElem?_cons, List.length_cons, List.length_nil, hr16]
    have := hs.n
    repeat' split
    all_goals first | rfl | (exfalso; omega) | (congr 1; omega) | skip
  · have hc : s.n = room := by have : ¬ (s.n : Int) < (room : Int) := of_decide_eq_false hc; omega
    rw [SplitB_iff]
    refine ⟨fun hd => ?_, fun hd => ?_⟩
    · have hd : 0 < j := by have : (j : Int) > 0 := of_decide_eq_true hd; omega
      have ej : IntKind.i64.wrap ((j : Int) - 1) = ((j - 1 : Nat) : Int) := by rw [wr (by omega)]; omega
      refine NilP.mk ?_
      refine ReadN.arrH (j - 1) ej (by omega) ?_
      refine NilP.mk ?_
      refine ReadN.arrLH 1 j rfl rfl (by omega) (by omega) ?_
      have hrd := h.drew.arrRd (k + 1) i he1 (o := 2) (n := 16) (sz := 4) (by rw [sesC_len hr16]; decide) (show 1 ≤ j by omega) (show j ≤ 16 by omega)
      rw [sesC_sub hr16 1 j (by omega) (by omega)] at hrd
      have hml : ((s.ring.take j).drop 1).length = j - 1 := by simp; omega
      refine h.drew.copyC (k + 1) i he1 (2 + 0 * 4) (fun hd => ?_) (by rw [sesC_len hr16]; simp only [subS]; omega) hrd (rps_one _) ?_
      · rw [subS_zero]; rfl
      intro w3 h
      have hm : Nat.min (subS ⟨some ⟨s.b, 2, none⟩, 16, 16⟩ 1 j 4).len (subS ⟨some ((⟨s.b, 0, none⟩ : Addr).add 2), 16, 16⟩ 0 (j - 1) 4).len = ((s.ring.take j).drop 1).length := by
        rw [hml]; simp only [subS]; rw [Nat.sub_zero]; exact Nat.min_self _
      have htk : (rps ((s.ring.take j).drop 1)).take (((s.ring.take j).drop 1).length * 4) = rps ((s.ring.take j).drop 1) := List.take_of_length_le (by rw [flat_len rpv_len]; omega)
      rw [hm, htk, sesC_put hr16 0 _ (by rw [hml]; omega)] at h
      have hl1 := put_len (a := 0) (m := (s.ring.take j).drop 1) hr16 (by rw [hml]; omega)
      generalize hrg : s.ring.take 0 ++ (s.ring.take j).drop 1 ++ s.ring.drop (0 + ((s.ring.take j).drop 1).length) = ring1 at h hl1
      have he2 : Has (updG ([Ent.cel b 43 (rpv r)] :: G) (k + 1) i [.cel s.b 68 (sesC { s with ring := ring1 })]) (k + 1) i (sesE { s with ring := ring1 }) := has_upd he1 _
      have h : St w0 w3 (updG ([Ent.cel b 43 (rpv r)] :: G) (k + 1) i [.cel s.b 68 (sesC { s with ring := ring1 })]) := h
      refine ReadN.of (kd := .agg (.cons (.int .i64) (.cons (.int .i64) (.cons (.int .i64) (.cons (.int .i64) .nilT))))) (x := rpt r) (h.drew.run_loadA (k := 0) (i := 0) (b := b) (t := 43) (cs := rpv r) ⟨_, rfl, rfl⟩ (t' := 43) (n := 4) (j := 0) rfl (vs := rpv r) rfl rfl) ?_
      refine NilP.mk ?_
      refine ReadN.arrs (g := s.b) (o := 2) rfl (j - 1) ej (by omega) ?_
      refine h.drew.storA (k + 1) i he2 (t' := 43) (n := 4) rfl (ds := rpv r) rfl (by rw [sesC_len (s := { s with ring := ring1 }) hl1]; exact Nat.ble_eq_true_of_le (by omega)) rfl ?_
      intro w4 h
      have e3 := sesC_put (s := { s with ring := ring1 }) hl1 (j - 1) [r] (by simp; omega)
      simp only [rps, List.flatMap_cons, List.flatMap_nil, List.append_nil, List.length_cons, List.length_nil, Nat.zero_add, Nat.one_mul] at e3
      rw [e3, upd_upd he1] at h
      have hl2 := put_len (a := j - 1) (m := [r]) hl1 (by simp; omega)
      simp only [List.length_cons, List.length_nil, Nat.zero_add] at hl2
      generalize hrg2 : ring1.take (j - 1) ++ [r] ++ ring1.drop (j - 1 + 1) = ring2 at h hl2
      have h : St w0 w4 (updG ([Ent.cel b 43 (rpv r)] :: G) (k + 1) i [.cel s.b 68 (sesC { s with ring := ring2 })]) := h
      refine ⟨j, ring2, s.n, hj, hl2, by omega, ?_, h.drop 0⟩
      rw [keepL, hkl, if_neg (by omega), insL, ← hrg2, ← hrg, Ses.kept]
      refine List.ext_getElem? fun m => ?_
      simp only [List.getElem?_append, List.getElem?_take, List.getElem?_drop, List.length_append, List.length_take, List.length_drop, List.getElem?_cons, List.length_cons, List.length_nil, hr16]
      have := hs.n
      repeat' split
      all_goals first | rfl | (exfalso; omega) | (congr 1; omega) | skip
    · have hd : j = 0 := by have : ¬ (j : Int) > 0 := of_decide_eq_false hd; omega
      subst hd
      refine ⟨0, s.ring, s.n, hj, hr16, by omega, ?_, ?_⟩
      · rw [keepL, hkl, if_neg (by omega), insL]; rfl
      · have e : updG G k i [sesE { s with ring := s.ring, n := s.n }] = G := upd_self he
        rw [e]
        exact h.drop 0
end Go.Proofs.Ytbdhmeefjlkdcaa
