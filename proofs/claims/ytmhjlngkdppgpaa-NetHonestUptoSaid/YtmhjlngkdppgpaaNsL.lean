/- The law of two bags in turns. -/
import Derived.Test.YtmhjlngkdppgpaaNsK
namespace Go.Proofs.Ytmhjlngkdppgpaa
open Go Go.Fw Go.RowKit
set_option linter.unusedVariables false
set_option linter.unusedSimpArgs false
set_option maxRecDepth 4000
set_option maxHeartbeats 2000000
variable {w0 w : World} {F : Grps}

theorem standsO (o : Option Pr) {n : Nat} (ok : OkO n o) {p : Pr} (hp : o = some p) (h : St w0 w (gsO o F)) : CallK Try.prog .bool 22 #[.pointer (ptO o)] w fun (r : Bool) w' => r = true ∧ St w0 w' (gsO o F) := by
  subst hp
  exact stands_st h (ok _ rfl)
theorem playsO {n : Nat} {o : Option Pr} (ok : OkO n o) (hn : n ≤ 1000000) {p : Pr} (hp : o = some p) (h : St w0 w (gsO o F)) {kk wh i j f0 t0 : Int} {d : Sl} {m0 : List UInt8} (hd : Sees w0 F d 1 (bys m0)) (hm0 : m0.length ≤ mega) :
    CallK Try.prog .bool 21 #[.pointer (ptO o), .agg #[.int .i64 kk, .int .i64 wh, .int .i64 i, .int .i64 j, .int .i64 f0, .int .i64 t0, .slice d.a d.len d.cap]] w fun (r : Bool) w' =>
      r = true ∧ ∃ o', ptO o' = ptO o ∧ OkO (n + 1) o' ∧ St w0 w' (gsO o' F) := by
  subst hp
  refine (plays_st h (ok _ rfl) hn hd hm0).mono ?_
  rintro r w ⟨rfl, p2, hQ, _, ok2, h⟩
  exact ⟨rfl, some p2, by simp [ptO, hQ], fun q hq => by cases hq; exact ok2, h⟩
theorem OkO.mono {n m : Nat} {o : Option Pr} (h : OkO n o) (hnm : n ≤ m) : OkO m o := fun p hp => (h p hp).mono hnm
theorem some_of {o : Option Pr} (h : (ptO o).isSome = true) : ∃ p, o = some p := by
  cases o with
  | none => cases h
  | some p => exact ⟨p, rfl⟩
theorem apartO {n : Nat} (o : Option Pr) (ok : OkO n o) (hn : n ≤ 1000000) {p : Pr} (hp : o = some p) (h : St w0 w (gsO o F)) : CallK Try.prog .bool 23 #[.pointer (ptO o)] w fun (r : Bool) w' => r = true ∧ St w0 w' F := by
  subst hp
  have ok1 := ok p rfl
  exact apart_st h (by have := ok1.fl; omega) (fun x hx => Nat.le_trans (ok1.fsl x hx) (by decide))

theorem law6 {wi : World} {s : Sl} {os : List Opv} (hs : Scr wi s os) {x y : Int} : CallK Try.prog .bool 6 #[.int .i64 x, .int .i64 y, .slice s.a s.len s.cap] wi fun (r : Bool) w' => Upd wi w' nobody ∧ r = true := by
  have hl := hs.len
  have h := St.init wi
  refine T6.calls ?_
  unfold T6
  refine (fits_st hs).mono ?_
  rintro r w ⟨hw, hfit⟩
  have hw := hw.symm
  subst hw
  rw [SplitB_iff]
  refine ⟨fun hc => ?_, fun hc => ?_⟩
  · exact ⟨Upd.refl _ _, rfl⟩
  · obtain ⟨h2000, hmg⟩ := hfit (by simpa using hc)
    refine (alive_st h).mono ?_
    rintro r w ⟨rfl, h⟩
    refine (madeO_st h (x := x)).mono ?_
    rintro r w ⟨o1, ok1, rfl, h⟩
    refine (madeO_st h (x := y)).mono ?_
    rintro r w ⟨o2, ok2, rfl, h⟩
    have h := gsO_swap h
    refine JoinX.mk (fun j w' => j.1 = false ∧ St wi w' (gsO o1 (gsO o2 []))) ?_ ?_
    · rintro ⟨_, ⟨⟩⟩ w ⟨hj, h⟩
      dsimp only at hj h ⊢
      subst hj
      rw [SplitB_iff]
      refine ⟨fun hz => ?_, fun hz => ?_⟩
      · simp at hz
      · refine LoopX.mk (fun st w' => ∃ (k : Nat) (u1 u2 : Option Pr), k ≤ os.length ∧ st.1 = (k : Int) ∧ ptO u1 = ptO o1 ∧ ptO u2 = ptO o2 ∧ OkO k u1 ∧ OkO k u2 ∧ St wi w' (gsO u1 (gsO u2 []))) (fun st => os.length - st.1.toNat) ⟨0, o1, o2, by omega, rfl, rfl, rfl, ok1, ok2, h⟩ ?_
        clear h
        rintro ⟨_, ⟨⟩⟩ w ⟨k, u1, u2, hk, rfl, hQ1, hQ2, ok1, ok2, h⟩ K hK
        dsimp only at h hK ⊢
        rw [← hQ1, ← hQ2]
        rw [SplitB_iff]
        refine ⟨fun hc => ?_, fun hc => ?_⟩
        · have hc : k < os.length := by have := of_decide_eq_true hc; omega
          have hcap := hs.rd.2.2
          refine JoinX.mk (fun j w' => j.1 = true ∧ ∃ u, ptO u = ptO u1 ∧ OkO (k + 1) u ∧ St wi w' (gsO u (gsO u2 []))) ?_ ?_
          · rintro ⟨_, ⟨⟩⟩ w ⟨hj, v1, hv1, okv1, h⟩
            dsimp only at hj h ⊢
            subst hj
            rw [← hv1]
            refine JoinX.mk (fun j w' => j.1 = true ∧ ∃ u, ptO u = ptO u2 ∧ OkO (k + 1) u ∧ St wi w' (gsO v1 (gsO u []))) ?_ ?_
            · rintro ⟨_, ⟨⟩⟩ w ⟨hj, v2, hv2, okv2, h⟩
              dsimp only at hj h ⊢
              subst hj
              rw [← hv2]
              refine JoinX.mk (fun j w' => j.1 = false ∧ St wi w' (gsO v1 (gsO v2 []))) ?_ ?_
              · rintro ⟨_, ⟨⟩⟩ w ⟨hj, h⟩
                dsimp only at hj h ⊢
                subst hj
                rw [SplitB_iff]
                refine ⟨fun hz => ?_, fun hz => ?_⟩
                · simp at hz
                · exact hK _ _ ⟨k + 1, v1, v2, hc, by dsimp only; rw [wr (by omega)]; omega, hv1.trans hQ1, hv2.trans hQ2, okv1, okv2, h⟩ (by dsimp only; rw [wr (by omega)]; omega)
              · intro k9 hk9
                rw [SplitB_iff]
                refine ⟨fun hz => ?_, fun hz => ?_⟩
                · simp at hz
                · refine RunN.pNe _ ?_
                  rw [SplitB_iff]
                  refine ⟨fun hp => ?_, fun hp => ?_⟩
                  · obtain ⟨p, hp⟩ := some_of hp
                    refine (standsO v1 okv1 hp h).mono ?_
                    rintro r w ⟨rfl, h⟩
                    rw [SplitB_iff]
                    refine ⟨fun hz => ?_, fun hz => ?_⟩
                    · simp at hz
                    · refine RunN.pNe _ ?_
                      rw [SplitB_iff]
                      refine ⟨fun hp2 => ?_, fun hp2 => ?_⟩
                      · obtain ⟨p2, hp2⟩ := some_of hp2
                        refine (standsO v2 okv2 hp2 (gsO_swap h)).mono ?_
                        rintro r w ⟨rfl, h⟩
                        exact hk9 _ _ ⟨rfl, gsO_swap h⟩
                      · exact hk9 _ _ ⟨rfl, h⟩
                  · refine RunN.pNe _ ?_
                    rw [SplitB_iff]
                    refine ⟨fun hp2 => ?_, fun hp2 => ?_⟩
                    · obtain ⟨p2, hp2⟩ := some_of hp2
                      refine (standsO v2 okv2 hp2 (gsO_swap h)).mono ?_
                      rintro r w ⟨rfl, h⟩
                      exact hk9 _ _ ⟨rfl, gsO_swap h⟩
                    · exact hk9 _ _ ⟨rfl, h⟩
            · intro k7 hk7
              refine JoinX.mk (fun j w' => (j.1 = true → ∃ p, u2 = some p) ∧ St wi w' (gsO v1 (gsO u2 []))) ?_ ?_
              · rintro ⟨j, ⟨⟩⟩ w ⟨hj, h⟩
                dsimp only at hj h ⊢
                rw [SplitB_iff]
                refine ⟨fun hz => ?_, fun hz => ?_⟩
                · obtain ⟨p, hp⟩ := hj hz
                  refine (h.old hs.rd).idxK k rfl (by omega) ?_
                  intro b o hb
                  refine (h.old hs.rd).elA hb (k * 7) rfl (os[k].kk, os[k].wh, os[k].i, os[k].j, os[k].f, os[k].t, os[k].d, ()) (ops_at _ _ hc) ?_
                  refine (playsO ok2 (by omega) hp (gsO_swap h) (fun w h => h.old (hs.each os[k] (List.getElem_mem _)).1) (hmg os[k] (List.getElem_mem _))).mono ?_
                  rintro r w ⟨rfl, u, hu, oku, h⟩
                  exact hk7 _ _ ⟨rfl, u, hu, oku, gsO_swap h⟩
                · exact hk7 _ _ ⟨rfl, u2, rfl, ok2.mono (Nat.le_succ k), h⟩
              · intro k11 hk11
                refine (h.old hs.rd).idxK k rfl (by omega) ?_
                intro b o hb
                refine (h.old hs.rd).el hb (k * 7 + 1) (by simp only [add_lit', Nat.add_assoc]) (kd := .int .i64) (x := os[k].wh) (by rw [ops_get os k 1 hc (by decide)]; rfl) ?_
                rw [SplitB_iff]
                refine ⟨fun hz => ?_, fun hz => ?_⟩
                · refine RunN.pNe _ ?_
                  exact hk11 _ _ ⟨fun hp => some_of hp, h⟩
                · exact hk11 _ _ ⟨(fun hp => by cases hp), h⟩
          · intro k5 hk5
            refine JoinX.mk (fun j w' => (j.1 = true → ∃ p, u1 = some p) ∧ St wi w' (gsO u1 (gsO u2 []))) ?_ ?_
            · rintro ⟨j, ⟨⟩⟩ w ⟨hj, h⟩
              dsimp only at hj h ⊢
              rw [SplitB_iff]
              refine ⟨fun hz => ?_, fun hz => ?_⟩
              · obtain ⟨p, hp⟩ := hj hz
                refine (h.old hs.rd).idxK k rfl (by omega) ?_
                intro b o hb
                refine (h.old hs.rd).elA hb (k * 7) rfl (os[k].kk, os[k].wh, os[k].i, os[k].j, os[k].f, os[k].t, os[k].d, ()) (ops_at _ _ hc) ?_
                refine (playsO ok1 (by omega) hp h (fun w h => h.old (hs.each os[k] (List.getElem_mem _)).1) (hmg os[k] (List.getElem_mem _))).mono ?_
                rintro r w ⟨rfl, u, hu, oku, h⟩
                exact hk5 _ _ ⟨rfl, u, hu, oku, h⟩
              · exact hk5 _ _ ⟨rfl, u1, rfl, ok1.mono (Nat.le_succ k), h⟩
            · intro k13 hk13
              refine (h.old hs.rd).idxK k rfl (by omega) ?_
              intro b o hb
              refine (h.old hs.rd).el hb (k * 7 + 1) (by simp only [add_lit', Nat.add_assoc]) (kd := .int .i64) (x := os[k].wh) (by rw [ops_get os k 1 hc (by decide)]; rfl) ?_
              rw [SplitB_iff]
              refine ⟨fun hz => ?_, fun hz => ?_⟩
              · refine RunN.pNe _ ?_
                exact hk13 _ _ ⟨fun hp => some_of hp, h⟩
              · exact hk13 _ _ ⟨(fun hp => by cases hp), h⟩
        · refine RunN.pEq _ ?_
          rw [SplitB_iff]
          refine ⟨fun hp => ?_, fun hp => ?_⟩
          · refine RunN.pEq _ ?_
            rw [SplitB_iff]
            refine ⟨fun hp2 => ?_, fun hp2 => ?_⟩
            · exact ⟨h.upd, rfl⟩
            · obtain ⟨p2, hp2⟩ := some_of (o := u2) (by simpa using hp2)
              refine (apartO u2 ok2 (by omega) hp2 (gsO_swap h)).mono ?_
              rintro r w ⟨rfl, h⟩
              exact ⟨h.upd, rfl⟩
          · obtain ⟨p, hp⟩ := some_of (o := u1) (by simpa using hp)
            refine (apartO u1 ok1 (by omega) hp h).mono ?_
            rintro r w ⟨rfl, h⟩
            rw [SplitB_iff]
            refine ⟨fun hz => ?_, fun hz => ?_⟩
            · refine RunN.pEq _ ?_
              rw [SplitB_iff]
              refine ⟨fun hp2 => ?_, fun hp2 => ?_⟩
              · exact ⟨h.upd, rfl⟩
              · obtain ⟨p2, hp2⟩ := some_of (o := u2) (by simpa using hp2)
                refine (apartO u2 ok2 (by omega) hp2 h).mono ?_
                rintro r w ⟨rfl, h⟩
                exact ⟨h.upd, rfl⟩
            · simp at hz
    · intro k1 hk1
      rw [SplitB_iff]
      refine ⟨fun hz => ?_, fun hz => ?_⟩
      · simp at hz
      · skip
        rw [SplitB_iff]
        refine ⟨fun hz => ?_, fun hz => ?_⟩
        · simp at hz
        · exact hk1 _ _ ⟨rfl, h⟩
end Go.Proofs.Ytmhjlngkdppgpaa
