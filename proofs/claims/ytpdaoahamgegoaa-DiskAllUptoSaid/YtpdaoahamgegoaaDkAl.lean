/- The law of all calls, of two disks in turns. -/
import Derived.Test.YtpdaoahamgegoaaDkHo
namespace Go.Proofs.Ytpdaoahamgegoaa
open Go Go.Fw Go.RowKit
set_option linter.unusedVariables false
set_option linter.unusedSimpArgs false
set_option maxRecDepth 4000
set_option maxHeartbeats 4000000
variable {w0 w : World} {F G : Grps} {p : Q} {N : Nat} {d : D}

/-- A pair, or none. -/
def ptO : Option Q → Option Addr
  | none => none
  | some p => some ⟨p.b, 0, none⟩
def gsO (o : Option Q) (F : Grps) : Grps := match o with
  | none => F
  | some p => gs p F
def OkO (N : Nat) (o : Option Q) : Prop := ∀ p, o = some p → POk N p
theorem OkO.mono {N M : Nat} {o : Option Q} (h : OkO N o) (hm : N ≤ M) : OkO M o := fun p hp => (h p hp).mono hm
theorem gsO_app (o : Option Q) (A B : Grps) : gsO o (A ++ B) = gsO o A ++ B := by cases o <;> rfl
theorem gsO_nil (o : Option Q) (F : Grps) : gsO o F = gsO o [] ++ F := by cases o <;> rfl
/-- The two stand in any order. -/
theorem swapO {a b : Option Q} (h : St w0 w (gsO a (gsO b F))) : St w0 w (gsO b (gsO a F)) := by
  rw [gsO_nil a, gsO_nil b, ← List.append_assoc] at h
  rw [gsO_nil b, gsO_nil a, ← List.append_assoc]
  refine h.perm ?_
  simp only [List.flatten_append]
  exact List.Perm.append_right _ List.perm_append_comm
theorem gsO_F {a : Option Q} (h : St w0 w (gsO a F)) : St w0 w F := by
  cases a with
  | none => exact h
  | some p => exact gs_F h
theorem playsO (o : Option Q) {N : Nat} (ok : OkO N o) (hN : N ≤ 100000) {p : Q} (hp : o = some p) (h : St w0 w (gsO o F)) {s : Sl} {os : List Ov} (hs : SeesO w0 F s os) (hf : Fine os) (lo hi : Int) :
    CallK Try.prog .bool 34 #[.pointer (ptO o), .slice s.a s.len s.cap, .int .i64 lo, .int .i64 hi] w fun (r : Bool) w' => r = true ∧ ∃ o', ptO o' = ptO o ∧ OkO (N + 2 * os.length) o' ∧ St w0 w' (gsO o' F) := by
  subst hp
  refine (plays_st h (ok _ rfl) hN hs hf lo hi).mono ?_
  rintro r w ⟨rfl, p', hb, ok', h⟩
  exact ⟨rfl, some p', by simp [ptO, hb], fun q hq => by cases hq; exact ok', h⟩
theorem apartO (o : Option Q) {N : Nat} (ok : OkO N o) {p : Q} (hp : o = some p) (h : St w0 w (gsO o F)) {a : Addr} (ha : ptO o = some a) : CallK Try.prog .bool 35 #[.pointer (some (a.add 2))] w fun (r : Bool) w' => r = true ∧ St w0 w' F := by
  subst hp
  cases ha
  exact apart_st h (ok _ rfl).q
theorem someO {o : Option Q} (h : (ptO o).isSome = true) : ∃ p, o = some p := by
  cases o with
  | none => cases h
  | some p => exact ⟨p, rfl⟩
theorem neO {o : Option Q} {x y : Operand} {K : Bool → World → Prop} (h : K (ptO o).isSome w) : RunN Try.prog .bool (V (do eqGuard .neq 54 x y (.pointer (ptO o)) (.pointer none); binOp .neq 54 (.pointer (ptO o)) (.pointer none))) w K := by
  cases o with
  | none => exact RunN.pNeN h
  | some p => exact RunN.pNeS h
theorem eqO {o : Option Q} {x y : Operand} {K : Bool → World → Prop} (h : K (ptO o).isNone w) : RunN Try.prog .bool (V (do eqGuard .eql 54 x y (.pointer (ptO o)) (.pointer none); binOp .eql 54 (.pointer (ptO o)) (.pointer none))) w K := by
  cases o with
  | none => exact RunN.pEqN h
  | some p => exact RunN.pEqS h
theorem madeO (h : St w0 w F) (n : Int) : CallK Try.prog (.tup (.cons .ptr (.cons .bool .nilT))) 32 #[.int .i64 n] w fun (x : Option Addr × Bool × Unit) w' => ∃ o, x = (ptO o, true, ()) ∧ OkO 0 o ∧ St w0 w' (gsO o F) := by
  refine (made_st h n).mono ?_
  rintro x w hx
  rcases hx with ⟨_, rfl, h⟩ | ⟨b, d, r, rfl, ok, h⟩
  · exact ⟨none, rfl, fun p hp => (by cases hp), h⟩
  · exact ⟨some (q0 b d r), rfl, fun p hp => by cases hp; exact ok, h⟩
theorem takenO (h : St w0 w F) {p : Sl} {l : List UInt8} (hp : SeesG w0 F p 1 (bys l)) (hl : l.length ≤ 4194304) : CallK Try.prog (.tup (.cons .ptr (.cons .bool .nilT))) 33 #[.slice p.a p.len p.cap] w fun (x : Option Addr × Bool × Unit) w' => ∃ o, x = (ptO o, true, ()) ∧ OkO 0 o ∧ St w0 w' (gsO o F) := by
  refine (taken_st h hp hl).mono ?_
  rintro x w hx
  rcases hx with ⟨rfl, h⟩ | ⟨b, d, r, rfl, ok, _, _, h⟩
  · exact ⟨none, rfl, fun p hp => (by cases hp), h⟩
  · exact ⟨some (q0 b d r), rfl, fun p hp => by cases hp; exact ok, h⟩
theorem one_scr {wi : World} {s : Sl} {os : List Ov} (hs : Scr wi s os) (F : Grps) {k : Nat} (hk : k < os.length) : SeesO wi F (subS s k (k + 1) 5) [os[k]] := fun w h => by
  have hl := hs.len
  refine ⟨?_, fun o ho => ?_⟩
  · have := (h.old hs.rd).subS (lo := k) (hi := k + 1) (by omega) (by omega)
    rw [show (k + 1 - k) * 5 = 5 by omega, ovs_at os k hk] at this
    simpa [ovs] using this
  · simp at ho; subst ho
    exact h.old (hs.each _ (List.getElem_mem hk)).1
theorem law9 {wi : World} {s a : Sl} {os : List Ov} {l : List UInt8} (hs : Scr wi s os) (ha : Rd wi a 1 (bys l)) {x : Int} : CallK Try.prog .bool 9 #[.int .i64 x, .slice a.a a.len a.cap, .slice s.a s.len s.cap] wi fun (r : Bool) w' => Upd wi w' nobody ∧ r = true := by
  have hal := ha.bys_len
  have hl := hs.len
  have hcap := hs.rd.2.2
  refine T9.calls ?_
  unfold T9
  refine (fits_st hs x).mono ?_
  rintro r w ⟨hw, hfit⟩
  have hw := hw.symm
  subst hw
  rw [SplitB_iff]
  refine ⟨fun _ => ⟨Upd.refl _ _, rfl⟩, fun hc => ?_⟩
  obtain ⟨hfine, ha22⟩ := hfit (by simpa using hc)
  have h300 := hfine.len
  have h := St.init wi
  refine (alive_st h).mono ?_
  rintro r w1 ⟨rfl, h⟩
  refine (madeO h x).mono ?_
  rintro y w1 ⟨o1, rfl, ok1, h⟩
  refine (takenO h (p := a) (l := l) (fun w h => h.old ha) (by omega)).mono ?_
  rintro z w1 ⟨o2, rfl, ok2, h⟩
  have h := swapO h
  refine JoinX.mk (fun j w' => j.1 = false ∧ St wi w' (gsO o1 (gsO o2 []))) ?_ ?_
  rotate_left
  · intro k1 hk1
    rw [SplitB_iff]
    refine ⟨(fun hz => by cases hz), fun _ => ?_⟩
    rw [SplitB_iff]
    refine ⟨(fun hz => by cases hz), fun _ => ?_⟩
    exact hk1 _ _ ⟨rfl, h⟩
  clear h
  rintro ⟨_, ⟨⟩⟩ w1 ⟨hj, h⟩
  dsimp only at hj h ⊢
  subst hj
  rw [SplitB_iff]
  refine ⟨(fun hz => by cases hz), fun _ => ?_⟩
  refine LoopX.mk (fun st w' => ∃ (k : Nat) (u1 u2 : Option Q), k ≤ os.length ∧ st.1 = (k : Int) ∧ ptO u1 = ptO o1 ∧ ptO u2 = ptO o2 ∧ OkO (2 * k) u1 ∧ OkO (2 * k) u2 ∧ St wi w' (gsO u1 (gsO u2 []))) (fun st => os.length - st.1.toNat) ⟨0, o1, o2, by omega, rfl, rfl, rfl, ok1, ok2, h⟩ ?_
  clear h
  rintro ⟨_, ⟨⟩⟩ w1 ⟨k, u1, u2, hk, rfl, hQ1, hQ2, ok1, ok2, h⟩ K hK
  dsimp only at h hK ⊢
  rw [← hQ1, ← hQ2]
  rw [SplitB_iff]
  refine ⟨fun hc => ?_, fun hc => ?_⟩
  · have hc : k < os.length := by have := of_decide_eq_true hc; omega
    have v1 : (ovs os)[k * 5 + 1]? = some (Kd.val (.int .i64) os[k].who) := by rw [ovs_get os k 1 hc (by decide)]; rfl
    have hf1 : Fine [os[k]] := ⟨by simp, fun o ho => by simp at ho; subst ho; exact hfine.b _ (List.getElem_mem hc), fun o ho => by simp at ho; subst ho; exact hfine.n _ (List.getElem_mem hc)⟩
    refine RunN.sLH (s := s) k (k + 1) rfl (by rw [wr (by omega)]; omega) (by omega) (by omega) ?_
    refine JoinX.mk (fun j w' => j.1 = true ∧ ∃ u, ptO u = ptO u1 ∧ OkO (2 * (k + 1)) u ∧ St wi w' (gsO u (gsO u2 []))) ?_ ?_
    · clear h
      rintro ⟨_, ⟨⟩⟩ w1 ⟨hj, v1', hv1, okv1, h⟩
      dsimp only at hj h ⊢
      subst hj
      refine JoinX.mk (fun j w' => j.1 = true ∧ ∃ u, ptO u = ptO u2 ∧ OkO (2 * (k + 1)) u ∧ St wi w' (gsO v1' (gsO u []))) ?_ ?_
      · clear h
        rintro ⟨_, ⟨⟩⟩ w1 ⟨hj, v2, hv2, okv2, h⟩
        dsimp only at hj h ⊢
        subst hj
        rw [SplitB_iff]
        refine ⟨(fun hz => by cases hz), fun _ => ?_⟩
        exact hK _ _ ⟨k + 1, v1', v2, hc, by dsimp only; rw [wr (by omega)]; omega, hv1.trans hQ1, hv2.trans hQ2, okv1, okv2, h⟩ (by dsimp only; rw [wr (by omega)]; omega)
      · intro k7 hk7
        refine JoinX.mk (fun j w' => (j.1 = true → ∃ p, u2 = some p) ∧ St wi w' (gsO v1' (gsO u2 []))) ?_ ?_
        · clear h
          rintro ⟨j, ⟨⟩⟩ w1 ⟨hj, h⟩
          dsimp only at hj h ⊢
          rw [SplitB_iff]
          refine ⟨fun hz => ?_, fun hz => ?_⟩
          · obtain ⟨p, hp⟩ := hj hz
            refine (playsO u2 ok2 (by omega) hp (swapO h) (one_scr hs _ hc) hf1 5 11).mono ?_
            rintro r w1 ⟨rfl, u, hu, oku, h⟩
            exact hk7 _ _ ⟨rfl, u, hu, oku.mono (by simp; omega), swapO h⟩
          · exact hk7 _ _ ⟨rfl, u2, rfl, ok2.mono (by omega), h⟩
        · intro k9 hk9
          refine (h.old hs.rd).idxK k rfl (by omega) ?_
          intro b o hb
          refine (h.old hs.rd).el hb (k * 5 + 1) (by simp only [add_lit', Nat.add_assoc]) v1 ?_
          rw [SplitB_iff]
          refine ⟨fun _ => ?_, fun _ => hk9 _ _ ⟨(fun hh => by cases hh), h⟩⟩
          refine neO ?_
          exact hk9 _ _ ⟨fun hh => someO hh, h⟩
    · intro k5 hk5
      refine JoinX.mk (fun j w' => (j.1 = true → ∃ p, u1 = some p) ∧ St wi w' (gsO u1 (gsO u2 []))) ?_ ?_
      · clear h
        rintro ⟨j, ⟨⟩⟩ w1 ⟨hj, h⟩
        dsimp only at hj h ⊢
        rw [SplitB_iff]
        refine ⟨fun hz => ?_, fun hz => ?_⟩
        · obtain ⟨p, hp⟩ := hj hz
          refine (playsO u1 ok1 (by omega) hp h (one_scr hs _ hc) hf1 5 11).mono ?_
          rintro r w1 ⟨rfl, u, hu, oku, h⟩
          exact hk5 _ _ ⟨rfl, u, hu, oku.mono (by simp; omega), h⟩
        · exact hk5 _ _ ⟨rfl, u1, rfl, ok1.mono (by omega), h⟩
      · intro k11 hk11
        refine (h.old hs.rd).idxK k rfl (by omega) ?_
        intro b o hb
        refine (h.old hs.rd).el hb (k * 5 + 1) (by simp only [add_lit', Nat.add_assoc]) v1 ?_
        rw [SplitB_iff]
        refine ⟨fun _ => ?_, fun _ => hk11 _ _ ⟨(fun hh => by cases hh), h⟩⟩
        refine neO ?_
        exact hk11 _ _ ⟨fun hh => someO hh, h⟩
  · have hlast : ∀ {w1 : World} {x y : Operand}, St wi w1 (gsO u2 []) → RunN Try.prog .bool (V (do eqGuard .eql 54 x y (.pointer (ptO u2)) (.pointer none); binOp .eql 54 (.pointer (ptO u2)) (.pointer none))) w1 fun t92 w =>
        SplitB t92 ((fun (r : Bool) w' => Upd wi w' nobody ∧ r = true) true w) (NilP (ptO u2) fun t95 => CallK Try.prog .bool 35 #[.pointer (some (t95.add 2))] w fun (t97 : Bool) w => (fun (r : Bool) w' => Upd wi w' nobody ∧ r = true) t97 w) := by
      intro w1 x y h
      refine eqO ?_
      rw [SplitB_iff]
      refine ⟨fun _ => ⟨h.upd, rfl⟩, fun hz => ?_⟩
      cases hu : u2 with
      | none => rw [hu] at hz; cases hz
      | some p =>
        rw [hu] at h
        refine NilP.mk ?_
        refine (apartO (some p) (fun q hq => ok2 q (hu.trans hq)) rfl h rfl).mono ?_
        rintro r w1 ⟨rfl, h⟩
        exact ⟨h.upd, rfl⟩
    refine eqO ?_
    rw [SplitB_iff]
    refine ⟨fun hz => hlast (gsO_F h), fun hz => ?_⟩
    cases hu : u1 with
    | none => rw [hu] at hz; cases hz
    | some p =>
      rw [hu] at h
      refine NilP.mk ?_
      refine (apartO (some p) (fun q hq => ok1 q (hu.trans hq)) rfl h rfl).mono ?_
      rintro r w1 ⟨rfl, h⟩
      rw [SplitB_iff]
      exact ⟨fun _ => hlast h, fun hz => by cases hz⟩
end Go.Proofs.Ytpdaoahamgegoaa
