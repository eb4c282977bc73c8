/- The laws of all letters: what is played is answered as the document's. -/
import Derived.Test.YtmhjlngkdppgpaaNsI
import Derived.Test.YtmhjlngkdppgpaaNsJ
namespace Go.Proofs.Ytmhjlngkdppgpaa
open Go Go.Fw Go.RowKit
set_option linter.unusedVariables false
set_option linter.unusedSimpArgs false
set_option maxRecDepth 4000
set_option maxHeartbeats 2000000

structure Opv where
  kk : Int
  wh : Int
  i : Int
  j : Int
  f : Int
  t : Int
  d : Sl
  m : List UInt8
def opc (o : Opv) : List Value := [.int .i64 o.kk, .int .i64 o.wh, .int .i64 o.i, .int .i64 o.j, .int .i64 o.f, .int .i64 o.t, .slice o.d.a o.d.len o.d.cap]
def ops (os : List Opv) : List Value := os.flatMap opc
theorem ops_len (os : List Opv) : (ops os).length = os.length * 7 := by
  induction os with
  | nil => rfl
  | cons x r ih => simp only [ops, List.flatMap_cons, List.length_append, List.length_cons] at ih ⊢; rw [ih]; simp [opc]; omega
theorem ops_drop (os : List Opv) (n : Nat) : (ops os).drop (n * 7) = ops (os.drop n) := by
  induction n generalizing os with
  | zero => simp
  | succ n ih =>
    cases os with
    | nil => simp [ops]
    | cons x r =>
      have e : (n + 1) * 7 = 7 + n * 7 := by omega
      rw [e, ← List.drop_drop]
      have : (ops (x :: r)).drop 7 = ops r := by simp [ops, opc]
      rw [this, ih]; rfl
theorem ops_at (os : List Opv) (i : Nat) (h : i < os.length) : ((ops os).drop (i * 7)).take 7 = opc os[i] := by
  have e : ∀ x r, ops (x :: r) = opc x ++ ops r := fun x r => by simp [ops]
  rw [ops_drop, List.drop_eq_getElem_cons h, e, List.take_append_of_le_length (by simp [opc]), List.take_of_length_le (by simp [opc])]
theorem ops_get (os : List Opv) (i j : Nat) (h : i < os.length) (hj : j < 7) : (ops os)[i * 7 + j]? = (opc os[i])[j]? := by
  rw [← ops_at os i h, List.getElem?_take, if_pos hj, List.getElem?_drop]
instance : Et Try.prog 40 48 7 72 := ⟨ET.of (by kernel_rfl), by decide⟩
theorem wrap_nat {n : Nat} (h : n ≤ 9223372036854775807) : IntKind.i64.wrap (n : Int) = (n : Int) := wr (by omega)

variable {w0 w : World} {F : Grps} {p : Pr} {n : Nat}
structure Scr (w : World) (s : Sl) (os : List Opv) : Prop where
  rd : Rd w s 7 (ops os)
  each : ∀ o ∈ os, Rd w o.d 1 (bys o.m) ∧ o.m.length ≤ big
  small : os.length ≤ big
theorem Scr.len {s : Sl} {os : List Opv} (h : Scr w s os) : s.len = os.length := by have := h.rd.1; rw [ops_len] at this; omega
theorem Scr.keep {w' : World} {s : Sl} {os : List Opv} (h : Scr w s os) (hu : Upd w w' nobody) : Scr w' s os := ⟨h.rd.upd hu (fun _ _ h => h), fun o ho => ⟨(h.each o ho).1.upd hu (fun _ _ h => h), (h.each o ho).2⟩, h.small⟩
def total (os : List Opv) : Nat := (os.map (·.m.length)).sum
theorem total_le {os : List Opv} {o : Opv} (h : o ∈ os) : o.m.length ≤ total os := by
  induction os with
  | nil => cases h
  | cons x r ih =>
    simp only [total, List.map_cons, List.sum_cons]
    rcases List.mem_cons.1 h with rfl | h
    · omega
    · have := ih h; simp only [total] at this; omega
theorem total_bound {os : List Opv} (h : ∀ o ∈ os, o.m.length ≤ big) : total os ≤ os.length * big := by
  induction os with
  | nil => simp [total]
  | cons x r ih =>
    have h1 := h x (List.mem_cons_self ..)
    have h2 := ih fun o ho => h o (List.mem_cons_of_mem _ ho)
    simp only [total, List.map_cons, List.sum_cons, List.length_cons, Nat.add_mul, Nat.one_mul] at h2 ⊢
    omega
theorem fits_st {s : Sl} {os : List Opv} (hs : Scr w s os) : CallK Try.prog .bool 18 #[.slice s.a s.len s.cap] w fun (r : Bool) w' => w' = w ∧ (r = true → os.length ≤ 2000 ∧ ∀ o ∈ os, o.m.length ≤ mega) := by
  have hl := hs.len
  refine T18.calls ?_
  unfold T18
  refine LoopX.mk (fun st w' => ∃ k : Nat, k ≤ os.length ∧ st.2.1 = (k : Int) ∧ w' = w ∧ (os.length ≤ 2000 → st.1 = (total (os.take k) : Int))) (fun st => os.length - st.2.1.toNat) ⟨0, Nat.zero_le _, rfl, rfl, fun _ => by simp [total]⟩ ?_
  rintro ⟨a, _, ⟨⟩⟩ _ ⟨k, hk, rfl, rfl, ha⟩ K hK
  dsimp only at ha hK ⊢
  rw [SplitB_iff]
  refine ⟨fun hc => ?_, fun hc => ?_⟩
  · have hc : k < os.length := by have := of_decide_eq_true hc; omega
    refine hs.rd.idxK k rfl (by omega) ?_
    intro b o hb
    refine hs.rd.el hb (k * 7 + 6) (by simp only [add_lit', Nat.add_assoc]) (kd := .sl) (x := os[k].d) (by rw [ops_get os k 6 hc (by decide)]; rfl) ?_
    have hsl := (hs.each os[k] (List.getElem_mem _)).1.bys_len
    have hkb := hs.small
    have hbg : big = 140737488355328 := rfl
    refine hK _ _ ⟨k + 1, hc, by dsimp only; rw [wr (by omega)]; omega, rfl, ?_⟩ (by dsimp only; rw [wr (by omega)]; omega)
    intro h2
    dsimp only
    have htb := total_bound (os := os.take (k + 1)) fun o ho => (hs.each o (List.mem_of_mem_take ho)).2
    have hbig : (os.take (k + 1)).length * big ≤ 2000 * big := Nat.mul_le_mul_right _ (by simp; omega)
    have hb2 : 2000 * big = 281474976710656000 := by decide
    have e : total (os.take (k + 1)) = total (os.take k) + os[k].m.length := by
      rw [List.take_succ_eq_append_getElem hc]; simp only [total, List.map_append, List.sum_append, List.map_cons, List.map_nil, List.sum_cons, List.sum_nil, Nat.add_zero]
    rw [ha h2, hsl, wr (by omega), e]; omega
  · have hc : k = os.length := by have := of_decide_eq_false hc; omega
    subst hc
    rw [SplitB_iff]
    refine ⟨fun hd => ?_, fun hd => ?_⟩
    · have hd := of_decide_eq_true hd
      refine ⟨rfl, fun hr => ?_⟩
      have hr := of_decide_eq_true hr
      have h2 : os.length ≤ 2000 := by omega
      rw [ha h2, List.take_length] at hr
      refine ⟨h2, fun o ho => ?_⟩
      have := total_le ho
      have e : mega = 1048576 := rfl
      omega
    · exact ⟨rfl, fun hr => by cases hr⟩

/-! ### a pair, or none -/
def gsO (o : Option Pr) (F : Grps) : Grps := match o with | some p => p.gs F | none => F
def ptO (o : Option Pr) : Option Addr := match o with | some p => some ⟨p.Q, 0, none⟩ | none => none
def OkO (n : Nat) (o : Option Pr) : Prop := ∀ p, o = some p → p.Ok n
theorem gsO_app (o : Option Pr) (F : Grps) : gsO o F = gsO o [] ++ F := by cases o <;> rfl
theorem gsO_swap {o u : Option Pr} (h : St w0 w (gsO o (gsO u F))) : St w0 w (gsO u (gsO o F)) := by
  refine h.perm ?_
  rw [gsO_app o, gsO_app u, gsO_app u (gsO o F), gsO_app o F, List.flatten_append, List.flatten_append, List.flatten_append, List.flatten_append, ← List.append_assoc, ← List.append_assoc]
  exact List.perm_append_comm.append_right _
theorem gsO_F {o : Option Pr} (h : St w0 w (gsO o F)) : St w0 w F := by
  cases o with
  | none => exact h
  | some p => exact gs_F h
theorem RunN.pNe {x y : Operand} {K : Bool → World → Prop} (a : Option Addr) (h : K a.isSome w) : RunN Try.prog .bool (V (do eqGuard .neq 44 x y (.pointer a) (.pointer none); binOp .neq 44 (.pointer a) (.pointer none))) w K := by
  cases a with
  | none => exact RunN.pNeN h
  | some a => exact RunN.pNeS h
theorem RunN.pEq {x y : Operand} {K : Bool → World → Prop} (a : Option Addr) (h : K a.isNone w) : RunN Try.prog .bool (V (do eqGuard .eql 44 x y (.pointer a) (.pointer none); binOp .eql 44 (.pointer a) (.pointer none))) w K := by
  cases a with
  | none => exact RunN.pEqN h
  | some a => exact RunN.pEqS h
theorem madeO_st (h : St w0 w F) {x : Int} : CallK Try.prog (.tup (.cons .ptr (.cons .bool .nilT))) 20 #[.int .i64 x] w fun (r : Option Addr × Bool × Unit) w' =>
    ∃ o, OkO 0 o ∧ r = (ptO o, true, ()) ∧ St w0 w' (gsO o F) := by
  refine (made_st h (x := x)).mono ?_
  rintro r w (⟨_, _, p, ok, _, _, rfl, h⟩ | ⟨_, rfl, h⟩)
  · exact ⟨some p, fun q hq => by cases hq; exact ok, rfl, h⟩
  · exact ⟨none, fun q hq => (by cases hq), rfl, h⟩

/-- Three letters, one moved, one taken out. -/
theorem alive_st (h : St w0 w F) : CallK Try.prog .bool 19 #[] w fun (r : Bool) w' => r = true ∧ St w0 w' F := by
  refine T19.calls ?_
  unfold T19
  refine (made_st h (x := 3)).mono ?_
  rintro r w (⟨_, _, p, ok, _, _, rfl, h⟩ | ⟨hx, rfl, h⟩)
  · dsimp only [JoinX]
    rw [SplitB_iff]
    refine ⟨fun hc => ?_, fun hc => ?_⟩
    · simp at hc
    · skip
      first | refine RunN.pEqS ?_ | refine RunN.pEqN ?_ | refine RunN.pNeS ?_ | refine RunN.pNeN ?_
      rw [SplitB_iff]
      refine ⟨fun hc => ?_, fun hc => ?_⟩
      · simp at hc
      · refine h.litC [97] et29.ht (by kernel_rfl) rfl (bs29 _ _) ?_
        intro s1 w h1 h
        refine h.litC [98] et29.ht (by kernel_rfl) rfl (bs29 _ _) ?_
        intro s2 w h2 h
        have h := (h.back 11).back 10
        dsimp only [insO] at h
        generalize hos : [(⟨1, 0, 0, 0, 1, 2, s1, [97]⟩ : Opv), ⟨1, 0, 0, 0, 0, 4, s2, [98]⟩, ⟨4, 0, 0, 0, 0, 0, ⟨none, 0, 0⟩, []⟩, ⟨5, 0, 2, 1, 0, 0, ⟨none, 0, 0⟩, []⟩, ⟨6, 0, 0, 0, 0, 0, ⟨none, 0, 0⟩, []⟩, ⟨2, 0, 1, 0, 0, 0, ⟨none, 0, 0⟩, []⟩, ⟨7, 0, 1, 0, 0, 0, ⟨none, 0, 0⟩, []⟩] = os
        refine h.newS 7 (cs := ops os) (n := 7) (t := 48) (by subst hos; kernel_rfl) rfl (by subst hos; rfl) (by subst hos; rfl) ?_
        intro s3 w h7 h8 h9 h
        have hol : os.length = 7 := by subst hos; rfl
        have h := h.back 12
        dsimp only [insO] at h
        have hsee : ∀ o ∈ os, Sees w0 ([.ro s1 1 (bys [97])] :: [.ro s2 1 (bys [98])] :: [.row 48 7 s3 (ops os)] :: F) o.d 1 (bys o.m) ∧ o.m.length ≤ mega := by
          intro o ho
          rw [← hos] at ho
          simp only [List.mem_cons, List.not_mem_nil, or_false] at ho
          rcases ho with rfl | rfl | rfl | rfl | rfl | rfl | rfl
          · exact ⟨fun w h => h.rdo (k := 0) (i := 0) ⟨_, rfl, rfl⟩, (show (1 : Nat) ≤ mega by decide)⟩
          · exact ⟨fun w h => h.rdo (k := 1) (i := 0) ⟨_, rfl, rfl⟩, (show (1 : Nat) ≤ mega by decide)⟩
          all_goals exact ⟨fun w h => Rd.nil _ _, (show (0 : Nat) ≤ mega by decide)⟩
        refine LoopX.mk (fun st w' => ∃ (k : Nat) (p' : Pr), k ≤ 7 ∧ st.1 = (k : Int) ∧ p'.Q = p.Q ∧ p'.Ok k ∧ St w0 w' (p'.gs ([.ro s1 1 (bys [97])] :: [.ro s2 1 (bys [98])] :: [.row 48 7 s3 (ops os)] :: F))) (fun st => 7 - st.1.toNat) ⟨0, p, by omega, rfl, rfl, ok, h⟩ ?_
        clear h
        rintro ⟨_, ⟨⟩⟩ w ⟨k, p', hk, rfl, hQ, ok', h⟩ K hK
        dsimp only at h hK ⊢
        rw [SplitB_iff]
        refine ⟨fun hc => ?_, fun hc => ?_⟩
        · have hc : k < 7 := by have := of_decide_eq_true hc; omega
          have hco : k < os.length := by omega
          refine (h.rd (k := 12) (i := 0) ⟨_, rfl, rfl⟩).idxK k rfl (by omega) ?_
          intro b o hb
          refine (h.rd (k := 12) (i := 0) ⟨_, rfl, rfl⟩).elA hb (k * 7) rfl (os[k].kk, os[k].wh, os[k].i, os[k].j, os[k].f, os[k].t, os[k].d, ()) (ops_at _ _ hco) ?_
          have hse := hsee os[k] (List.getElem_mem _)
          rw [← hQ]
          refine (plays_st h ok' (by omega) hse.1 hse.2).mono ?_
          rintro r w ⟨rfl, p2, hQ2, _, ok2, h⟩
          rw [SplitB_iff]
          refine ⟨fun hz => ?_, fun hz => ?_⟩
          · simp at hz
          · rw [← hQ2]
            refine (stands_st h ok2).mono ?_
            rintro r w ⟨rfl, h⟩
            rw [SplitB_iff]
            refine ⟨fun hz => ?_, fun hz => ?_⟩
            · simp at hz
            · exact hK _ _ ⟨k + 1, p2, hc, by dsimp only; rw [wr (by omega)]; omega, hQ2.trans hQ, ok2, h⟩ (by dsimp only; rw [wr (by omega)]; omega)
        · exact ⟨rfl, (((gs_F h).drop 0).drop 0).drop 0⟩
  · omega

/-- What a script's operation is in the bulk. -/
theorem holds_st {wi : World} {s : Sl} {os : List Opv} (hs : Scr wi s os) {x : Int} : CallK Try.prog .bool 17 #[.int .i64 x, .slice s.a s.len s.cap] wi fun (r : Bool) w' => Upd wi w' nobody ∧ r = true := by
  have hl := hs.len
  have h := St.init wi
  refine T17.calls ?_
  unfold T17
  refine (fits_st hs).mono ?_
  rintro r w ⟨hw, hfit⟩
  have hw := hw.symm
  subst hw
  rw [SplitB_iff]
  refine ⟨fun hc => ?_, fun hc => ?_⟩
  · exact ⟨Upd.refl _ _, rfl⟩
  · obtain ⟨h2000, hmg⟩ := hfit (by simpa using hc)
    refine (alive_st h).mono ?_
    rintro r w ⟨rfl, h⟩
    refine (madeO_st h (x := x)).mono ?_
    rintro r w ⟨o, ok, rfl, h⟩
    refine JoinX.mk (fun j w' => j.1 = false ∧ St wi w' (gsO o [])) ?_ ?_
    · rintro ⟨_, ⟨⟩⟩ w ⟨hj, h⟩
      dsimp only at hj h ⊢
      subst hj
      rw [SplitB_iff]
      refine ⟨fun hz => ?_, fun hz => ?_⟩
      · simp at hz
      · refine LoopX.mk (fun st w' => ∃ (k : Nat) (o' : Option Pr), k ≤ os.length ∧ st.1 = (k : Int) ∧ ptO o' = ptO o ∧ OkO k o' ∧ St wi w' (gsO o' [])) (fun st => os.length - st.1.toNat) ⟨0, o, by omega, rfl, rfl, ok, h⟩ ?_
        clear h
        rintro ⟨_, ⟨⟩⟩ w ⟨k, o', hk, rfl, hQ, ok', h⟩ K hK
        dsimp only at h hK ⊢
        rw [← hQ]
        refine JoinX.mk (fun (j : Bool × Unit) w' => (j.1 = true → k < os.length ∧ ∃ p, o' = some p) ∧ (j.1 = false → o' = none ∨ k = os.length) ∧ St wi w' (gsO o' [])) ?_ ?_
        · rintro ⟨j, ⟨⟩⟩ w ⟨hj1, hj2, h⟩
          dsimp only at hj1 hj2 h ⊢
          rw [SplitB_iff]
          refine ⟨fun hz => ?_, fun hz => ?_⟩
          · obtain ⟨hc, p, rfl⟩ := hj1 hz
            have hk := (h.old hs.rd).2.2
            refine (h.old hs.rd).idxK k rfl (by omega) ?_
            intro b o hb
            refine (h.old hs.rd).elA hb (k * 7) rfl (os[k].kk, os[k].wh, os[k].i, os[k].j, os[k].f, os[k].t, os[k].d, ()) (ops_at _ _ hc) ?_
            refine (plays_st h (ok' _ rfl) (by omega) (fun w h => h.old (hs.each os[k] (List.getElem_mem _)).1) (hmg os[k] (List.getElem_mem _))).mono ?_
            rintro r w ⟨rfl, p2, hQ2, _, ok2, h⟩
            dsimp only [JoinX]
            rw [SplitB_iff]
            refine ⟨fun hz => ?_, fun hz => ?_⟩
            · simp at hz
            · have e : ptO (some p) = some ⟨p2.Q, 0, none⟩ := by rw [hQ2]; rfl
              rw [e]
              refine (stands_st h ok2).mono ?_
              rintro r w ⟨rfl, h⟩
              rw [SplitB_iff]
              refine ⟨fun hz => ?_, fun hz => ?_⟩
              · simp at hz
              · exact hK _ _ ⟨k + 1, some p2, hc, by dsimp only; rw [wr (by omega)]; omega, by rw [← hQ, e]; rfl, fun q hq => by cases hq; exact ok2, h⟩ (by dsimp only; rw [wr (by omega)]; omega)
          · refine RunN.pEq _ ?_
            cases o' with
            | none => exact ⟨h.upd, rfl⟩
            | some p =>
              have ok1 := ok' p rfl
              refine (apart_st h (by have := ok1.fl; omega) (fun x hx => Nat.le_trans (ok1.fsl x hx) (by decide))).mono ?_
              rintro r w ⟨rfl, h⟩
              exact ⟨h.upd, rfl⟩
        · intro k5 hk5
          rw [SplitB_iff]
          refine ⟨fun hc => ?_, fun hc => ?_⟩
          · have hc : k < os.length := by have := of_decide_eq_true hc; omega
            refine RunN.pNe _ ?_
            refine hk5 _ _ ⟨?_, ?_, h⟩
            · intro hp
              cases o' with
              | none => cases hp
              | some p => exact ⟨hc, p, rfl⟩
            · intro hp
              cases o' with
              | none => exact .inl rfl
              | some p => cases hp
          · have hc : k = os.length := by have := of_decide_eq_false hc; omega
            exact hk5 _ _ ⟨(fun hp => by cases hp), fun _ => .inr hc, h⟩
    · intro k1 hk1
      rw [SplitB_iff]
      refine ⟨fun hz => ?_, fun hz => ?_⟩
      · simp at hz
      · exact hk1 _ _ ⟨rfl, h⟩
theorem law5 {wi : World} {s : Sl} {os : List Opv} (hs : Scr wi s os) {x : Int} : CallK Try.prog .bool 5 #[.int .i64 x, .slice s.a s.len s.cap] wi fun (r : Bool) w' => Upd wi w' nobody ∧ r = true := by
  refine T5.calls ?_
  unfold T5
  exact holds_st hs
end Go.Proofs.Ytmhjlngkdppgpaa
