/- The laws of reads, power and images. -/
import Derived.Test.YtpdaoahamgegoaaDkPl
namespace Go.Proofs.Ytpdaoahamgegoaa
open Go Go.Fw Go.RowKit
set_option linter.unusedVariables false
set_option linter.unusedSimpArgs false
set_option maxRecDepth 4000
set_option maxHeartbeats 4000000
variable {w0 w : World} {F G : Grps} {p : Q} {N : Nat} {d : D}

/-- A script as it was handed in. -/
structure Scr (w : World) (s : Sl) (os : List Ov) : Prop where
  rd : Rd w s 5 (ovs os)
  each : ∀ o ∈ os, Rd w o.d 1 (bys o.b) ∧ o.b.length ≤ big ∧ o.n ≤ 9223372036854775807
  small : os.length ≤ big
theorem Scr.len {s : Sl} {os : List Ov} (h : Scr w s os) : s.len = os.length := by have := h.rd.1; rw [ovs_len] at this; omega
def total (os : List Ov) : Nat := (os.map (·.b.length)).sum
theorem total_le {os : List Ov} {o : Ov} (h : o ∈ os) : o.b.length ≤ total os := by
  induction os with
  | nil => cases h
  | cons x r ih =>
    simp only [total, List.map_cons, List.sum_cons]
    rcases List.mem_cons.1 h with rfl | h
    · omega
    · have := ih h; simp only [total] at this; omega
theorem total_succ {os : List Ov} {k : Nat} (hk : k < os.length) : total (os.take (k + 1)) = total (os.take k) + os[k].b.length := by
  unfold total
  rw [List.take_succ_eq_append_getElem hk, List.map_append, List.sum_append]
  simp
theorem total_bound {os : List Ov} (h : ∀ o ∈ os, o.b.length ≤ big) : total os ≤ os.length * big := by
  induction os with
  | nil => simp [total]
  | cons x r ih =>
    have h1 := h x (List.mem_cons_self ..)
    have h2 := ih fun o ho => h o (List.mem_cons_of_mem _ ho)
    simp only [total, List.map_cons, List.sum_cons, List.length_cons, Nat.add_mul, Nat.one_mul] at h2 ⊢
    omega
theorem fits_st {s a : Sl} {os : List Ov} (hs : Scr w s os) (x : Int) : CallK Try.prog .bool 30 #[.int .i64 x, .slice a.a a.len a.cap, .slice s.a s.len s.cap] w fun (r : Bool) w' =>
    w' = w ∧ (r = true → Fine os ∧ a.len ≤ 4194304) := by
  have hl := hs.len
  have hbig : big = 140737488355328 := rfl
  have hsm := hs.small
  have hcap := hs.rd.2.2
  refine T30.calls ?_
  unfold T30
  refine LoopX.mk (fun st w' => ∃ k : Nat, k ≤ os.length ∧ st.2.2.1 = (k : Int) ∧ (k ≤ 300 → st.1 = (total (os.take k) : Int)) ∧ w' = w) (fun st => os.length - st.2.2.1.toNat) ⟨0, by omega, rfl, fun _ => by simp [total], rfl⟩ ?_
  rintro ⟨n, im, _, ⟨⟩⟩ w' ⟨k, hk, rfl, hn, hw'⟩ K hK
  subst hw'
  dsimp only at hn hK ⊢
  rw [SplitB_iff]
  refine ⟨fun hc => ?_, fun hc => ?_⟩
  · have hc : k < os.length := by have := of_decide_eq_true hc; omega
    have hob := (hs.each _ (List.getElem_mem hc)).2.1
    have hol := (hs.each _ (List.getElem_mem hc)).1.bys_len
    have hnn : k + 1 ≤ 300 → IntKind.i64.wrap (n + (os[k].d.len : Int)) = (total (os.take (k + 1)) : Int) := by
      intro h300
      have h1 := hn (by omega)
      have h2 := total_bound (os := os.take k) fun o ho => (hs.each o (List.mem_of_mem_take ho)).2.1
      rw [List.length_take, Nat.min_eq_left (by omega)] at h2
      have h3 : k * big ≤ 300 * big := Nat.mul_le_mul_right _ (by omega)
      rw [total_succ hc, wr (by omega)]; omega
    refine JoinX.mk (fun j w'' => w'' = w' ∧ (k + 1 ≤ 300 → j.1 = (total (os.take (k + 1)) : Int))) ?_ ?_
    · rintro ⟨j, j2, ⟨⟩⟩ w'' ⟨hw'', hj⟩
      dsimp only at hj
      exact hK _ _ ⟨k + 1, by omega, by dsimp only; rw [wr (by omega)]; omega, hj, hw''⟩ (by dsimp only; rw [wr (by omega)]; omega)
    · intro k3 hk3
      refine hs.rd.idxK k rfl (by omega) ?_
      intro b o hb
      refine hs.rd.el hb (k * 5 + 4) (by simp only [add_lit', Nat.add_assoc]) (kd := .sl) (x := os[k].d) (by rw [ovs_get os k 4 hc (by decide)]; rfl) ?_
      refine hs.rd.idxK k rfl (by omega) ?_
      intro b2 o2 hb2
      refine hs.rd.el hb2 (k * 5 + 0) (by simp only [add_lit', Nat.add_assoc]) (kd := .int .i64) (x := os[k].k) (by rw [ovs_get os k 0 hc (by decide)]; rfl) ?_
      rw [SplitB_iff]
      exact ⟨fun _ => hk3 _ _ ⟨rfl, hnn⟩, fun _ => hk3 _ _ ⟨rfl, hnn⟩⟩
  · have hc : k = os.length := by have := of_decide_eq_false hc; omega
    subst hc
    rw [List.take_length] at hn
    refine JoinX.mk (fun j w'' => w'' = w') ?_ ?_
    · rintro ⟨j, ⟨⟩⟩ w'' hw''
      subst hw''
      rw [SplitB_iff]
      refine ⟨fun h1 => ?_, fun _ => ⟨rfl, fun h => by cases h⟩⟩
      have h1 : os.length ≤ 300 := by have := of_decide_eq_true h1; omega
      rw [SplitB_iff]
      refine ⟨fun h2 => ?_, fun _ => ⟨rfl, fun h => by cases h⟩⟩
      have h2 : n ≤ 4194304 := of_decide_eq_true h2
      rw [hn h1] at h2
      rw [SplitB_iff]
      refine ⟨fun h3 => ?_, fun _ => ⟨rfl, fun h => by cases h⟩⟩
      have h3 : a.len ≤ 4194304 := by have := of_decide_eq_true h3; omega
      rw [SplitB_iff]
      refine ⟨fun h4 => ⟨rfl, fun _ => ⟨⟨h1, fun o ho => ?_, fun o ho => (hs.each o ho).2.2⟩, h3⟩⟩, fun _ => ⟨rfl, fun h => by cases h⟩⟩
      have := total_le ho
      omega
    · intro k5 hk5
      rw [SplitB_iff]
      refine ⟨fun h1 => ?_, fun _ => hk5 _ _ rfl⟩
      rw [SplitB_iff]
      exact ⟨fun _ => hk5 _ _ rfl, fun _ => hk5 _ _ rfl⟩
theorem seesO {wi : World} {s : Sl} {os : List Ov} (hs : Scr wi s os) (F : Grps) : SeesO wi F s os := fun w h => ⟨h.old hs.rd, fun o ho => h.old (hs.each o ho).1⟩
theorem holds_st {wi : World} {s a : Sl} {os : List Ov} {l : List UInt8} (hs : Scr wi s os) (ha : Rd wi a 1 (bys l)) (x lo hi : Int) : CallK Try.prog .bool 29 #[.int .i64 x, .slice a.a a.len a.cap, .slice s.a s.len s.cap, .int .i64 lo, .int .i64 hi] wi fun (r : Bool) w' => Upd wi w' nobody ∧ r = true := by
  have hal := ha.bys_len
  refine T29.calls ?_
  unfold T29
  refine (fits_st hs x).mono ?_
  rintro r w ⟨hw, hfit⟩
  have hw := hw.symm
  subst hw
  rw [SplitB_iff]
  refine ⟨fun _ => ⟨Upd.refl _ _, rfl⟩, fun hc => ?_⟩
  obtain ⟨hfine, ha22⟩ := hfit (by simpa using hc)
  have h := St.init wi
  refine (alive_st h).mono ?_
  rintro r w1 ⟨rfl, h⟩
  rw [SplitB_iff]
  refine ⟨(fun hz => by cases hz), fun _ => ?_⟩
  refine (made_st h x).mono ?_
  rintro y w1 hx
  have hmade : ∃ F0, St wi w1 F0 ∧ (y = (none, true, ()) ∨ ∃ b d r, y = (some ⟨b, 0, none⟩, true, ()) ∧ POk 0 (q0 b d r) ∧ F0 = gs (q0 b d r) []) := by
    rcases hx with ⟨_, rfl, h⟩ | ⟨b, d, r, rfl, ok, h⟩
    · exact ⟨_, h, .inl rfl⟩
    · exact ⟨_, h, .inr ⟨b, d, r, rfl, ok, rfl⟩⟩
  clear hx h
  obtain ⟨F0, h, hy⟩ := hmade
  refine JoinX.mk (fun j w' => ∃ F1, St wi w' F1 ∧ (j = (none, true, ()) ∨ ∃ b d r F2, j = (some ⟨b, 0, none⟩, true, ()) ∧ POk 0 (q0 b d r) ∧ F1 = gs (q0 b d r) F2)) ?_ ?_
  · clear h hy
    rintro ⟨j, j2, ⟨⟩⟩ w1 ⟨F1, h, hj⟩
    dsimp only at hj ⊢
    rcases hj with hj | ⟨b, d, r, F2, hj, ok, rfl⟩
    · cases hj
      refine JoinX.mk (fun j w' => j.1 = true ∧ St wi w' F1) ?_ ?_
      · clear h
        rintro ⟨_, ⟨⟩⟩ w1 ⟨hj, h⟩
        dsimp only at hj h ⊢
        subst hj
        rw [SplitB_iff]
        exact ⟨fun _ => ⟨h.upd, rfl⟩, (fun hz => by cases hz)⟩
      · intro k3 hk3
        rw [SplitB_iff]
        refine ⟨(fun hz => by cases hz), fun _ => ?_⟩
        first | refine RunN.pEqS ?_ | refine RunN.pEqN ?_ | refine RunN.pNeS ?_ | refine RunN.pNeN ?_
        exact hk3 _ _ ⟨rfl, h⟩
    · cases hj
      refine JoinX.mk (fun j w' => j.1 = false ∧ St wi w' (gs (q0 b d r) F2)) ?_ ?_
      · clear h
        rintro ⟨_, ⟨⟩⟩ w1 ⟨hj, h⟩
        dsimp only at hj h ⊢
        subst hj
        rw [SplitB_iff]
        refine ⟨(fun hz => by cases hz), fun _ => ?_⟩
        refine (plays_st (p := q0 b d r) h ok (by omega) (seesO hs F2) hfine lo hi).mono ?_
        rintro r1 w1 ⟨rfl, p', hb', ok', h⟩
        rw [SplitB_iff]
        refine ⟨fun _ => ?_, (fun hz => by cases hz)⟩
        refine NilP.mk ?_
        have hb' : p'.b = b := hb'
        rw [← hb']
        refine (apart_st h ok'.q).mono ?_
        rintro r1 w1 ⟨rfl, h⟩
        exact ⟨h.upd, rfl⟩
      · intro k3 hk3
        rw [SplitB_iff]
        refine ⟨(fun hz => by cases hz), fun _ => ?_⟩
        first | refine RunN.pEqS ?_ | refine RunN.pEqN ?_ | refine RunN.pNeS ?_ | refine RunN.pNeN ?_
        exact hk3 _ _ ⟨rfl, h⟩
  · intro k1 hk1
    rw [SplitB_iff]
    refine ⟨fun _ => ?_, fun _ => ?_⟩
    · refine (taken_st h (p := a) (l := l) (fun w h => h.old ha) (by omega)).mono ?_
      rintro z w1 hz
      rcases hz with ⟨rfl, h⟩ | ⟨b, d, r, rfl, ok, _, _, h⟩
      · exact hk1 _ _ ⟨_, h, .inl rfl⟩
      · exact hk1 _ _ ⟨_, h, .inr ⟨b, d, r, _, rfl, ok, rfl⟩⟩
    · rcases hy with rfl | ⟨b, d, r, rfl, ok, rfl⟩
      · exact hk1 _ _ ⟨_, h, .inl rfl⟩
      · exact hk1 _ _ ⟨_, h, .inr ⟨b, d, r, _, rfl, ok, rfl⟩⟩
theorem law6 {wi : World} {s a : Sl} {os : List Ov} {l : List UInt8} (hs : Scr wi s os) (ha : Rd wi a 1 (bys l)) {x : Int} : CallK Try.prog .bool 6 #[.int .i64 x, .slice a.a a.len a.cap, .slice s.a s.len s.cap] wi fun (r : Bool) w' => Upd wi w' nobody ∧ r = true := by
  refine T6.calls ?_
  unfold T6
  exact holds_st hs ha x 5 5
theorem law7 {wi : World} {s a : Sl} {os : List Ov} {l : List UInt8} (hs : Scr wi s os) (ha : Rd wi a 1 (bys l)) {x : Int} : CallK Try.prog .bool 7 #[.int .i64 x, .slice a.a a.len a.cap, .slice s.a s.len s.cap] wi fun (r : Bool) w' => Upd wi w' nobody ∧ r = true := by
  refine T7.calls ?_
  unfold T7
  exact holds_st hs ha x _ _
theorem law8 {wi : World} {s a : Sl} {os : List Ov} {l : List UInt8} (hs : Scr wi s os) (ha : Rd wi a 1 (bys l)) {x : Int} : CallK Try.prog .bool 8 #[.int .i64 x, .slice a.a a.len a.cap, .slice s.a s.len s.cap] wi fun (r : Bool) w' => Upd wi w' nobody ∧ r = true := by
  refine T8.calls ?_
  unfold T8
  exact holds_st hs ha x _ _
end Go.Proofs.Ytpdaoahamgegoaa
