/- The cache: a session's kept replies. -/
import Derived.Test.YtbdhmeefjlkdcaaCkB
namespace Go.Proofs.Ytbdhmeefjlkdcaa
open Go Go.Fw Go.RowKit
set_option linter.unusedVariables false
set_option linter.unusedSimpArgs false
set_option maxRecDepth 4000
set_option maxHeartbeats 2000000
variable {w0 w : World} {F G : Grps}

/-! ### lists of pieces -/
section
variable {α : Type} {f : α → List Value} {n : Nat}
theorem flat_len (hf : ∀ x, (f x).length = n) : ∀ l : List α, (l.flatMap f).length = l.length * n
  | [] => by simp
  | x :: r => by rw [List.flatMap_cons, List.length_append, hf, flat_len hf r, List.length_cons, Nat.add_mul, Nat.one_mul, Nat.add_comm]
theorem flat_take (hf : ∀ x, (f x).length = n) (l : List α) (i : Nat) (hi : i ≤ l.length) : (l.flatMap f).take (i * n) = (l.take i).flatMap f := by
  conv => lhs; rw [← List.take_append_drop i l, List.flatMap_append]
  have : ((l.take i).flatMap f).length = i * n := by rw [flat_len hf, List.length_take, Nat.min_eq_left hi]
  rw [← this, List.take_left']; rfl
theorem flat_drop (hf : ∀ x, (f x).length = n) (l : List α) (i : Nat) (hi : i ≤ l.length) : (l.flatMap f).drop (i * n) = (l.drop i).flatMap f := by
  conv => lhs; rw [← List.take_append_drop i l, List.flatMap_append]
  have : ((l.take i).flatMap f).length = i * n := by rw [flat_len hf, List.length_take, Nat.min_eq_left hi]
  rw [← this, List.drop_left']; rfl
theorem flat_at (hf : ∀ x, (f x).length = n) (l : List α) (i : Nat) (hi : i < l.length) : ((l.flatMap f).drop (i * n)).take n = f l[i] := by
  rw [flat_drop hf l i (by omega), List.drop_eq_getElem_cons hi, List.flatMap_cons, List.take_append_of_le_length (by rw [hf]; omega), List.take_of_length_le (by rw [hf]; omega)]
end

/-- A reply: session, id, error, value. -/
abbrev Rp := Int × Int × Int × Int
def rpv (r : Rp) : List Value := [.int .i64 r.1, .int .i64 r.2.1, .int .i64 r.2.2.1, .int .i64 r.2.2.2]
theorem rpv_len (r : Rp) : (rpv r).length = 4 := rfl
def rpt (r : Rp) : (Int × Int × Int × Int × Unit) := (r.1, r.2.1, r.2.2.1, r.2.2.2, ())
abbrev rps (l : List Rp) : List Value := l.flatMap rpv
theorem rps_one (l : List Rp) : ∀ v ∈ rps l, v.oneCell' = true := by
  intro v hv
  obtain ⟨r, _, hr⟩ := List.mem_flatMap.1 hv
  simp [rpv] at hr
  rcases hr with rfl | rfl | rfl | rfl <;> rfl
def ids (l : List Rp) : List Int := l.map (·.2.1)
structure Ses where
  b : Nat
  last : Int
  q : Sl
  pend : List Int
  ring : List Rp
  n : Nat
def sesC (s : Ses) : List Value := [.int .i64 s.last, .slice s.q.a s.q.len s.q.cap] ++ rps s.ring ++ [.int .i64 (s.n : Int)]
def sesE (s : Ses) : Ent := .cel s.b 68 (sesC s)
def sesR (s : Ses) : Ent := .row 3 1 s.q (lin s.pend)
def Ses.p (s : Ses) : Option Addr := some ⟨s.b, 0, none⟩
theorem sesC_len {s : Ses} (h : s.ring.length = 16) : (sesC s).length = 67 := by
  simp only [sesC, List.length_append, flat_len rpv_len, h, List.length_cons, List.length_nil]
theorem sesC_n {s : Ses} (h : s.ring.length = 16) : nthO (sesC s) 66 = some (.int .i64 (s.n : Int)) := by
  rw [nthO_get, sesC, List.getElem?_append_right (by simp only [List.length_append, flat_len rpv_len, h, List.length_cons, List.length_nil]; omega)]
  simp only [List.length_append, flat_len rpv_len, h, List.length_cons, List.length_nil]
  rfl
theorem sesC_take {s : Ses} (h : s.ring.length = 16) (a : Nat) (ha : a ≤ 16) : (sesC s).take (2 + a * 4) = [.int .i64 s.last, .slice s.q.a s.q.len s.q.cap] ++ rps (s.ring.take a) := by
  have hl : (rps s.ring).length = 64 := by rw [flat_len rpv_len, h]
  rw [sesC, List.take_append_of_le_length (by simp only [List.length_append, hl, List.length_cons, List.length_nil]; omega), List.take_append, List.take_of_length_le (by simp)]
  congr 1
  rw [show 2 + a * 4 - [Value.int .i64 s.last, .slice s.q.a s.q.len s.q.cap].length = a * 4 by simp, flat_take rpv_len _ _ (by omega)]
theorem sesC_drop {s : Ses} (h : s.ring.length = 16) (a : Nat) (ha : a ≤ 16) : (sesC s).drop (2 + a * 4) = rps (s.ring.drop a) ++ [.int .i64 (s.n : Int)] := by
  have hl : (rps s.ring).length = 64 := by rw [flat_len rpv_len, h]
  rw [sesC, List.drop_append_of_le_length (by simp only [List.length_append, hl, List.length_cons, List.length_nil]; omega), List.drop_append, List.drop_of_length_le (by simp), List.nil_append]
  rw [show 2 + a * 4 - [Value.int .i64 s.last, .slice s.q.a s.q.len s.q.cap].length = a * 4 by simp, flat_drop rpv_len _ _ (by omega)]
theorem sesC_sub {s : Ses} (h : s.ring.length = 16) (a b : Nat) (hab : a ≤ b) (hb : b ≤ 16) : ((sesC s).drop (2 + a * 4)).take ((b - a) * 4) = rps ((s.ring.take b).drop a) := by
  have hl : (s.ring.drop a).length = 16 - a := by simp [h]
  rw [sesC_drop h a (by omega), List.take_append_of_le_length (by rw [flat_len rpv_len, hl]; omega), flat_take rpv_len _ _ (by rw [hl]; omega), List.drop_take]
/-- The ring with another part in its midst. -/
theorem sesC_put {s : Ses} (h : s.ring.length = 16) (a : Nat) (m : List Rp) (hm : a + m.length ≤ 16) : (sesC s).take (2 + a * 4) ++ rps m ++ (sesC s).drop (2 + a * 4 + m.length * 4) = sesC { s with ring := s.ring.take a ++ m ++ s.ring.drop (a + m.length) } := by
  rw [sesC_take h a (by omega), show 2 + a * 4 + m.length * 4 = 2 + (a + m.length) * 4 by omega, sesC_drop h _ hm]
  simp only [sesC, rps, List.flatMap_append, List.append_assoc]
theorem put_len {ring m : List Rp} {a : Nat} (h : ring.length = 16) (hm : a + m.length ≤ 16) : (ring.take a ++ m ++ ring.drop (a + m.length)).length = 16 := by simp [h]; omega

theorem rcmp_ok (r : Rp) (x : Int) : CallK Try.prog (.int .i64) 38 #[.agg #[.int .i64 r.1, .int .i64 r.2.1, .int .i64 r.2.2.1, .int .i64 r.2.2.2], .int .i64 x] w fun (v : Int) w' => Upd w w' nobody ∧ v = if r.2.1 < x then -1 else if r.2.1 > x then 1 else 0 := by
  refine T38.calls (p0 := rpt r) ?_
  unfold T38
  have h := St.init w
  refine h.newB run_boxA rfl ?_
  intro b w1 h
  refine h.loadB 0 0 ⟨_, rfl, rfl⟩ rfl rfl ?_
  refine (cmp_ok _ _).mono ?_
  rintro v w' ⟨rfl, rfl⟩
  exact ⟨h.upd, rfl⟩
theorem rsearch_ok {s : Sl} {l : List Rp} (hr : Rd w s 4 (rps l)) (hs : (ids l).Pairwise (· < ·)) (hl : l.length ≤ 16) (x : Int) :
    CallK Try.prog (.tup (.cons (.int .i64) (.cons .bool .nilT))) 37 #[.slice s.a s.len s.cap, .int .i64 x, .func (.func 38) #[] #[]] w fun (r : Int × Bool × Unit) w' => Upd w w' nobody ∧ ∃ i, LB (ids l) x i ∧ r = ((i : Int), decide (x ∈ ids l), ()) := by
  have hlen : s.len = l.length := by have := hr.1; rw [flat_len rpv_len] at this; omega
  have hil : (ids l).length = l.length := by simp [ids]
  refine T37.calls ?_
  unfold T37
  refine LoopX.mk (fun st w' => Upd w w' nobody ∧ ∃ a b : Nat, st = ((a : Int), (b : Int), ()) ∧ a ≤ b ∧ b ≤ l.length ∧ (∀ j (h : j < (ids l).length), j < a → (ids l)[j] < x) ∧ (∀ j (h : j < (ids l).length), b ≤ j → x ≤ (ids l)[j])) (fun st => (st.2.1 - st.1).toNat) ⟨Upd.refl _ _, 0, s.len, rfl, by omega, by omega, fun j _ h => by omega, fun j h h' => by omega⟩ ?_
  rintro _ w1 ⟨hu, a, b, rfl, hab, hb, h1, h2⟩ k hk
  have hr := hr.upd hu fun _ _ h => h
  dsimp only at hk ⊢
  rw [SplitB_iff]
  refine ⟨fun hc => ?_, fun hc => ?_⟩
  · have hc : a < b := by have := of_decide_eq_true hc; omega
    rw [mid_eq (by omega)]
    have hm : (a + b) / 2 < l.length := by omega
    refine hr.idxK ((a + b) / 2) rfl (by omega) ?_
    intro g o ha
    refine hr.elA ha ((a + b) / 2 * 4) rfl (kd := .agg (.cons (.int .i64) (.cons (.int .i64) (.cons (.int .i64) (.cons (.int .i64) .nilT))))) (rpt l[(a + b) / 2]) (flat_at rpv_len _ _ hm) ?_
    refine (rcmp_ok l[(a + b) / 2] x).mono ?_
    rintro r w2 ⟨hu2, rfl⟩
    have hi : (ids l)[(a + b) / 2] = l[(a + b) / 2].2.1 := by simp [ids]
    rw [SplitB_iff]
    refine ⟨fun hd => ?_, fun hd => ?_⟩
    · have hd : (ids l)[(a + b) / 2] < x := by
        rw [hi]
        have this : (if l[(a + b) / 2].2.1 < x then (-1 : Int) else if l[(a + b) / 2].2.1 > x then 1 else 0) < 0 := of_decide_eq_true hd
        split at this
        · assumption
        · split at this <;> omega
      have e : IntKind.i64.wrap ((((a + b) / 2 : Nat) : Int) + 1) = (((a + b) / 2 + 1 : Nat) : Int) := by rw [wr (by omega)]; omega
      rw [e]
      refine hk _ _ ⟨hu.trans hu2, (a + b) / 2 + 1, b, rfl, by omega, hb, fun j hj hj2 => ?_, h2⟩ (by dsimp only; omega)
      rcases Nat.lt_or_ge j ((a + b) / 2) with h3 | h3
      · have := List.pairwise_iff_getElem.1 hs j ((a + b) / 2) hj (by omega) h3; omega
      · have : j = (a + b) / 2 := by omega
        subst this; exact hd
    · have hd : ¬ (ids l)[(a + b) / 2] < x := by
        rw [hi]
        have this : ¬ (if l[(a + b) / 2].2.1 < x then (-1 : Int) else if l[(a + b) / 2].2.1 > x then 1 else 0) < 0 := of_decide_eq_false hd
        split at this <;> omega
      refine hk _ _ ⟨hu.trans hu2, a, (a + b) / 2, rfl, by omega, by omega, h1, fun j hj hj2 => ?_⟩ (by dsimp only; omega)
      rcases Nat.lt_or_ge ((a + b) / 2) j with h3 | h3
      · have := List.pairwise_iff_getElem.1 hs ((a + b) / 2) j (by omega) hj h3; omega
      · have : j = (a + b) / 2 := by omega
        subst this; omega
  · have hc : a = b := by have := of_decide_eq_false hc; omega
    subst hc
    have hLB : LB (ids l) x a := ⟨by omega, h1, h2⟩
    have hmem := hLB.mem hs
    rw [SplitB_iff]
    refine ⟨fun hd => ?_, fun hd => ?_⟩
    · have hd : a < l.length := by have := of_decide_eq_true hd; omega
      refine hr.idxK a rfl (by omega) ?_
      intro g o ha
      refine hr.elA ha (a * 4) rfl (kd := .agg (.cons (.int .i64) (.cons (.int .i64) (.cons (.int .i64) (.cons (.int .i64) .nilT))))) (rpt l[a]) (flat_at rpv_len _ _ hd) ?_
      refine (rcmp_ok l[a] x).mono ?_
      rintro r w2 ⟨hu2, rfl⟩
      have hi : (ids l)[a] = l[a].2.1 := by simp [ids]
      refine ⟨hu.trans hu2, a, hLB, ?_⟩
      have h3 := h2 a (by omega) (Nat.le_refl _)
      rw [hi] at h3
      by_cases he : l[a].2.1 = x
      · have : x ∈ ids l := hmem.2 ⟨by omega, by rw [hi]; exact he⟩
        rw [if_neg (by omega), if_neg (by omega)]
        simp [this]
      · have : ¬ x ∈ ids l := fun h => he (by have := (hmem.1 h).2; rw [hi] at this; exact this)
        rw [if_neg (by omega), if_pos (by omega)]
        simp [this]
    · have hd : ¬ a < l.length := by have := of_decide_eq_false hd; omega
      refine ⟨hu, a, hLB, ?_⟩
      have : ¬ x ∈ ids l := fun h => hd (by have := (hmem.1 h).1; omega)
      simp [this]
/-- What a session is like. -/
structure Ses.wf (s : Ses) : Prop where
  ring : s.ring.length = 16
  n : s.n ≤ 16
  sorted : (ids (s.ring.take s.n)).Pairwise (· < ·)
def Ses.kept (s : Ses) : List Rp := s.ring.take s.n
theorem find_st (h : St w0 w G) {k i : Nat} {s : Ses} (he : Has G k i (sesE s)) (hs : s.wf) (x : Int) : CallK Try.prog (.tup (.cons (.int .i64) (.cons .bool .nilT))) 28 #[.pointer s.p, .int .i64 x] w fun (r : Int × Bool × Unit) w' => Upd w w' nobody ∧ ∃ i, LB (ids s.kept) x i ∧ r = ((i : Int), decide (x ∈ ids s.kept), ()) := by
  refine T28.calls ?_
  unfold T28
  refine NilP.mk (NilP.mk ?_)
  refine h.drew.readB k i he rfl (sesC_n hs.ring) ?_
  refine ReadN.arrH s.n rfl hs.n ?_
  have hrd := h.drew.arrRd k i he (o := 2) (n := 16) (sz := 4) (by rw [sesC_len hs.ring]; decide) (Nat.zero_le s.n) hs.n
  rw [sesC_sub hs.ring 0 s.n (Nat.zero_le _) hs.n, List.drop_zero] at hrd
  refine (rsearch_ok hrd hs.sorted (by have := hs.n; simp; omega) x).mono ?_
  rintro r w' ⟨hu, i, hi, rfl⟩
  exact ⟨(Upd.drew _ _).trans hu, i, hi, rfl⟩
end Go.Proofs.Ytbdhmeefjlkdcaa
