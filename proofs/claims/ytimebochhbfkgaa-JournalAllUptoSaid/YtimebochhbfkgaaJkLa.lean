/- Whatever lives a journal has had. -/
import Derived.Test.YtimebochhbfkgaaJkO
namespace Go.Proofs.Ytimebochhbfkgaa
open Go Go.Fw Go.RowKit
set_option linter.unusedVariables false
set_option linter.unusedSimpArgs false
set_option maxRecDepth 4000
set_option maxHeartbeats 2000000
variable {w0 w : World} {F G : Grps} {d : D} {j : J} {bt : Nat} {s : Sl} {L own : List Bs} {dp : Option Addr}
instance : Et Try.prog 45 51 4 48 := ⟨ET.of (by kernel_rfl), by decide⟩
instance : Ag Try.prog 51 4 := ⟨by kernel_rfl⟩
/-- A life as it stands in memory. -/
structure Lf where
  R : Sl
  recs : List Bs
  A : Int
  T : Int
  idle : Bool
def lfc (o : Lf) : List Value := [.slice o.R.a o.R.len o.R.cap, .int .i64 o.A, .int .i64 o.T, .bool o.idle]
def lfs (os : List Lf) : List Value := os.flatMap lfc
def Lives (w : World) (p : Sl) (os : List Lf) : Prop := Rd w p 4 (lfs os) ∧ (∀ o ∈ os, Recs w o.R o.recs ∧ o.A ≤ 9223372036854775807 ∧ o.recs.length ≤ 140737488351232) ∧ os.length ≤ 2932031007403
theorem lfs_len (os : List Lf) : (lfs os).length = os.length * 4 := by
  induction os with
  | nil => rfl
  | cons x r ih => simp only [lfs, List.flatMap_cons, List.length_append, List.length_cons] at ih ⊢; rw [ih]; simp [lfc]; omega
theorem lfs_drop (os : List Lf) (n : Nat) : (lfs os).drop (n * 4) = lfs (os.drop n) := by
  induction n generalizing os with
  | zero => simp
  | succ n ih =>
    cases os with
    | nil => simp [lfs]
    | cons x r =>
      have e : (n + 1) * 4 = 4 + n * 4 := by omega
      rw [e, ← List.drop_drop]
      have : (lfs (x :: r)).drop 4 = lfs r := by simp [lfs, lfc]
      rw [this, ih]; rfl
theorem lfs_at (os : List Lf) {i : Nat} (h : i < os.length) : ((lfs os).drop (i * 4)).take 4 = lfc os[i] := by
  rw [lfs_drop, List.drop_eq_getElem_cons h]
  simp only [lfs, List.flatMap_cons]
  rfl
theorem lfs_get (os : List Lf) {i k : Nat} (h : i < os.length) (hk : k < 4) : (lfs os)[i * 4 + k]? = (lfc os[i])[k]? := by
  have := congrArg (fun l => l[k]?) (lfs_at os h)
  simp only [List.getElem?_take, if_pos hk, List.getElem?_drop] at this
  exact this

theorem Good.of {ims l : List (List UInt8)} {n : Nat} (h : Scan ims l n) (hf : Fresh (ims.drop n)) : Good ims l := ⟨n, h, hf⟩
theorem law5 {wi : World} {x : Int} (hx : -9223372036854775808 ≤ x ∧ x ≤ 9223372036854775807) {p : Sl} {os : List Lf} (hp : Lives wi p os) : CallK Try.prog .bool 5 #[.int .i64 x, .slice p.a p.len p.cap] wi fun (r : Bool) w' => Upd wi w' nobody ∧ r = true := by
  have h := St.init wi
  obtain ⟨hp1, hp2, hp3⟩ := hp
  have hpl : p.len = os.length := by have := hp1.1; rw [lfs_len] at this; omega
  refine T5.calls ?_
  unfold T5
  refine (within_ok (by decide) (by decide) hx).mono ?_
  rintro r w' ⟨hw, n, rfl, hn⟩
  rw [hw]
  rw [wr (x := 1 + (n : Int)) (by omega)]
  have e1 : 1 + (n : Int) = ((1 + n : Nat) : Int) := by omega
  rw [e1]
  refine (new_st h (n := 1 + n) (by omega) (by omega)).mono ?_
  rintro r w ⟨b, s, rfl, h⟩
  have ok := fresh_ok b s (n := 1 + n) (by omega)
  have him : (fresh b s (1 + n)).abs.ims = zer (1 + n) := fresh_ims _ _ _
  have hwr : (fresh b s (1 + n)).wr = 0 := rfl
  have hsl : (fresh b s (1 + n)).secs.length ≤ 60 := by simp [fresh]; omega
  have hpp : (some ⟨b, 0, none⟩ : Option Addr) = (fresh b s (1 + n)).p := rfl
  dsimp only
  rw [hpp]
  generalize fresh b s (1 + n) = d at h ok him hwr hsl
  refine JoinX.mk (fun jv w' => jv.1 = false ∧ St wi w' (dg d :: [])) ?_ ?_
  · rintro ⟨_, ⟨⟩⟩ w ⟨hj, h⟩
    dsimp only at hj h ⊢
    subst hj
    rw [SplitB_iff]
    refine ⟨(fun hz => by cases hz), fun _ => ?_⟩
    have h := h.nilrow 31 1
    refine h.newB run_boxA rfl ?_
    intro bt w h
    have h := St.one.2 h
    have h := h.ord 2 [1, 0]
    dsimp only [pick, nthO, dropO] at h
    refine LoopX.mk (fun st w' => ∃ (k : Nat) (d' : D) (s' : Sl) (L own : List Bs) (c : List UInt8), st.2.2.1 = (k : Int) ∧ k ≤ os.length ∧ d'.b = d.b ∧ DOk d' ∧ d'.secs.length = d.secs.length ∧ d'.wr ≤ 1037 * k ∧ Owns wi L own ∧ Rd wi st.1 1 (bys c) ∧
        (Good d'.abs.ims (L.map (·.2)) ∨ st.2.1 = true ∧ Good d'.abs.ims (L.map (·.2) ++ [c])) ∧ St wi w' (dg d' :: tg bt d.p s' L own :: [])) (fun st => os.length - st.2.2.1.toNat)
      ⟨0, d, ⟨none, 0, 0⟩, [], [], [], rfl, Nat.zero_le _, rfl, ok, rfl, by omega, (fun x hx => by cases hx), Rd.nil _ _, .inl (by rw [him]; exact zer_good _), h⟩ ?_
    clear h ok him hwr
    rintro ⟨may, perhaps, _, ⟨⟩⟩ w ⟨k, e, s, L, own, c, rfl, hk, hb, ok, hsl', hwr, hown, hmay, hcase, h⟩ K hK
    dsimp only at h hK hmay hcase ⊢
    have hpe : e.p = d.p := by rw [D.p, D.p, hb]
    rw [SplitB_iff]
    rw [← hpe] at h
    refine ⟨fun hz => ?_, fun hz => ?_⟩
    · have hz : k < os.length := by
        have h1 : (k : Int) < (p.len : Int) := of_decide_eq_true hz
        omega
      obtain ⟨ho1, ho2, ho3⟩ := hp2 _ (List.getElem_mem hz)
      refine JoinX.mk (fun st w' => ∃ (d' : D) (s' : Sl) (L own : List Bs) (c : List UInt8), d'.b = d.b ∧ DOk d' ∧ d'.secs.length = d.secs.length ∧ d'.wr ≤ 1037 * (k + 1) ∧ Owns wi L own ∧ Rd wi st.1 1 (bys c) ∧
        (Good d'.abs.ims (L.map (·.2)) ∨ st.2.1 = true ∧ Good d'.abs.ims (L.map (·.2) ++ [c])) ∧ St wi w' (dg d' :: tg bt d.p s' L own :: [])) ?_ ?_
      · rintro ⟨may, perhaps, ⟨⟩⟩ w ⟨d', s', L, own, c, hb, ok, hsl, hwr, hown, hmay, hcase, h⟩
        exact hK _ _ ⟨k + 1, d', s', L, own, c, by dsimp only; rw [wr (by omega)]; omega, hz, hb, ok, hsl, by omega, hown, hmay, hcase, h⟩ (by dsimp only; rw [wr (by omega)]; omega)
      · intro k5 hk5
        refine (opened_st h ok hown (p := may) (c := c) (fun w h => h.old hmay) hcase).mono ?_
        rintro r w ⟨j, s', L', own', rfl, jok, hjd, hrec, hsc, hfr, hown', h⟩
        have ok2 : DOk { e with off := false } := ⟨ok.tr, ok.full, ok.small, ok.w0, ok.torn, ok.after⟩
        first | refine RunN.pEqS ?_ | refine RunN.pEqN ?_ | refine RunN.pNeS ?_ | refine RunN.pNeN ?_
        rw [SplitB_iff]
        refine ⟨(fun hz => by cases hz), fun _ => ?_⟩
        refine (h.old hp1).idxK k rfl (by omega) ?_
        intro b1 o1 hb1
        refine (h.old hp1).el hb1 (k * 4 + 3) (by simp only [add_lit', Nat.add_assoc]) (kd := .bool) (x := os[k].idle) (by rw [lfs_get os hz (by decide)]; rfl) ?_
        rw [SplitB_iff]
        refine ⟨fun hy => ?_, fun hy => ?_⟩
        · skip
          have h := h.ord 3 [0, 2]
          dsimp only [pick, nthO, dropO] at h
          rw [hpe] at h
          exact hk5 _ _ ⟨{ e with off := false }, s', L', own', [], hb, ok2, hsl', by dsimp only; omega, hown', Rd.nil _ _, .inl (by rw [← hrec]; exact ⟨_, hsc, hfr⟩), h⟩
        · refine (h.old hp1).idxK k rfl (by omega) ?_
          intro b2 o2 hb2
          refine (h.old hp1).elA hb2 (k * 4) rfl (kd := .agg (.cons .sl (.cons (.int .i64) (.cons (.int .i64) (.cons .bool .nilT))))) (os[k].R, os[k].A, os[k].T, os[k].idle, ()) (lfs_at os hz) ?_
          refine (life_st (d := { e with off := false }) h ok2 jok hjd rfl hrec hsc hfr hown' (by dsimp only; omega) (R := os[k].R) (Rl := os[k].recs) (fun w h => ⟨h.old ho1.1, fun x hx => h.old (ho1.2 x hx).1⟩) (fun x hx => (ho1.2 x hx).2) ho3 (Af := os[k].A) (T := os[k].T) (idle := os[k].idle) ho2).mono ?_
          rintro r w ⟨d2, s2, L2, own2, hb2', ok3, hsl2, hwr2, hown2, h, hres⟩
          have hsl3 : d2.secs.length = d.secs.length := hsl2.trans hsl'
          have hwr3 : d2.wr ≤ 1037 * (k + 1) := by
            have h1 : d2.wr ≤ e.wr + 17 * (e.secs.length + 1) := hwr2
            omega
          have h : St wi w (dg d2 :: tg bt e.p s2 L2 own2 :: []) := h
          rw [hpe] at h
          rcases hres with ⟨rfl, hg⟩ | ⟨x, hx, rfl, hg⟩
          · dsimp only
            rw [SplitB_iff]
            refine ⟨(fun hz => by cases hz), fun _ => ?_⟩
            exact hk5 _ _ ⟨d2, s2, L2, own2, [], hb2'.trans hb, ok3, hsl3, hwr3, hown2, Rd.nil _ _, .inl hg, h⟩
          · dsimp only
            rw [SplitB_iff]
            refine ⟨(fun hz => by cases hz), fun _ => ?_⟩
            refine hk5 _ _ ⟨d2, s2, L2, own2, x.2, hb2'.trans hb, ok3, hsl3, hwr3, hown2, (ho1.2 x hx).1, ?_, h⟩
            rcases hg with hg | hg
            · exact .inl hg
            · exact .inr ⟨rfl, hg⟩
    · refine (opened_st h ok hown (p := may) (c := c) (fun w h => h.old hmay) hcase).mono ?_
      rintro r w ⟨j, s', L', own', rfl, jok, hjd, hrec, hsc, hfr, hown', h⟩
      have ok2 : DOk { e with off := false } := ⟨ok.tr, ok.full, ok.small, ok.w0, ok.torn, ok.after⟩
      first | refine RunN.pEqS ?_ | refine RunN.pEqN ?_ | refine RunN.pNeS ?_ | refine RunN.pNeN ?_
      rw [SplitB_iff]
      refine ⟨fun _ => ?_, (fun hz => by cases hz)⟩
      have h := h.ord 3 [0, 2]
      dsimp only [pick, nthO, dropO] at h
      refine (opened_st (d := { e with off := false }) h ok2 hown' (p := ⟨none, 0, 0⟩) (c := []) (fun w h => Rd.nil _ _) (perhaps := false) (.inl (by rw [← hrec]; exact ⟨_, hsc, hfr⟩))).mono ?_
      rintro r w ⟨j2, s2, L2, own2, rfl, jok2, hjd2, hrec2, hsc2, hfr2, hown2, h⟩
      first | refine RunN.pEqS ?_ | refine RunN.pEqN ?_ | refine RunN.pNeS ?_ | refine RunN.pNeN ?_
      exact ⟨h.upd, rfl⟩
  · intro k hk
    refine (able_st h).mono ?_
    rintro r w ⟨rfl, h⟩
    rw [SplitB_iff]
    refine ⟨(fun hz => by cases hz), fun _ => ?_⟩
    first | refine RunN.pEqS ?_ | refine RunN.pEqN ?_ | refine RunN.pNeS ?_ | refine RunN.pNeN ?_
    rw [SplitB_iff]
    exact ⟨(fun hz => by cases hz), fun _ => hk _ _ ⟨rfl, h⟩⟩
end Go.Proofs.Ytimebochhbfkgaa
