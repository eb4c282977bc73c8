/- A list of segments comes, one by one: what the receiver becomes. -/
import Derived.Test.YtodgnpmljdopiaaLkU
namespace Go.Proofs.Ytodgnpmljdopiaa
open Go Go.Fw Go.RowKit
set_option linter.unusedVariables false
set_option linter.unusedSimpArgs false
set_option maxRecDepth 4000
set_option maxHeartbeats 8000000

/-- The receiver takes these, in this order. -/
inductive Pass (x : Ln) : List Sg → Ln → Prop
  | nil : Pass x [] x
  | snoc {gs : List Sg} {y : Ln} {g : Sg} {us : Sl} {mc : Nat} {u l : List Ea} : Pass x gs y → y.e.wf → TakeR y.e.toLk g u l → y.e.fits g = true →
      Pass x (gs ++ [g]) { y with e := y.e.took g us mc u.length l, of := y.of + u.length }
structure Same (x y : Ln) : Prop where
  f : y.f = x.f
  ie : y.ie = x.ie
  jf : y.jf = x.jf
  oe : y.oe = x.oe
  ps : y.ps = x.ps
  pool : y.pool = x.pool
  gh : y.gh = x.gh
  cb : y.cb = x.cb
  g8 : y.g8 = x.g8
  p : y.e.p = x.e.p
  win : y.e.win = x.e.win
  res : y.e.res = x.e.res
  me : y.e.me = x.e.me
  peer : y.e.peer = x.e.peer
  bx : y.e.bx = x.e.bx
  last : y.e.last = x.e.last
  gone : y.e.gone = x.e.gone
  du : y.e.du = x.e.du
  ag : y.e.ag = x.e.ag
theorem Pass.same {x y : Ln} {gs : List Sg} (h : Pass x gs y) : Same x y := by
  induction h with
  | nil => exact ⟨rfl, rfl, rfl, rfl, rfl, rfl, rfl, rfl, rfl, rfl, rfl, rfl, rfl, rfl, rfl, rfl, rfl, rfl, rfl⟩
  | snoc _ _ _ _ ih => exact ⟨ih.f, ih.ie, ih.jf, ih.oe, ih.ps, ih.pool, ih.gh, ih.cb, ih.g8, ih.p, ih.win, ih.res, ih.me, ih.peer, ih.bx, ih.last, ih.gone, ih.du, ih.ag⟩
theorem Pass.un {x y : Ln} {gs : List Sg} (h : Pass x gs y) : ∃ d, y.e.un = x.e.un.drop d := by
  induction h with
  | nil => exact ⟨0, rfl⟩
  | @snoc gs y g us mc u l _ _ _ _ ih =>
    obtain ⟨d, hd⟩ := ih
    refine ⟨d + ackd y.e.un g.ack, ?_⟩
    show y.e.un.drop (ackd y.e.un g.ack) = _
    rw [hd, List.drop_drop]
theorem Pass.ow {x y : Ln} {gs : List Sg} (h : Pass x gs y) : y.e.ow = true ↔ (x.e.ow = true ∨ ∃ g ∈ gs, g.seq ≠ 0) := by
  induction h with
  | nil => simp
  | @snoc gs y g us mc u l _ _ _ _ ih =>
    show (if g.seq = 0 then y.e.ow else true) = true ↔ _
    by_cases hg : g.seq = 0
    · rw [if_pos hg, ih]
      constructor
      · rintro (h | ⟨a, ha, h⟩)
        · exact .inl h
        · exact .inr ⟨a, List.mem_append_left _ ha, h⟩
      · rintro (h | ⟨a, ha, h⟩)
        · exact .inl h
        · rcases List.mem_append.1 ha with ha | ha
          · exact .inr ⟨a, ha, h⟩
          · simp at ha; subst ha; exact absurd hg h
    · rw [if_neg hg]
      simp only [true_iff]
      exact .inr ⟨g, by simp, hg⟩
theorem ackd_rest {e : Lk} (hw : e.wf) {a : Int} : ∀ p ∈ e.un.drop (ackd e.un a), a < p.1 := by
  intro p hp
  obtain ⟨i, hi, rfl⟩ := List.mem_iff_getElem.1 hp
  rw [List.length_drop] at hi
  rw [List.getElem_drop]
  have hlt : ackd e.un a < e.un.length := by omega
  have h0 : a < (e.un[ackd e.un a]'hlt).1 := by
    have : ∀ (l : List Pc) (h : ackd l a < l.length), a < (l[ackd l a]'h).1 := by
      intro l
      induction l with
      | nil => intro h; simp at h
      | cons x r ih =>
        intro h
        by_cases hx : x.1 ≤ a
        · have e1 : ackd (x :: r) a = ackd r a + 1 := by rw [ackd, ackd, List.takeWhile_cons]; simp [hx]
          simp only [e1, List.getElem_cons_succ]
          exact ih (by rw [e1] at h; simpa using h)
        · have e1 : ackd (x :: r) a = 0 := by rw [ackd, List.takeWhile_cons]; simp [hx]
          simp only [e1, List.getElem_cons_zero]
          omega
    exact this _ hlt
  have h1 : ∀ (k : Nat) (hk : k < e.un.length), (e.un[k]'hk).1 = e.last - (e.un.length + e.bx.length : Nat) + 1 + k := by
    intro k hk
    have := hw.seq k (by rw [List.length_append]; omega)
    rwa [List.getElem_append_left hk] at this
  have h2 := h1 _ hlt
  have h3 := h1 (ackd e.un a + i) (by omega)
  omega
theorem Pass.acked {x y : Ln} {gs : List Sg} (h : Pass x gs y) {a : Int} (hg : ∃ g ∈ gs, g.ack = a) : ∀ p ∈ y.e.un, a < p.1 := by
  induction h with
  | nil => obtain ⟨g, hg, _⟩ := hg; cases hg
  | @snoc gs y g us mc u l _ hw _ _ ih =>
    intro p hp
    have hp : p ∈ y.e.un.drop (ackd y.e.un g.ack) := hp
    obtain ⟨g', hg', ha⟩ := hg
    rcases List.mem_append.1 hg' with h1 | h1
    · exact ih ⟨g', h1, ha⟩ p (List.mem_of_mem_drop hp)
    · simp at h1; subst h1
      rw [← ha]
      exact ackd_rest hw p hp
theorem take_want {e : Lk} (hw : e.wf) {g : Sg} {u l : List Ea} (ht : TakeR e g u l) (hs : g.seq ≠ 0) (h : g.seq ≤ e.want) : g.seq + 1 ≤ e.want + u.length := by
  by_cases h1 : g.seq < e.want
  · omega
  · have hse : g.seq = e.want := by omega
    have hwin := hw.win
    have hn : e.news g := ⟨hs, fun x hx hk => by have := (hw.erange x hx).1; omega, by omega, by omega⟩
    obtain ⟨s, c, hp, hk, hl⟩ := ht.yes hn
    rcases Nat.eq_zero_or_pos u.length with h0 | h0
    · exfalso
      have hu : u = [] := List.eq_nil_of_length_eq_zero h0
      subst hu
      have := hl ((g.seq, s, g.d.2), c) (by
        have := hp.mem_iff.1 (List.mem_append_right e.ea (List.mem_singleton.2 rfl))
        simpa using this)
      simp at this
      omega
    · omega
theorem Pass.want {x y : Ln} {gs : List Sg} (h : Pass x gs y) {q : Nat} {d : Int} (hq : ∀ (i : Nat) (hi : i < gs.length), gs[i].seq = if i < q then 0 else d + (i - q : Nat) + 1) (hd : 0 ≤ d) (hx : d + 1 ≤ x.e.want) : d + (gs.length - q : Nat) + 1 ≤ y.e.want := by
  induction h with
  | nil => simpa using hx
  | @snoc gs y g us mc u l hp hw ht hf ih =>
    have h1 := ih (fun i hi => by
      have := hq i (by simp; omega)
      rwa [List.getElem_append_left hi] at this)
    have h2 := hq gs.length (by simp)
    rw [List.getElem_append_right (Nat.le_refl _)] at h2
    simp only [Nat.sub_self, List.getElem_cons_zero] at h2
    show d + ((gs ++ [g]).length - q : Nat) + 1 ≤ y.e.want + u.length
    have h4 : (gs ++ [g]).length = gs.length + 1 := by simp
    rw [h4]
    by_cases h3 : gs.length < q
    · omega
    · rw [if_neg h3] at h2
      have := take_want hw ht (by omega) (by omega)
      omega
/-- The numbers of what is told. -/
theorem outs_seq {e : Lk} (hw : e.wf) (hall : e.un = [] ∨ e.du = true) {gs : List Sg} (hg : gs.map Sg.pl = e.tells e.outs) :
    ∃ q, gs.length = q + (e.un.length + e.bx.length) ∧ ∀ (i : Nat) (hi : i < gs.length), gs[i].seq = if i < q then 0 else (e.last - (e.un.length + e.bx.length : Nat)) + (i - q : Nat) + 1 := by
  have ho : e.outs = (if e.ow = true then [ackP] else []) ++ (e.un ++ e.bx) := by
    rw [Lk.outs]
    rcases hall with h | h
    · rw [h]; simp
    · rw [h]; simp
  rw [ho] at hg
  have hlen := congrArg List.length hg
  simp only [Lk.tells, List.length_map, List.length_append] at hlen
  refine ⟨(if e.ow = true then [ackP] else []).length, by omega, fun i hi => ?_⟩
  have h1 : (gs.map Sg.pl)[i]? = (e.tells ((if e.ow = true then [ackP] else []) ++ (e.un ++ e.bx)))[i]? := by rw [hg]
  have hi2 : i < ((if e.ow = true then [ackP] else []) ++ (e.un ++ e.bx)).length := by simp only [List.length_append]; omega
  rw [Lk.tells, List.getElem?_map, List.getElem?_map, List.getElem?_eq_getElem hi, List.getElem?_eq_getElem hi2] at h1
  simp only [Option.map_some, Option.some.injEq, Sg.pl, Prod.mk.injEq] at h1
  rw [h1.2.2.1]
  by_cases hq : i < (if e.ow = true then [ackP] else []).length
  · rw [if_pos hq, List.getElem_append_left hq]
    have : ∀ p ∈ (if e.ow = true then [ackP] else []), p.1 = 0 := by
      intro p hp
      split at hp
      · simp at hp; rw [hp]; rfl
      · cases hp
    exact this _ (List.getElem_mem hq)
  · rw [if_neg hq, List.getElem_append_right (by omega)]
    have hk : i - (if e.ow = true then [ackP] else []).length < (e.un ++ e.bx).length := by simp only [List.length_append] at hi2 ⊢; omega
    have := hw.seq _ hk
    rw [this]; omega
theorem outs_ack {e : Lk} {gs : List Sg} (hg : gs.map Sg.pl = e.tells e.outs) : ∀ g ∈ gs, g.ack = e.want - 1 := by
  intro g h
  have h2 : g.pl ∈ e.tells e.outs := by rw [← hg]; exact List.mem_map.2 ⟨g, h, rfl⟩
  obtain ⟨p, hp1, hp2⟩ := List.mem_map.1 h2
  simp only [Sg.pl, Prod.mk.injEq] at hp2
  exact hp2.2.2.2.1.symm
end Go.Proofs.Ytodgnpmljdopiaa
