/- Plain law of a pair of links: one direction. -/
import Derived.Test.YtodgnpmljdopiaaLkO
namespace Go.Proofs.Ytodgnpmljdopiaa
open Go Go.Fw Go.RowKit
set_option linter.unusedVariables false
set_option linter.unusedSimpArgs false
set_option maxRecDepth 4000
set_option maxHeartbeats 4000000

/-- From S to T: what was handed in, how much came out, what is under way. -/
structure Dir (S T : Lk) (IN : List (List UInt8)) (O : Nat) (pool : List Sg) : Prop where
  last : S.last = IN.length
  un : ∀ p ∈ S.un ++ S.bx, ∃ i : Nat, p.1 = i + 1 ∧ IN[i]? = some p.2.2
  want : T.want = O + 1
  og : (O : Int) ≤ S.gone
  done : S.last - (S.un.length + S.bx.length : Nat) ≤ O
  ea : ∀ x ∈ T.ea, x.1.1 ≤ S.gone ∧ ∃ i : Nat, x.1.1 = i + 1 ∧ IN[i]? = some x.1.2.2
  po : ∀ g ∈ pool, g.to = T.me → g.fr = T.peer ∧ g.seq ≤ S.gone ∧ 0 ≤ g.ack ∧ g.ack + 1 ≤ S.want ∧ (g.seq = 0 ∧ g.d.2 = [] ∨ ∃ i : Nat, g.seq = i + 1 ∧ IN[i]? = some g.d.2)
  lens : ∀ l ∈ IN, l.length ≤ 4000
section
variable {S T S' T' : Lk} {IN IN2 : List (List UInt8)} {O O2 : Nat} {pool : List Sg}
theorem Dir.fits (h : Dir S T IN O pool) (h2 : Dir T S IN2 O2 pool) (hw : S.wf) (hw2 : T.wf) {g : Sg} (hg : g ∈ pool) (hto : g.to = T.me) : T.fits g = true := by
  obtain ⟨a1, a2, a3, a4, a5⟩ := h.po g hg hto
  have h3 := h2.want; have h4 := h2.og; have h5 := hw.last; have h6 := hw.gone
  have hl : g.d.2.length ≤ 4000 := by
    rcases a5 with ⟨_, hd⟩ | ⟨i, _, hd⟩
    · rw [hd]; simp
    · exact h.lens _ (List.mem_of_getElem? hd)
  have hs : 0 ≤ g.seq ∧ (0 < g.seq ∨ g.d.2.length = 0) := by
    rcases a5 with ⟨h0, hd⟩ | ⟨i, hi, hd⟩
    · exact ⟨by omega, .inr (by rw [hd]; rfl)⟩
    · exact ⟨by omega, .inl (by omega)⟩
  simp only [Lk.fits, Bool.and_eq_true, decide_eq_true_eq, Bool.or_eq_true, beq_iff_eq]
  refine ⟨a1, hto, by omega, by omega, by omega, by omega, ?_, hl⟩
  rcases hs.2 with h7 | h7
  · exact .inl (by omega)
  · exact .inr h7
theorem Dir.tickS (h : Dir S T IN O pool) : Dir S.ticked T IN O pool := ⟨h.last, h.un, h.want, h.og, h.done, h.ea, h.po, h.lens⟩
theorem Dir.tickT (h : Dir S T IN O pool) : Dir S T.ticked IN O pool := ⟨h.last, h.un, h.want, h.og, h.done, h.ea, h.po, h.lens⟩
theorem get_snoc {l : List (List UInt8)} {i : Nat} {x y : List UInt8} (h : l[i]? = some x) : (l ++ [y])[i]? = some x := by
  rw [List.getElem?_append_left (List.getElem?_eq_some_iff.1 h).1]; exact h
theorem Dir.sendS {S : Lm} (h : Dir S.toLk T IN O pool) {l : List UInt8} (hl : l.length ≤ 4000) (s : Sl) : Dir (S.sent s l).toLk T (IN ++ [l]) O pool := by
  refine ⟨?_, ?_, h.want, h.og, ?_, ?_, ?_, ?_⟩
  · have := h.last
    simp [Lm.sent, this]
  · intro p hp
    have hp : p ∈ S.un ++ (S.bx ++ [(S.last + 1, s, l)]) := hp
    rw [← List.append_assoc] at hp
    rcases List.mem_append.1 hp with hp | hp
    · obtain ⟨i, h1, h2⟩ := h.un p hp
      exact ⟨i, h1, get_snoc h2⟩
    · simp at hp
      subst hp
      exact ⟨IN.length, by have := h.last; dsimp only; omega, by simp⟩
  · have := h.done
    simp only [Lm.sent, List.length_append, List.length_cons, List.length_nil]
    omega
  · intro x hx
    obtain ⟨h1, i, h2, h3⟩ := h.ea x hx
    exact ⟨h1, i, h2, get_snoc h3⟩
  · intro g hg hto
    obtain ⟨a1, a2, a3, a4, a5⟩ := h.po g hg hto
    refine ⟨a1, a2, a3, a4, ?_⟩
    rcases a5 with h0 | ⟨i, hi, hd⟩
    · exact .inl h0
    · exact .inr ⟨i, hi, get_snoc hd⟩
  · intro x hx
    rcases List.mem_append.1 hx with hx | hx
    · exact h.lens x hx
    · simp at hx; subst hx; exact hl
theorem Dir.sendT {T : Lm} (h : Dir S T.toLk IN O pool) (l : List UInt8) (s : Sl) : Dir S (T.sent s l).toLk IN O pool := ⟨h.last, h.un, h.want, h.og, h.done, h.ea, h.po, h.lens⟩
/-- What Out tells may be under way from then on. -/
theorem Dir.outS {S : Lm} (h : Dir S.toLk T IN O pool) (hw : S.wf) (hme : S.me = T.peer) {gs : List Sg} (hg : gs.map Sg.pl = S.tells S.outs) (us : Sl) {pool2 : List Sg} (hp : ∀ g ∈ pool2, g ∈ pool ∨ g ∈ gs) : Dir (S.outed us).toLk T IN O pool2 := by
  have hgo := hw.gone
  have hge : S.gone ≤ S.last := by omega
  refine ⟨h.last, ?_, h.want, ?_, ?_, ?_, ?_, h.lens⟩
  · intro p hp
    have hp : p ∈ (S.un ++ S.bx) ++ [] := hp
    rw [List.append_nil] at hp
    exact h.un p hp
  · show (O : Int) ≤ S.last
    have := h.og; omega
  · have := h.done
    simp only [Lm.outed, List.length_append, List.length_nil, Nat.add_zero]
    exact this
  · intro x hx
    obtain ⟨h1, r⟩ := h.ea x hx
    exact ⟨by show x.1.1 ≤ S.last; omega, r⟩
  · intro g hg2 hto
    rcases hp g hg2 with h1 | h1
    · obtain ⟨a1, a2, a3, a4, a5⟩ := h.po g h1 hto
      exact ⟨a1, by show g.seq ≤ S.last; omega, a3, a4, a5⟩
    · have h2 : g.pl ∈ S.tells S.outs := by rw [← hg]; exact List.mem_map.2 ⟨g, h1, rfl⟩
      obtain ⟨p, hp1, hp2⟩ := List.mem_map.1 h2
      simp only [Sg.pl, Prod.mk.injEq] at hp2
      obtain ⟨b1, b2, b3, b4, b5⟩ := hp2
      have hwt := hw.want
      have h3 : p = ackP ∨ p ∈ S.un ++ S.bx := by
        rw [Lk.outs] at hp1
        rcases List.mem_append.1 hp1 with hp1 | hp1
        · rcases List.mem_append.1 hp1 with hp1 | hp1
          · split at hp1
            · simp at hp1; exact .inl hp1
            · cases hp1
          · split at hp1
            · exact .inr (List.mem_append_left _ hp1)
            · cases hp1
        · exact .inr (List.mem_append_right _ hp1)
      refine ⟨by rw [← b1, hme], ?_, by omega, by show g.ack + 1 ≤ S.want; omega, ?_⟩
      · show g.seq ≤ S.last
        rcases h3 with rfl | h3
        · rw [← b3]; show (0 : Int) ≤ S.last
          have := hw.low; omega
        · obtain ⟨i, h4, h5⟩ := h.un p h3
          have := (List.getElem?_eq_some_iff.1 h5).1
          have := h.last
          omega
      · rcases h3 with rfl | h3
        · exact .inl ⟨b3.symm, b5.symm⟩
        · obtain ⟨i, h4, h5⟩ := h.un p h3
          exact .inr ⟨i, by omega, by rw [← b5]; exact h5⟩
theorem Dir.outT {T : Lm} (h : Dir S T.toLk IN O pool) (hne : T.me ≠ T.peer) {gs : List Sg} (hg : gs.map Sg.pl = T.tells T.outs) (us : Sl) {pool2 : List Sg} (hp : ∀ g ∈ pool2, g ∈ pool ∨ g ∈ gs) : Dir S (T.outed us).toLk IN O pool2 := by
  refine ⟨h.last, h.un, h.want, h.og, h.done, h.ea, ?_, h.lens⟩
  intro g hg2 hto
  rcases hp g hg2 with h1 | h1
  · exact h.po g h1 hto
  · exfalso
    have h2 : g.pl ∈ T.tells T.outs := by rw [← hg]; exact List.mem_map.2 ⟨g, h1, rfl⟩
    obtain ⟨p, hp1, hp2⟩ := List.mem_map.1 h2
    simp only [Sg.pl, Prod.mk.injEq] at hp2
    exact hne (hto.symm.trans hp2.2.1.symm)
/-- What goes up is the next of what was handed in. -/
theorem Dir.up {T : Lm} (h : Dir S T.toLk IN O pool) (hw : S.wf) {g : Sg} (hg : g ∈ pool) (hto : g.to = T.me) {u l : List Ea} (ht : TakeR T.toLk g u l) :
    (∀ (i : Nat) (hi : i < u.length), IN[O + i]? = some u[i].1.2.2) ∧ ((O + u.length : Nat) : Int) ≤ S.gone ∧ ∀ x ∈ l, x.1.1 ≤ S.gone ∧ ∃ i : Nat, x.1.1 = i + 1 ∧ IN[i]? = some x.1.2.2 := by
  by_cases hn : T.toLk.news g
  · obtain ⟨s, c, hp, hk, hl⟩ := ht.yes hn
    have hwt := h.want
    have hall : ∀ x ∈ u ++ l, x.1.1 ≤ S.gone ∧ ∃ i : Nat, x.1.1 = i + 1 ∧ IN[i]? = some x.1.2.2 := by
      intro x hx
      rcases List.mem_append.1 (hp.mem_iff.2 hx) with h1 | h1
      · exact h.ea x h1
      · simp at h1; subst h1
        obtain ⟨a1, a2, a3, a4, a5⟩ := h.po g hg hto
        refine ⟨a2, ?_⟩
        rcases a5 with h0 | h0
        · exact absurd h0.1 hn.1
        · exact h0
    refine ⟨fun i hi => ?_, ?_, fun x hx => hall x (List.mem_append_right _ hx)⟩
    · obtain ⟨_, k, h1, h2⟩ := hall _ (List.mem_append_left _ (List.getElem_mem hi))
      have h3 := hk i hi
      have : O + i = k := by omega
      rw [this]; exact h2
    · rcases Nat.eq_zero_or_pos u.length with h0 | h0
      · rw [h0]; exact h.og
      · have hi : u.length - 1 < u.length := by omega
        have h1 := hk _ hi
        have h2 := (hall _ (List.mem_append_left _ (List.getElem_mem hi))).1
        omega
  · obtain ⟨rfl, rfl⟩ := ht.no hn
    exact ⟨fun i hi => by simp at hi, by simpa using h.og, h.ea⟩
theorem Dir.takeT {T : Lm} (h : Dir S T.toLk IN O pool) (hw : S.wf) {g : Sg} (hg : g ∈ pool) (hto : g.to = T.me) {u l : List Ea} (ht : TakeR T.toLk g u l) (us : Sl) (mc : Nat) :
    Dir S (T.took g us mc u.length l).toLk IN (O + u.length) pool := by
  obtain ⟨h1, h2, h3⟩ := h.up hw hg hto ht
  refine ⟨h.last, h.un, ?_, h2, ?_, h3, h.po, h.lens⟩
  · have := h.want
    simp only [Lm.took]
    omega
  · have := h.done; omega
theorem ackd_low {l : List Pc} {a : Int} {i : Nat} (hi : i < ackd l a) : ∃ h : i < l.length, l[i].1 ≤ a := by
  have hl := ackd_le l a
  refine ⟨by omega, ?_⟩
  induction l generalizing i with
  | nil => simp [ackd] at hi
  | cons x r ih =>
    rw [ackd, List.takeWhile_cons] at hi
    split at hi
    · rename_i hx
      cases i with
      | zero => simpa using hx
      | succ i =>
        have hi : i < ackd r a := by simp at hi; exact hi
        have := ih hi (ackd_le r a)
        simpa using this
    · simp at hi
theorem Dir.takeS {S : Lm} (h : Dir S.toLk T IN O pool) (hw : S.wf) {g : Sg} (hak : g.ack ≤ O) (us : Sl) (mc n : Nat) (l : List Ea) : Dir (S.took g us mc n l).toLk T IN O pool := by
  have hle := ackd_le S.un g.ack
  refine ⟨h.last, ?_, h.want, h.og, ?_, h.ea, ?_, h.lens⟩
  · intro p hp
    have hp : p ∈ S.un.drop (ackd S.un g.ack) ++ S.bx := hp
    refine h.un p ?_
    rcases List.mem_append.1 hp with hp | hp
    · exact List.mem_append_left _ (List.mem_of_mem_drop hp)
    · exact List.mem_append_right _ hp
  · have hd := h.done
    simp only [Lm.took, List.length_drop]
    rcases Nat.eq_zero_or_pos (ackd S.un g.ack) with h0 | h0
    · rw [h0]; simpa using hd
    · obtain ⟨h1, h2⟩ := ackd_low (l := S.un) (a := g.ack) (i := ackd S.un g.ack - 1) (by omega)
      have h3 : ackd S.un g.ack - 1 < (S.un ++ S.bx).length := by rw [List.length_append]; omega
      have h4 := hw.seq _ h3
      rw [List.getElem_append_left h1] at h4
      rw [h4] at h2
      omega
  · intro g2 hg2 hto
    obtain ⟨a1, a2, a3, a4, a5⟩ := h.po g2 hg2 hto
    refine ⟨a1, a2, a3, ?_, a5⟩
    show g2.ack + 1 ≤ S.want + n
    have : g2.ack + 1 ≤ S.want := a4
    omega
end
end Go.Proofs.Ytodgnpmljdopiaa
