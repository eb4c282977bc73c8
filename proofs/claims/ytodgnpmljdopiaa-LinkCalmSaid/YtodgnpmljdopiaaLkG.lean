/- The link in memory: Take. -/
import Derived.Test.YtodgnpmljdopiaaLkF
namespace Go.Proofs.Ytodgnpmljdopiaa
open Go Go.Fw Go.RowKit
set_option linter.unusedVariables false
set_option linter.unusedSimpArgs false
set_option maxRecDepth 4000
set_option maxHeartbeats 4000000
variable {w0 w : World} {F G : Grps}

theorem pig {a : Int} : ∀ (n : Nat) (l : List Int), l.Nodup → (∀ x ∈ l, a ≤ x ∧ x < a + n) → l.length ≤ n
  | 0, [], _, _ => Nat.le_refl _
  | 0, x :: r, _, h => by have := h x (List.mem_cons_self ..); omega
  | n + 1, l, hn, h => by
    by_cases hm : (a + n) ∈ l
    · have h1 := List.length_erase_of_mem hm
      have h2 := pig (a := a) n (l.erase (a + n)) (hn.erase _) fun x hx => by
        have h3 := (hn.mem_erase_iff).1 hx
        have h5 := (h x h3.2).1
        have h6 := (h x h3.2).2
        rw [Int.natCast_add, Int.natCast_one] at h6
        have h4 : x ≠ a + n := h3.1
        omega
      omega
    · have := pig (a := a) n l hn fun x hx => by
        have h5 := (h x hx).1
        have h6 := (h x hx).2
        rw [Int.natCast_add, Int.natCast_one] at h6
        have h2 : x ≠ a + n := fun e => hm (e ▸ hx)
        omega
      omega
abbrev Ea := Pc × Nat
def upv (x : Ea) : List Value := [.slice x.1.2.1.a x.1.2.1.len x.1.2.1.cap]
theorem upv_len (x : Ea) : (upv x).length = 1 := rfl
theorem upv_one (x : Ea) : ∀ v ∈ upv x, v.oneCell' = true := by intro v hv; simp [upv] at hv; subst hv; rfl
def ups (l : List Ea) : List Ent := l.map fun x => brow x.1.2
def upE (o : Sl) (l : List Ea) : List Ent := [.row 45 1 o (l.flatMap upv)]
theorem up_len {o : Sl} {l : List Ea} (h : Rd w o 1 (l.flatMap upv)) : o.len = l.length := by
  have := h.1; rw [flat_len upv_len] at this; omega
theorem split_key {k : Int} : ∀ {l : List Ea}, (∃ x ∈ l, x.1.1 = k) → ∃ pre x post, l = pre ++ x :: post ∧ x.1.1 = k ∧ ∀ y ∈ pre, y.1.1 ≠ k
  | [], ⟨_, h, _⟩ => by cases h
  | y :: r, ⟨x, hx, hk⟩ => by
    by_cases hy : y.1.1 = k
    · exact ⟨[], y, r, rfl, hy, fun _ h => by cases h⟩
    · rcases List.mem_cons.1 hx with rfl | hx
      · exact absurd hk hy
      · obtain ⟨pre, z, post, h1, h2, h3⟩ := split_key (l := r) ⟨x, hx, hk⟩
        refine ⟨y :: pre, z, post, by rw [h1]; rfl, h2, fun u hu => ?_⟩
        rcases List.mem_cons.1 hu with rfl | hu
        · exact hy
        · exact h3 u hu
theorem noKey_of {k : Int} {l : List Ea} (h : ∀ y ∈ l, y.1.1 ≠ k) : NoKey (l.map eav) k := by
  intro x hx
  obtain ⟨y, hy, rfl⟩ := List.mem_map.1 hx
  exact h y hy
def Lk.news (e : Lk) (g : Sg) : Prop := g.seq ≠ 0 ∧ (∀ x ∈ e.ea, x.1.1 ≠ g.seq) ∧ e.want ≤ g.seq ∧ g.seq < e.want + e.win
/-- What a segment that fits makes of what came early: what goes up, what stays. -/
structure TakeR (e : Lk) (g : Sg) (u l : List Ea) : Prop where
  yes : e.news g → ∃ s c, (e.ea ++ [((g.seq, s, g.d.2), c)]).Perm (u ++ l) ∧ (∀ (i : Nat) (h : i < u.length), u[i].1.1 = e.want + i) ∧ (∀ x ∈ l, x.1.1 ≠ e.want + u.length)
  no : ¬ e.news g → u = [] ∧ l = e.ea
def Lm.took (e : Lm) (g : Sg) (us : Sl) (mc : Nat) (n : Nat) (l : List Ea) : Lm :=
  { e with un := e.un.drop (ackd e.un g.ack), us := us, ow := if g.seq = 0 then e.ow else true, want := e.want + n, ea := l, mc := mc }
theorem move_up (P : Grps) {pre post : List Ea} {x : Ea} {A : List Ent} {u : List Ea} (h : St w0 w (P ++ ups (pre ++ x :: post) :: A :: ups u :: F)) : St w0 w (P ++ ups (pre ++ post) :: A :: ups (u ++ [x]) :: F) := by
  refine h.perm ?_
  have e1 : ups (pre ++ x :: post) = ups pre ++ (brow x.1.2 :: ups post) := by simp [ups]
  have e2 : ups (pre ++ post) = ups pre ++ ups post := by simp [ups]
  have e3 : ups (u ++ [x]) = ups u ++ [brow x.1.2] := by simp [ups]
  rw [e1, e2, e3]
  simp only [List.flatten_append, List.flatten_cons, List.append_assoc, List.cons_append, List.nil_append]
  refine List.Perm.append_left _ ?_
  refine List.Perm.append_left _ ?_
  have h1 : (brow x.1.2 :: (ups post ++ (A ++ (ups u ++ F.flatten)))).Perm ((ups post ++ (A ++ ups u)) ++ (brow x.1.2 :: F.flatten)) := by
    refine List.Perm.trans ?_ List.perm_middle.symm
    refine List.Perm.cons _ ?_
    simp only [List.append_assoc]
    exact .refl _
  simpa only [List.append_assoc] using h1
/-- The loop: what is in turn goes up. -/
theorem rise {e : Lm} {c3 : Ent} {D : List Ent} (h : St w0 w (lmE e :: [c3] :: D :: ups e.ea :: F)) (hnd : (e.ea.map (·.1.1)).Nodup) (hr : ∀ x ∈ e.ea, e.want ≤ x.1.1 ∧ x.1.1 < e.want + e.win ∧ x.1.1 ≤ 1099511627776) (hwin : e.win ≤ 16) (hwant : 1 ≤ e.want) {Q : Sl × Int × Unit → World → Prop}
    (hQ : ∀ (o : Sl) (u l : List Ea) w', e.ea.Perm (u ++ l) → (∀ (i : Nat) (h : i < u.length), u[i].1.1 = e.want + i) → (∀ x ∈ l, x.1.1 ≠ e.want + u.length) → o.len = u.length →
      St w0 w' (lmE { e with want := e.want + u.length, ea := l } :: [c3] :: D :: ups l :: upE o u :: ups u :: F) → Q (o, 0, ()) w') :
    LoopX (α := Sl × Unit) (fun s5 w k6 =>
              NilP e.p fun t89 =>
              ReadN Try.prog .map (V (Instr.loadAt 76 (.pointer (some (t89.add 9))))) w.drew fun t91 =>
              NilP e.p fun t93 =>
              ReadN Try.prog (.int .i64) (V (Instr.loadAt 3 (.pointer (some (t93.add 8))))) w.drew fun t95 =>
              ReadN Try.prog (.tup (.cons .sl (.cons .bool .nilT))) (V (Instr.lookup 76 (.map t91) (.int .i64 t95) true)) w.drew fun t96 =>
              SplitB (!t96.2.1)
                (Q (s5.1, 0, ()) w.drew)
                (NilP e.p fun t103 =>
                ReadN Try.prog .map (V (Instr.loadAt 76 (.pointer (some (t103.add 9))))) w.drew.drew fun t105 =>
                NilP e.p fun t107 =>
                ReadN Try.prog (.int .i64) (V (Instr.loadAt 3 (.pointer (some (t107.add 8))))) w.drew.drew fun t109 =>
                RunN Try.prog (.tup .nilT) (V (Builtin.delete_ #[76, 3] 0 #[.map t105, .int .i64 t109])) w.drew.drew fun _ w =>
                RunN Try.prog .sl (V (Instr.buildSlice 51 1 #[(0, .slice t96.1.a t96.1.len t96.1.cap)])) w fun t112 w =>
                RunN Try.prog .sl (V (Builtin.append_ #[51, 51] 51 #[.slice s5.1.a s5.1.len s5.1.cap, .slice t112.a t112.len t112.cap])) w fun t113 w =>
                NilP e.p fun t115 =>
                RunN Try.prog (.int .i64) (V (Instr.loadAt 3 (.pointer (some (t115.add 8))))) w fun t117 w =>
                NilP e.p fun t119 =>
                RunU Try.prog (U (Instr.storeAt 3 (.pointer (some (t119.add 8))) (.int .i64 (IntKind.i64.wrap (t117 + 1))))) w fun w =>
                k6 (t113, ()) w))
            ((⟨none, 0, 0⟩ : Sl), ()) w := by
  have hlen : e.ea.length ≤ 16 := by
    have := pig (a := e.want) e.win (e.ea.map (·.1.1)) hnd fun x hx => by
      obtain ⟨y, hy, rfl⟩ := List.mem_map.1 hx
      exact ⟨(hr y hy).1, (hr y hy).2.1⟩
    rw [List.length_map] at this; omega
  have h : St w0 w (lmE e :: [c3] :: D :: ups e.ea :: upE ⟨none, 0, 0⟩ [] :: ups [] :: F) := by
    have h1 := h.nilrow 45 1
    have h2 := h1.ord 5 [1, 2, 3, 4, 0]
    dsimp only [pick, nthO, dropO] at h2
    exact h2.perm (by simp [upE, ups])
  have e0 : ({ e with want := e.want + ((0 : Nat) : Int), ea := e.ea } : Lm) = e := by simp
  rw [← e0] at h
  refine LoopX.mk (fun st w' => ∃ (o : Sl) (u l : List Ea), st = (o, ()) ∧ o.len = u.length ∧ e.ea.Perm (u ++ l) ∧ (∀ (i : Nat) (h : i < u.length), u[i].1.1 = e.want + i) ∧ St w0 w' (lmE { e with want := e.want + u.length, ea := l } :: [c3] :: D :: ups l :: upE o u :: ups u :: F)) (fun st => 100 - st.1.len) ⟨_, [], e.ea, rfl, rfl, .refl _, (fun i h => by cases h), h⟩ ?_
  clear h
  rintro _ w1 ⟨o, u, l, rfl, hol, hp, hkeys, h⟩ k hk
  dsimp only at hk ⊢
  have hpl := hp.length_eq
  rw [List.length_append] at hpl
  refine NilP.mk ?_
  refine h.drew.readB 0 0 ⟨_, rfl, rfl⟩ rfl (kd := .map) (x := some e.mb) rfl ?_
  refine NilP.mk ?_
  refine h.drew.readB 0 0 ⟨_, rfl, rfl⟩ rfl (kd := .int .i64) (x := e.want + u.length) rfl ?_
  by_cases hx : ∃ x ∈ l, x.1.1 = e.want + u.length
  · obtain ⟨pre, x, post, rfl, hxk, hpre⟩ := split_key hx
    have hme : m1o ((pre ++ x :: post).map eav) e.mc = m1o (pre.map eav ++ (e.want + u.length, .slice x.1.2.1.a x.1.2.1.len x.1.2.1.cap, x.2) :: post.map eav) e.mc := by
      rw [List.map_append, List.map_cons, ← hxk]; rfl
    have hlm : ∀ (W : Int), lmE { e with want := W, ea := pre ++ x :: post } = [.cel e.cb 78 (lmC { e with want := W, ea := [] }), .obj e.ch (.chan e.win ⟨e.bx.map pco⟩ false e.cs e.cr false), .obj e.mb (m1o (pre.map eav ++ (e.want + u.length, .slice x.1.2.1.a x.1.2.1.len x.1.2.1.cap, x.2) :: post.map eav) e.mc), .row 81 2 e.us (e.un.flatMap pcv)] := by
      intro W; rw [← hme]; rfl
    rw [hlm] at h
    refine h.drew.lookS 0 2 (s := x.1.2.1) ⟨_, rfl, rfl⟩ (noKey_of hpre) map76 int3 ?_
    rw [SplitB_iff]
    refine ⟨fun hf => (by cases hf), fun _ => ?_⟩
    refine NilP.mk ?_
    refine h.drew.drew.readB 0 0 ⟨_, rfl, rfl⟩ rfl (kd := .map) (x := some e.mb) rfl ?_
    refine NilP.mk ?_
    refine h.drew.drew.readB 0 0 ⟨_, rfl, rfl⟩ rfl (kd := .int .i64) (x := e.want + u.length) rfl ?_
    refine h.drew.drew.map1Del 0 2 ⟨_, rfl, rfl⟩ (noKey_of hpre) map76 int3 ?_
    intro w2 h
    dsimp only [updG, setO] at h
    refine h.newS 1 (bs51 _ _ _ _) rfl rfl rfl ?_
    intro s w3 hs1 hs2 _ h
    refine h.app 5 0 ⟨_, rfl, rfl⟩ (h.rd (k := 0) (i := 0) ⟨_, rfl, rfl⟩) (upv_one x) (by dsimp only [maxLen]; omega) (by omega) ?_
    intro o' w4 hl4 h
    have h := h.drop 0
    dsimp only [delO, updG, setO] at h
    refine NilP.mk ?_
    refine h.loadB 0 0 ⟨_, rfl, rfl⟩ rfl (kd := .int .i64) (x := e.want + u.length) rfl ?_
    refine NilP.mk ?_
    have hb : e.want + u.length ≤ 1099511627777 := by
      have := (hr x (hp.mem_iff.2 (by simp))).2.2
      omega
    rw [wr (by omega)]
    refine h.storB 0 0 ⟨_, rfl, rfl⟩ rfl rfl rfl ?_
    intro w5 h
    dsimp only [updG, setO] at h
    have h := move_up [_, _, _] h
    refine hk _ _ ⟨o', u ++ [x], pre ++ post, rfl, by simp; omega, ?_, ?_, ?_⟩ (by dsimp only; omega)
    · refine hp.trans ?_
      rw [List.append_assoc]
      refine List.Perm.append_left _ ?_
      exact List.perm_middle
    · intro i hi
      by_cases h1 : i < u.length
      · rw [List.getElem_append_left h1]; exact hkeys i h1
      · have : i = u.length := by simp at hi; omega
        subst this
        rw [List.getElem_append_right (Nat.le_refl _)]
        simp [hxk]
    · have e1 : upE o' (u ++ [x]) = [Ent.row 45 1 o' (u.flatMap upv ++ upv x)] := by simp [upE]
      have e2 : lmE { e with want := e.want + ((u ++ [x]).length : Nat), ea := pre ++ post } = [.cel e.cb 78 [.int .i64 e.me, .int .i64 e.peer, .int .i64 (e.win : Int), .int .i64 e.res, .chan (some e.ch), .slice e.us.a e.us.len e.us.cap, .int .i64 e.last, .int .i64 e.gone, .int .i64 (e.want + u.length + 1), .map (some e.mb), .bool e.ow, .bool e.du, .int .i64 e.ag], .obj e.ch (.chan e.win ⟨e.bx.map pco⟩ false e.cs e.cr false), .obj e.mb (m1o (pre.map eav ++ post.map eav) e.mc), .row 81 2 e.us (e.un.flatMap pcv)] := by
        have : e.want + ((u ++ [x]).length : Nat) = e.want + u.length + 1 := by simp; omega
        rw [this, ← List.map_append]; rfl
      rw [e1, e2]
      exact h
  · have hno : ∀ y ∈ l, y.1.1 ≠ e.want + u.length := fun y hy hk => hx ⟨y, hy, hk⟩
    refine h.drew.lookN 0 2 ⟨_, rfl, rfl⟩ (noKey_of hno) map76 int3 zero45 ?_
    rw [SplitB_iff]
    refine ⟨fun _ => ?_, fun hf => (by cases hf)⟩
    exact hQ o u l _ hp hkeys hno hol h.drew
end Go.Proofs.Ytodgnpmljdopiaa
