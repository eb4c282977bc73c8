/- A reader that also reads a select of one case with a default, at the beginning of a region. -/
import Derived.Test.YtodgnpmljdopiaaFwG
import Derived.Conc.LoneSelect
namespace Go.Fw
open Go Go.Conc
set_option linter.unusedVariables false

def setCh (w : World) (b cap : Nat) (buf : List Value) (s r : Nat) : World := { w with heap := w.heap.setIfInBounds b (.chan cap ⟨buf⟩ false s r false) }
def RecvB (P : Program) (kd : Kd) (e : TypeId) (ch : Option Nat) (w : World) (Kg : kd.T → World → Prop) (Kn : Value → World → Prop) : Prop :=
  ∃ b cap buf s r z, ch = some b ∧ w.heap[b]? = some (.chan cap ⟨buf⟩ false s r false) ∧ (zeroValue e).run P w = .ok z w ∧
    ((buf = [] ∧ Kn z w) ∨ ∃ x rest, buf = kd.val x :: rest ∧ Kg x (setCh w b cap rest s (r + 1)))
def SendB (P : Program) (e : TypeId) (ch : Option Nat) (v : Value) (w : World) (Kg Kn : World → Prop) : Prop :=
  ∃ b cap buf s r z, ch = some b ∧ w.heap[b]? = some (.chan cap ⟨buf⟩ false s r false) ∧ (zeroValue e).run P w = .ok z w ∧
    ((buf.length < cap ∧ Kg (setCh w b cap (buf ++ [v]) (s + 1) r)) ∨ (cap ≤ buf.length ∧ Kn w))
def selX (P : Program) (κ : List Kd) (c : SelectCase) (dst : Option Tmp) (fr : Fr) (w : World) (K : KF) : Prop :=
  match c.send with
  | none => match Fr.known fr c.chan, Fr.eval fr c.chan with
    | true, .chan ch => RecvB P (nth .raw κ c.elem) c.elem ch w (fun x w => K (Fr.put fr dst (.tuple #[.int .i64 0, .bool true, (nth .raw κ c.elem).val x])) w) (fun z w => K (Fr.put fr dst (.tuple #[.int .i64 (-1), .bool false, z])) w)
    | _, _ => False
  | some x => match Fr.known fr c.chan, Fr.known fr x, Fr.eval fr c.chan with
    | true, true, .chan ch => SendB P c.elem ch (Fr.eval fr x) w (fun w => K (Fr.put fr dst (.tuple #[.int .i64 0, .bool false])) w) (fun w => K (Fr.put fr dst (.tuple #[.int .i64 (-1), .bool false])) w)
    | _, _, _ => False
def regL (P : Program) (κ : List Kd) (ops : Array Oper) : List Oper → Fr → World → KF → Prop
  | [], fr, w, K => K fr w
  | o :: rest, fr, w, K => match o.guard, o.op with
    | none, .select cs false => match cs.toList with
      | [c] => selX P κ c o.dst fr w fun fr w => opsX P κ ops rest none fr w K
      | _ => False
    | _, _ => opsX P κ ops (o :: rest) none fr w K

section
variable {P : Program} {ops : Array Oper} {K : Act → World → Prop} {a : Act} {w w' : World} {i : Nat} {rest : List Nat} {o : Oper}
theorem stepG_comm_any {b : Frame} {k : List Item} {cs : List Frame} {cases : Array CommCase} {blocking : Bool} {shape : CommShape} (ho : ops[i]? = some o) (hw : Region.wanted o (yielded ops a.tmps) = true)
    (hr : (execOp a.eval o).run P w = .ok (.comm cases blocking shape) w') :
    ∃ es, stepG P true (G (b.at a (.inRegion ops (i :: rest) :: k)) cs) w = .comm (G (b.at a (.inRegion ops (i :: rest) :: k)) cs) cases blocking shape w' es := by
  rw [stepG_oper ho hw]
  cases hk : (b.kind == CallKind.early) with
  | false => exact ⟨_, by simp [stepG.apply, hr, G, Frame.at, hk, GStep.after]; rfl⟩
  | true => exact ⟨_, by simp [stepG.apply, hr, G, Frame.at, hk, GStep.after]; rfl⟩
theorem OpsWp.step1 {v : Value} (ho : ops[i]? = some o) (hs : ∀ (b : Frame) (k : List Item) (cs : List Frame), step P (lone (b.at a (.inRegion ops (i :: rest) :: k)) cs w) = .next (lone ((b.at a (.inRegion ops (i :: rest) :: k)).finish v) cs w'))
    (h : OpsWp P ops K rest (a.put o.dst v) w') : OpsWp P ops K (i :: rest) a w := by
  intro b k cs
  obtain ⟨a', w₂, hk, hst⟩ := h b k cs
  have h1 := hs b k cs
  rw [fin_at ho] at h1
  exact ⟨a', w₂, hk, .head h1 hst⟩
end

section
variable {D : List Deferred} {N : Nat} {P : Program} {κ : List Kd} {ops : Array Oper}
theorem exec_select {ρ : Operand → Value} {o : Oper} {c : SelectCase} {cs : Array SelectCase} (hop : o.op = .select cs false) (hcs : cs.toList = [c]) {w : World} {z : Value} (hz : (zeroValue c.elem).run P w = .ok z w) :
    (execOp ρ o).run P w = .ok (.comm #[{ chan := ρ c.chan, send := c.send.map ρ, zero := z }] false .select) w := by
  have : cs = #[c] := by cases cs; simp at hcs; simp [hcs]
  subst this
  simp [execOp, hop, hz]
theorem regL_sound (l : List Oper) (hl : l = ops.toList) (fr : Fr) (a : Act) (w : World) (K : KF) (f : Nat → Bool) (hf : ∀ o ∈ l, ∀ d, o.dst = some d → f d = true) (ha : Agree D N fr a) (h : regL P κ ops l fr w K) :
    OpsWp P ops (fun a' w' => ∃ fr', Agree D N fr' a' ∧ Same f a a' ∧ K fr' w') (List.range' 0 l.length) a w := by
  have hix : ∀ j, l[j]? = ops[0 + j]? := by intro j; rw [hl]; simp
  cases l with
  | nil => exact .nil ⟨fr, ha, Same.refl _ _, h⟩
  | cons o rest =>
    have ho : ops[0]? = some o := by simpa using (hix 0).symm
    have hf' : ∀ o ∈ rest, ∀ d, o.dst = some d → f d = true := fun o' ho' => hf o' (List.mem_cons_of_mem _ ho')
    have put : ∀ v, Same f a (a.put o.dst v) := fun v => Same.put (hf o (List.mem_cons_self ..)) v
    have via : ∀ v w' (fr' : Fr), Agree D N fr' (a.put o.dst v) → opsX P κ ops rest none fr' w' K →
        OpsWp P ops (fun a' w' => ∃ fr', Agree D N fr' a' ∧ Same f a a' ∧ K fr' w') (List.range' 1 rest.length) (a.put o.dst v) w' := by
      intro v w' fr' ha' hk b k' cs
      obtain ⟨a', w₂, ⟨fr'', h1, h2, h3⟩, hs⟩ := opsX_sound (P := P) (κ := κ) (ops := ops) rest 1 none fr' _ w' K f (fun j => by have := hix (j + 1); simpa [Nat.add_comm] using this) hf' ha' hk b k' cs
      exact ⟨a', w₂, ⟨fr'', h1, (put v).trans h2, h3⟩, hs⟩
    simp only [regL] at h
    split at h
    · rename_i cs hg hop
      split at h
      · rename_i c hcs
        simp only [List.length_cons, List.range'_succ]
        have hw : Region.wanted o (yielded ops a.tmps) = true := by simp [Region.wanted, hg]
        unfold selX at h
        split at h
        · rename_i hsend
          split at h
          · rename_i ch hk hch
            obtain ⟨b, cap, buf, s, r, z, rfl, hb, hz, h⟩ := h
            have hex := exec_select (ρ := a.eval) (P := P) hop hcs hz
            rw [hsend, ha.eval hk, hch] at hex
            rcases h with ⟨rfl, h⟩ | ⟨x, tl, rfl, h⟩
            · refine OpsWp.step1 (v := .tuple #[.int .i64 (-1), .bool false, z]) (w' := w) ho (fun b' k' cs' => ?_) (via _ _ _ (ha.put _ _) h)
              obtain ⟨es, hs⟩ := stepG_comm_any (b := b') (k := k') (cs := cs') (rest := List.range' 1 rest.length) ho hw hex
              exact step_lone_select_default hs hb
            · refine OpsWp.step1 (v := .tuple #[.int .i64 0, .bool true, (nth .raw κ c.elem).val x]) (w' := setCh w b cap tl s (r + 1)) ho (fun b' k' cs' => ?_) (via _ _ _ (ha.put _ _) h)
              obtain ⟨es, hs⟩ := stepG_comm_any (b := b') (k := k') (cs := cs') (rest := List.range' 1 rest.length) ho hw hex
              have := step_lone_select_recv_buf hs hb (by simp)
              rw [show (⟨(nth Kd.raw κ c.elem).val x :: tl⟩ : Array Value).extract 1 (⟨(nth Kd.raw κ c.elem).val x :: tl⟩ : Array Value).size = ⟨tl⟩ by simp] at this
              exact this
          · exact h.elim
        · rename_i y hsend
          split at h
          · rename_i ch hk hky hch
            obtain ⟨b, cap, buf, s, r, z, rfl, hb, hz, h⟩ := h
            have hex := exec_select (ρ := a.eval) (P := P) hop hcs hz
            rw [hsend, ha.eval hk, hch] at hex
            simp only [Option.map_some] at hex
            rw [ha.eval hky] at hex
            rcases h with ⟨hlt, h⟩ | ⟨hle, h⟩
            · refine OpsWp.step1 (v := .tuple #[.int .i64 0, .bool false]) (w' := setCh w b cap (buf ++ [Fr.eval fr y]) (s + 1) r) ho (fun b' k' cs' => ?_) (via _ _ _ (ha.put _ _) h)
              obtain ⟨es, hs⟩ := stepG_comm_any (b := b') (k := k') (cs := cs') (rest := List.range' 1 rest.length) ho hw hex
              have := step_lone_select_send_room hs hb (by simpa using hlt)
              rw [show (⟨buf⟩ : Array Value).push (Fr.eval fr y) = ⟨buf ++ [Fr.eval fr y]⟩ by simp] at this
              exact this
            · refine OpsWp.step1 (v := .tuple #[.int .i64 (-1), .bool false]) (w' := w) ho (fun b' k' cs' => ?_) (via _ _ _ (ha.put _ _) h)
              obtain ⟨es, hs⟩ := stepG_comm_any (b := b') (k := k') (cs := cs') (rest := List.range' 1 rest.length) ho hw hex
              exact step_lone_select_send_full hs hb (by simpa using hle)
          · exact h.elim
      · exact h.elim
    · exact opsX_sound (o :: rest) 0 none fr a w K f hix hf ha h
end

/-! ### code, whole functions -/
def codeL (P : Program) (κ : List Kd) (ann : List (Nat × Live)) : Code → Nat → Fr → World → KF → (Nat → KF) → KF → Prop
  | .skip, _, fr, w, Kn, _, _ => Kn fr w
  | .region _ ops draw, _, fr, w, Kn, _, _ => match draw with
    | true => match P.follows .mixedOrders, bfOk (befGo ops.toList []) ops.toList 0 with
      | true, true => drawT P κ ops.toList (effsY κ ops.toList 0) fr w.drew Kn 6 (befGo ops.toList [])
      | _, _ => False
    | false => regL P κ ops ops.toList fr w Kn
  | .seq a b, n, fr, w, Kn, Ke, Kr => match look ann n with
    | none => codeL P κ ann a (n + 1) fr w (fun fr w => codeL P κ ann b (n + 1 + sz a) fr w Kn Ke Kr) Ke Kr
    | some l => JoinX (fun (x : LT l) w => codeL P κ ann b (n + 1 + sz a) (inj (asg a) l x fr) w Kn Ke Kr)
        fun k => codeL P κ ann a (n + 1) fr w (fun fr w => sel l fr fun x => k x w) Ke Kr
  | .cond c a b, n, fr, w, Kn, Ke, Kr => match Fr.known fr c, (Fr.eval fr) c with
    | true, .bool t => SplitB t (codeL P κ ann a n fr w Kn Ke Kr) (codeL P κ ann b (n + sz a) fr w Kn Ke Kr)
    | _, _ => False
  | .block id b, n, fr, w, Kn, Ke, Kr => codeL P κ ann b n fr w Kn (fun i fr w => match Nat.beq i id with | true => Kn fr w | false => Ke i fr w) Kr
  | .exit id, _, fr, w, _, Ke, _ => Ke id fr w
  | .ret, _, fr, w, _, _, Kr => Kr fr w
  | .loop b, n, fr, w, _, Ke, Kr => match look ann n with
    | none => False
    | some l => sel l fr fun x => LoopX (fun (x : LT l) w k => codeL P κ ann b (n + 1) (inj (asg b) l x fr) w (fun fr w => sel l fr fun x => k x w) Ke Kr) x w
  | .label _, _, fr, w, Kn, _, _ => Kn fr w
  | _, _, _, _, _, _, _ => False

theorem codeL_sound {D : List Deferred} {N : Nat} {P : Program} {κ : List Kd} {ann : List (Nat × Live)} : ∀ (c : Code) (n : Nat) (fr : Fr) (a : Act) (w : World) (Kn : KF) (Ke : Nat → KF) (Kr : KF),
    Agree D N fr a → codeL P κ ann c n fr w Kn Ke Kr → c.wp P (postOf D N (asg c) a Kn Ke Kr) a w := by
  intro c
  induction c with
  | skip => intro n fr a w Kn Ke Kr ha h; exact wp_skip ⟨fr, ha, Same.refl _ _, h⟩
  | label l => intro n fr a w Kn Ke Kr ha h; exact wp_label ⟨fr, ha, Same.refl _ _, h⟩
  | exit id => intro n fr a w Kn Ke Kr ha h; exact wp_exit ⟨fr, ha, Same.refl _ _, h⟩
  | ret => intro n fr a w Kn Ke Kr ha h; exact wp_ret ⟨fr, ha, Same.refl _ _, h⟩
  | region id ops draw =>
    intro n fr a w Kn Ke Kr ha h
    simp only [codeL] at h
    cases draw with
    | true =>
      simp only at h
      split at h
      · rename_i hm hok
        exact drawT_sound hm hok ha h
      · exact h.elim
    | false =>
      have := regL_sound (P := P) (κ := κ) (ops := ops) ops.toList rfl fr a w Kn (asgOps ops.toList) (fun o ho d hd => asgOps_mem ho hd) ha h
      exact wp_of_opsWp (by rw [List.range_eq_range', ← Array.length_toList]; exact this)
  | seq x y ihx ihy =>
    intro n fr a w Kn Ke Kr ha h
    simp only [codeL] at h
    refine wp_seq ?_
    split at h
    · refine wp_mono (ihx _ _ _ _ _ _ _ ha h) ?_
      intro e a' w' hq
      cases e <;> simp only [postOf, Exit.then] at hq ⊢ <;> first
        | exact hq
        | (obtain ⟨fr', ha', hs, hk⟩ := hq; exact ⟨fr', ha', hs.weaken fun t ht => (asg_seq1 ht).1, hk⟩)
        | skip
      obtain ⟨fr', ha', hs, hk⟩ := hq
      exact wp_mono (ihy _ _ _ _ _ _ _ ha' hk) fun e a w hh => postOf_weaken (fun t ht => (asg_seq1 ht).2) (hs.weaken fun t ht => (asg_seq1 ht).1) hh
    · rename_i l hl
      refine wp_mono (ihx _ _ _ _ _ _ _ ha h) ?_
      intro e a' w' hq
      cases e <;> simp only [postOf, Exit.then] at hq ⊢ <;> first
        | exact hq
        | (obtain ⟨fr', ha', hs, hk⟩ := hq; exact ⟨fr', ha', hs.weaken fun t ht => (asg_seq1 ht).1, hk⟩)
        | skip
      obtain ⟨fr', ha', hs, hk⟩ := hq
      obtain ⟨x, hx, hk⟩ := sel_holds _ _ _ hk
      exact wp_mono (ihy _ _ _ _ _ _ _ (inj_agree ha ha' hs hx) hk) fun e a w hh => postOf_weaken (fun t ht => (asg_seq1 ht).2) (hs.weaken fun t ht => (asg_seq1 ht).1) hh
  | cond c x y ihx ihy =>
    intro n fr a w Kn Ke Kr ha h
    simp only [codeL] at h
    split at h
    · rename_i t hk hc
      refine wp_cond_split (t := t) (by rw [ha.eval hk]; exact hc) ?_ ?_
      · rintro rfl; exact wp_mono (ihx _ _ _ _ _ _ _ ha h) fun e a w hh => postOf_weaken (fun t ht => (asg_cond1 ht).1) (Same.refl _ _) hh
      · rintro rfl; exact wp_mono (ihy _ _ _ _ _ _ _ ha h) fun e a w hh => postOf_weaken (fun t ht => (asg_cond1 ht).2) (Same.refl _ _) hh
    · exact h.elim
  | block id b ih =>
    intro n fr a w Kn Ke Kr ha h
    simp only [codeL] at h
    refine wp_block (wp_mono (ih _ _ _ _ _ _ _ ha h) ?_)
    intro e a' w' hq
    cases e <;> simp only [postOf, Exit.inBlock] at hq ⊢ <;> first | exact hq | skip
    rename_i i
    obtain ⟨fr', ha', hs, hk⟩ := hq
    split at hk
    · rename_i hi
      rw [if_pos (Nat.eq_of_beq_eq_true hi)]; exact ⟨fr', ha', hs, hk⟩
    · rename_i hi
      rw [if_neg (fun e => by subst e; simp at hi)]; exact ⟨fr', ha', hs, hk⟩
  | loop b ih =>
    intro n fr a w Kn Ke Kr ha h
    simp only [codeL] at h
    split at h
    · exact h.elim
    · rename_i l hl
      obtain ⟨x, hx, h⟩ := sel_holds _ _ _ h
      obtain ⟨I, μ, hI, hround⟩ := h
      refine wp_loop_ranked (fun m a₁ w => ∃ x, Agree D N (inj (asg b) l x fr) a₁ ∧ Same (asg b) a a₁ ∧ I x w ∧ μ x w = m) ?_ (μ x w) a w ⟨x, inj_agree ha ha (Same.refl _ _) hx, Same.refl _ _, hI, rfl⟩
      rintro m a₁ w₁ ⟨x₁, ha₁, hs₁, hI₁, rfl⟩
      refine wp_mono (ih _ _ _ _ _ _ _ ha₁ (hround _ _ hI₁)) ?_
      intro e a' w' hq
      cases e <;> simp only [postOf, Exit.then] at hq ⊢ <;> first
        | exact hq
        | (obtain ⟨fr', ha', hs, hk⟩ := hq; exact ⟨fr', ha', hs₁.trans hs, hk⟩)
        | skip
      obtain ⟨fr', ha', hs, hk⟩ := hq
      obtain ⟨y, hy, hI', hm⟩ := sel_holds _ _ _ hk
      exact ⟨_, hm, y, inj_agree ha ha' (hs₁.trans hs) hy, hs₁.trans hs, hI', rfl⟩
  | scope b ih => intro n fr a w Kn Ke Kr ha h; exact h.elim
  | goto l => intro n fr a w Kn Ke Kr ha h; exact h.elim
  | rangeFunc f ps x y _ _ => intro n fr a w Kn Ke Kr ha h; exact h.elim
  | refuse s => intro n fr a w Kn Ke Kr ha h; exact h.elim


/-- A function's proposition. -/
def bodyL (P : Program) (κ : List Kd) (ann : List (Nat × Live)) (kd : Kd) (fn : Func) (args : List Value) (w : World) (K : kd.T → World → Prop) : Prop :=
  codeL P κ ann (bodyOf fn) 0 (start args fn.ntmps) w (fun fr w => resK P κ kd fn.results.toList fr w fun x => K x w) (fun _ _ _ => False) (fun fr w => resK P κ kd fn.results.toList fr w fun x => K x w)

theorem bodyL_sound {P : Program} {κ : List Kd} {ann : List (Nat × Live)} {kd : Kd} {f : FuncId} {fn : Func} {args : List Value} {w : World} {K : kd.T → World → Prop}
    (hf : P.funcs[f]? = some fn) (hb : fn.body.isSome = true) (hn : Nat.ble args.length fn.ntmps = true) (h : bodyL P κ ann kd fn args w K) : CallK P kd f ⟨args⟩ w K := by
  obtain ⟨c, hb⟩ := Option.isSome_iff_exists.1 hb
  have hbo : bodyOf fn = c := by simp [bodyOf, hb]
  unfold bodyL at h
  rw [hbo] at h
  refine calls_of_wp hf hb (wp_mono (codeL_sound (D := []) (N := fn.ntmps) _ _ _ _ _ _ _ _ ?_ h) ?_)
  · have hn' : args.length ≤ fn.ntmps := Nat.le_of_ble_eq_true hn
    refine ⟨start_len _ _, by rw [start_len]; simp; omega, rfl, fun t v ht => ?_⟩
    have := start_get _ _ _ _ ht
    have hl : t < args.length := by
      rcases Nat.lt_or_ge t args.length with h' | h'
      · exact h'
      · simp [List.getElem?_eq_none h'] at this
    rw [Array.getElem?_append_left (by simpa using hl)]
    simpa using this
  · intro e a' w' hq
    cases e <;> simp only [postOf] at hq
    · obtain ⟨fr, ha, -, hr⟩ := hq
      obtain ⟨x, hx, hk⟩ := resK_sound (P := P) (fn := fn) (w := w') ha hr
      exact ⟨ha.defers, _, hx, x, rfl, hk⟩
    · obtain ⟨fr, ha, -, hr⟩ := hq; exact hr.elim
    · obtain ⟨fr, ha, -, hr⟩ := hq
      obtain ⟨x, hx, hk⟩ := resK_sound (P := P) (fn := fn) (w := w') ha hr
      exact ⟨ha.defers, _, hx, x, rfl, hk⟩
end Go.Fw
