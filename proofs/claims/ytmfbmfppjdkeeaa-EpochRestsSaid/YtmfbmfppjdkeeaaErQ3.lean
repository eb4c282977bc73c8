/- Words and steps, part 3: A region that draws, whose writers stand in no known order: every order of them is read by itself. And whole functions with such regions. A reader that also reads a select of one case with a default, at the beginning of a region. -/
import Derived.Conc.LoneSelect
import Derived.Test.YtmfbmfppjdkeeaaErQ2
/- A region that draws, whose writers stand in no known order: every order of them is read by itself. And whole functions with such regions. -/
namespace Go.Fw
open Go
set_option linter.unusedVariables false

/-- What is before what, if a is before b besides. -/
def addGo (bf : List Nat) (a b : Nat) : List Nat → Nat → List Nat
  | [], _ => []
  | m :: r, i => (match Nat.beq i b || m.testBit b with | true => m ||| (2 ^ a ||| nth 0 bf a) | false => m) :: addGo bf a b r (i + 1)
def addE (bf : List Nat) (a b : Nat) : List Nat := addGo bf a b bf 0
theorem nth_addGo (bf : List Nat) (a b : Nat) : ∀ (l : List Nat) (k i : Nat), i < l.length → nth 0 (addGo bf a b l k) i = (match Nat.beq (k + i) b || (nth 0 l i).testBit b with | true => nth 0 l i ||| (2 ^ a ||| nth 0 bf a) | false => nth 0 l i)
  | [], _, _, h => by simp at h
  | m :: r, k, 0, _ => by simp [addGo, nth]
  | m :: r, k, i + 1, h => by
    have := nth_addGo bf a b r (k + 1) i (by simpa using h)
    simp only [addGo, nth]
    rw [this, show k + 1 + i = k + (i + 1) from by omega]
theorem nth_out {l : List Nat} : ∀ {i : Nat}, l.length ≤ i → nth 0 l i = 0 := by
  induction l with
  | nil => intro i _; rfl
  | cons x r ih => intro i h; cases i with
    | zero => simp at h
    | succ i => exact ih (by simpa using h)
theorem addGo_len (bf : List Nat) (a b : Nat) : ∀ (l : List Nat) (k : Nat), (addGo bf a b l k).length = l.length
  | [], _ => rfl
  | m :: r, k => by simp [addGo, addGo_len bf a b r (k + 1)]
theorem addE_bit {bf : List Nat} {a b i j : Nat} (h : (nth 0 (addE bf a b) i).testBit j = true) : (nth 0 bf i).testBit j = true ∨ ((i = b ∨ (nth 0 bf i).testBit b = true) ∧ (j = a ∨ (nth 0 bf a).testBit j = true)) := by
  rcases Nat.lt_or_ge i bf.length with hi | hi
  · unfold addE at h
    rw [nth_addGo bf a b bf 0 i hi, Nat.zero_add] at h
    split at h
    · rename_i hc
      rw [Nat.testBit_or, Nat.testBit_or, Nat.testBit_two_pow] at h
      simp only [Bool.or_eq_true] at h hc
      rcases h with h | h | h
      · exact .inl h
      · refine .inr ⟨?_, .inl (of_decide_eq_true h).symm⟩
        rcases hc with hc | hc
        · exact .inl (Nat.eq_of_beq_eq_true hc)
        · exact .inr hc
      · refine .inr ⟨?_, .inr h⟩
        rcases hc with hc | hc
        · exact .inl (Nat.eq_of_beq_eq_true hc)
        · exact .inr hc
    · exact .inl h
  · rw [nth_out (by rw [addE, addGo_len]; exact hi)] at h
    simp at h

/-- A list of what is not yet listed, in an order that is allowed. -/
def LinL (bf : List Nat) (n : Nat) : Array Bool → List Nat → Prop
  | listed, [] => ∀ i, i < n → listed.getD i false = true
  | listed, i :: r => i < n ∧ listed.getD i false = false ∧ (∀ j, (nth 0 bf i).testBit j = true → listed.getD j false = true) ∧ LinL bf n (listed.setIfInBounds i true) r
def Shut (bf : List Nat) (n : Nat) (listed : Array Bool) : Prop := listed.size = n ∧ ∀ i, i < n → listed.getD i false = true → ∀ j, (nth 0 bf i).testBit j = true → listed.getD j false = true
theorem getD_set {listed : Array Bool} {i : Nat} (h : i < listed.size) (j : Nat) : (listed.setIfInBounds i true).getD j false = if j = i then true else listed.getD j false := by
  rw [Array.getD_eq_getD_getElem?, Array.getD_eq_getD_getElem?, Array.getElem?_setIfInBounds]
  by_cases hij : i = j
  · subst hij; simp [h]
  · simp [hij, Ne.symm hij]
theorem Shut.set {bf : List Nat} {n : Nat} {listed : Array Bool} (h : Shut bf n listed) {i : Nat} (hi : i < n) (hp : ∀ j, (nth 0 bf i).testBit j = true → listed.getD j false = true) : Shut bf n (listed.setIfInBounds i true) := by
  refine ⟨by simpa using h.1, fun k hk hl j hj => ?_⟩
  rw [getD_set (by rw [h.1]; exact hi)] at hl ⊢
  split
  · rfl
  · by_cases hki : k = i
    · subst hki; exact hp j hj
    · rw [if_neg hki] at hl; exact h.2 k hk hl j hj
theorem lin_after {bf : List Nat} {n a b : Nat} (ha : a < n) : ∀ (L : List Nat) (listed : Array Bool), Shut bf n listed → listed.getD a false = true → LinL bf n listed L → LinL (addE bf a b) n listed L
  | [], _, _, _, h => h
  | i :: r, listed, hs, hla, ⟨h1, h2, h3, h4⟩ => by
    refine ⟨h1, h2, fun j hj => ?_, lin_after ha r _ (hs.set h1 h3) (by rw [getD_set (by rw [hs.1]; exact h1)]; split <;> simp [hla]) h4⟩
    rcases addE_bit hj with h | ⟨_, rfl | h⟩
    · exact h3 j h
    · exact hla
    · exact hs.2 a ha hla j h
/-- One of the two comes first. -/
theorem lin_split {bf : List Nat} {n a b : Nat} (ha : a < n) (hb : b < n) (hab : a ≠ b) : ∀ (L : List Nat) (listed : Array Bool), Shut bf n listed → listed.getD a false = false → listed.getD b false = false → LinL bf n listed L →
    LinL (addE bf a b) n listed L ∨ LinL (addE bf b a) n listed L
  | [], listed, _, hla, _, h => by rw [h a ha] at hla; cases hla
  | i :: r, listed, hs, hla, hlb, ⟨h1, h2, h3, h4⟩ => by
    have hset := fun j => getD_set (listed := listed) (i := i) (by rw [hs.1]; exact h1) j
    have nob : ∀ x, listed.getD x false = false → (nth 0 bf i).testBit x = true → False := fun x hx hb => by rw [h3 x hb] at hx; cases hx
    by_cases hia : i = a
    · subst hia
      refine .inl ⟨h1, h2, fun j hj => ?_, lin_after ha r _ (hs.set h1 h3) (by rw [hset]; simp) h4⟩
      rcases addE_bit hj with h | ⟨h | h, _⟩
      · exact h3 j h
      · exact absurd h hab
      · exact (nob b hlb h).elim
    · by_cases hib : i = b
      · subst hib
        refine .inr ⟨h1, h2, fun j hj => ?_, lin_after hb r _ (hs.set h1 h3) (by rw [hset]; simp) h4⟩
        rcases addE_bit hj with h | ⟨h | h, _⟩
        · exact h3 j h
        · exact absurd h (Ne.symm hab)
        · exact (nob a hla h).elim
      · rcases lin_split ha hb hab r _ (hs.set h1 h3) (by rw [hset, if_neg (Ne.symm hia)]; exact hla) (by rw [hset, if_neg (Ne.symm hib)]; exact hlb) h4 with h | h
        · refine .inl ⟨h1, h2, fun j hj => ?_, h⟩
          rcases addE_bit hj with h | ⟨h | h, _⟩
          · exact h3 j h
          · exact absurd h hib
          · exact (nob b hlb h).elim
        · refine .inr ⟨h1, h2, fun j hj => ?_, h⟩
          rcases addE_bit hj with h | ⟨h | h, _⟩
          · exact h3 j h
          · exact absurd h hia
          · exact (nob a hla h).elim

theorem go_lin {ops : Array Oper} {bf : List Nat} (hbf : bfOk bf ops.toList 0 = true) : ∀ (fuel t : Nat) (listed : Array Bool), Shut bf ops.size listed → cnt (fun i => !listed.getD i false) (List.range ops.size) ≤ fuel →
    LinL bf ops.size listed (Region.linearise.go .any ops fuel t listed []) := by
  have hbfs := fun i o (h : ops[i]? = some o) => bf_spec hbf i o (by simpa using h)
  simp only [Nat.zero_add] at hbfs
  intro fuel
  induction fuel with
  | zero =>
    intro t listed hs hcnt i hlt
    have key : ∀ l : List Nat, cnt (fun i => !listed.getD i false) l ≤ 0 → ∀ i ∈ l, listed.getD i false = true := by
      intro l
      induction l with
      | nil => intro _ i hm; cases hm
      | cons x r ih =>
        intro h i hm
        simp only [cnt] at h
        split at h
        · omega
        · rename_i hx
          rcases List.mem_cons.1 hm with e | hm
          · subst e; simpa using hx
          · exact ih h i hm
    exact key _ hcnt i (List.mem_range.2 hlt)
  | succ fuel ih =>
    intro t listed hs hcnt
    simp only [Region.linearise.go]
    change LinL bf ops.size listed (match (Region.ready .any ops listed)[t % (Region.ready .any ops listed).length]? with
      | some i => Region.linearise.go .any ops fuel (t / (Region.ready .any ops listed).length) (listed.setIfInBounds i true) [i]
      | none => [].reverse)
    have hready : ∀ i, i ∈ Region.ready .any ops listed ↔ i < ops.size ∧ listed.getD i true = false ∧ ∃ o, ops[i]? = some o ∧ ∀ e ∈ o.after.toList, Region.binds .any e = true → listed.getD e.on false = true := by
      intro i
      unfold Region.ready
      rw [List.mem_filter, List.mem_range]
      refine and_congr_right fun hlt => ?_
      rw [Bool.and_eq_true]
      refine and_congr (by simp) ?_
      obtain ⟨o, ho⟩ : ∃ o, ops[i]? = some o := ⟨_, Array.getElem?_eq_getElem hlt⟩
      simp only [ho, Option.map_some, Option.getD_some, Array.all_eq_true_iff_forall_mem]
      constructor
      · intro h
        refine ⟨o, rfl, fun e he hb => ?_⟩
        have := h e (by simpa using he)
        simpa [hb] using this
      · rintro ⟨o', e', h⟩ e he
        cases e'
        have := h e (by simpa using he)
        cases hb : Region.binds .any e with
        | false => simp
        | true => simpa using this hb
    have hgetD : ∀ i, i < ops.size → listed.getD i true = listed.getD i false := by
      intro i hlt
      rw [Array.getD_eq_getD_getElem?, Array.getD_eq_getD_getElem?, Array.getElem?_eq_getElem (by rw [hs.1]; exact hlt)]
      rfl
    cases hsel : (Region.ready .any ops listed)[t % (Region.ready .any ops listed).length]? with
    | none =>
      have hnil : Region.ready .any ops listed = [] := by
        cases hr : Region.ready .any ops listed with
        | nil => rfl
        | cons x xs =>
          rw [hr] at hsel
          have hlt : t % (x :: xs).length < (x :: xs).length := Nat.mod_lt _ (by simp)
          rw [List.getElem?_eq_getElem hlt] at hsel
          cases hsel
      show ∀ i, i < ops.size → listed.getD i false = true
      intro i
      induction i using Nat.strongRecOn with
      | _ i ihi =>
        intro hlt
        cases hl : listed.getD i false with
        | true => rfl
        | false =>
          exfalso
          obtain ⟨o, ho⟩ : ∃ o, ops[i]? = some o := ⟨_, Array.getElem?_eq_getElem hlt⟩
          have : i ∈ Region.ready .any ops listed := (hready i).2 ⟨hlt, by rw [hgetD i hlt]; exact hl, o, ho, fun e he hb => ihi e.on ((hbfs i o ho).2 e he hb) (by have := (hbfs i o ho).2 e he hb; omega)⟩
          rw [hnil] at this; cases this
    | some i =>
      simp only []
      rw [linearise_go_acc, List.reverse_singleton, List.singleton_append]
      obtain ⟨hlt, hun0, o, ho, hdeps⟩ := (hready i).1 (List.mem_of_getElem? hsel)
      have hun : listed.getD i false = false := by rw [← hgetD i hlt]; exact hun0
      have hpre : ∀ j, (nth 0 bf i).testBit j = true → listed.getD j false = true := by
        intro j hj
        rw [(hbfs i o ho).1] at hj
        obtain ⟨e, he, hb, h⟩ := mask_spec hj
        have hl := hdeps e he hb
        rcases h with rfl | h
        · exact hl
        · exact hs.2 e.on (by have := (hbfs i o ho).2 e he hb; omega) hl j h
      have hset := fun j => getD_set (listed := listed) (i := i) (by rw [hs.1]; exact hlt) j
      refine ⟨hlt, hun, hpre, ih _ _ (hs.set hlt hpre) ?_⟩
      have h1 := cnt_add (f := fun j => !(listed.setIfInBounds i true).getD j false) (g := fun j => !listed.getD j false) (i := i) (fun x => by
        simp only [hset]; by_cases hx : x = i
        · subst hx; simp [hun]
        · simp [hx]) (by simp [hset]) (l := List.range ops.size) List.nodup_range
      have h2 : (List.range ops.size).contains i = true := by simp [hlt]
      rw [h2] at h1
      simp only at h1
      omega

def chainOkZ (bf : List Nat) : List Nat → Bool
  | [] => true
  | e :: r => (r.all fun f => (nth 0 bf f).testBit e && !Nat.beq e f) && chainOkZ bf r
theorem chain_specZ {bf : List Nat} : ∀ {l : List Nat}, chainOkZ bf l = true → ∀ {a : List Nat} {e : Nat} {r : List Nat}, l = a ++ e :: r → ∀ f ∈ r, (nth 0 bf f).testBit e = true ∧ e ≠ f
  | [], _, a, e, r, h, f, _ => by simp at h
  | x :: l, hc, a, e, r, h, f, hf => by
    simp only [chainOkZ, Bool.and_eq_true] at hc
    cases a with
    | nil =>
      simp only [List.nil_append, List.cons.injEq] at h
      obtain ⟨rfl, rfl⟩ := h
      have := List.all_eq_true.1 hc.1 f hf
      simp only [Bool.and_eq_true, Bool.not_eq_true'] at this
      exact ⟨this.1, fun e => by subst e; simp at this⟩
    | cons y a =>
      simp only [List.cons_append, List.cons.injEq] at h
      exact chain_specZ hc.2 h.2 f hf

theorem draw_listY {P : Program} {κ : List Kd} {ops : Array Oper} {bf ef : List Nat} {a0 : Act} {D : List Deferred} {N : Nat} {fr0 : Fr} {Kn : KF} {K : Act → World → Prop} (hfr0 : ∀ t v, sget fr0 t = some v → a0.tmps[t]? = some v)
    (huniq : uniqOk ops.toList = true) (hchain : chainOkZ bf ef = true) (hmem : ∀ e, e ∈ ef ↔ e ∈ effsY κ ops.toList 0)
    (hend : ∀ fr a w, Agree D N fr a → Same (asgOps ops.toList) a0 a → Kn fr w → K a w) :
    ∀ (L : List Nat) (listed : Array Bool) (a : Act) (w : World) (es : List Nat) (rk : Nat) (fr : Fr), InvY P κ ops bf ef fr0 Kn N D a0 es rk fr listed a w → LinL bf ops.size listed L →
      OpsWp P ops K L a w := by
  have heff : ∀ e, e ∈ ef ↔ 0 ≤ e ∧ ∃ o, ops.toList[e - 0]? = some o ∧ isEffY κ o = true := fun e => (hmem e).trans (effsY_spec κ ops.toList 0 e)
  have hefflt : ∀ e ∈ ef, ∃ o, ops[e]? = some o ∧ isEffY κ o = true := by
    intro e he
    obtain ⟨_, o, ho, h⟩ := (heff e).1 he
    exact ⟨o, by simpa using ho, h⟩
  have hmemeff : ∀ i o, ops[i]? = some o → isEffY κ o = true → i ∈ ef := fun i o ho he => (heff i).2 ⟨Nat.zero_le _, o, by simpa using ho, he⟩
  -- the end
  have fin : ∀ listed a w es rk fr, InvY P κ ops bf ef fr0 Kn N D a0 es rk fr listed a w → (∀ i, i < ops.size → listed.getD i false = true) → K a w := by
    intro listed a w es rk fr hi hall
    have hes : es = [] := by
      cases es with
      | nil => rfl
      | cons e r =>
        obtain ⟨pre, hpre, _⟩ := hi.split
        have hm : e ∈ ef := by rw [hpre]; simp
        have := (hi.effs e hm).2 (List.mem_cons_self ..)
        obtain ⟨o, ho, _⟩ := hefflt e hm
        rw [hall e (Array.getElem?_eq_some_iff.1 ho).1] at this; cases this
    subst hes
    refine hend fr a w ⟨hi.len, hi.size2, hi.defers, fun t v h => hi.slot t v h fun i o ho _ => hall i (Array.getElem?_eq_some_iff.1 ho).1⟩ ?_ hi.node.2
    intro t ht
    refine hi.old t fun i o ho _ hd => ?_
    have := asgOps_mem (l := ops.toList) (List.mem_of_getElem? (show ops.toList[i]? = some o by simpa using ho)) hd
    rw [ht] at this; cases this
  intro L
  induction L with
  | nil =>
    intro listed a w es rk fr hi hL
    exact .nil (fin listed a w es rk fr hi hL)
  | cons i r ih =>
    intro listed a w es rk fr hi hL
    obtain ⟨hlt, hun, hpre, hnextL⟩ := hL
    obtain ⟨o, ho⟩ : ∃ o, ops[i]? = some o := ⟨_, Array.getElem?_eq_getElem hlt⟩
    have hpost : ∀ j, j < ops.size → (nth 0 bf j).testBit i = true → listed.getD j false = false := by
      intro j hj h
      cases hl : listed.getD j false with
      | false => rfl
      | true => rw [hi.closed j hj hl i h] at hun; cases hun
    obtain ⟨pre, hsplit, hprelen⟩ := hi.split
    have hag : ∀ fi, NameOk ops.toList bf fr0 i o fi fr → ∀ t ∈ nameSlots ops.toList o, ∀ v, sget fi t = some v → a.tmps[t]? = some v := by
      intro fi hname t ht v hv
      rcases hname t ht with ⟨h1, h2⟩ | ⟨h1, j, oj, hoj, hd, hj⟩
      · rw [h1] at hv
        exact hi.slot t v hv fun j oj hoj hd => hpre j (h2 j oj (by simpa using hoj) hd)
      · rw [h1] at hv
        rw [hi.old t fun k ok hok hl hdk => ?_]
        · exact hfr0 t v hv
        · have := uniq_spec huniq k j ok oj t (by simpa using hok) hoj hdk hd
          subst this
          rcases hj with hj | hj
          · rw [hpost k (Array.getElem?_eq_some_iff.1 hok).1 hj] at hl; cases hl
          · subst hj; rw [hun] at hl; cases hl
    have hset : ∀ j, (listed.setIfInBounds i true).getD j false = if j = i then true else listed.getD j false := by
      intro j
      rw [Array.getD_eq_getD_getElem?, Array.getD_eq_getD_getElem?, Array.getElem?_setIfInBounds]
      by_cases hij : i = j
      · subst hij
        simp [hi.size, hlt]
      · simp [hij, Ne.symm hij]
    have hclosed' : ∀ k, k < ops.size → (listed.setIfInBounds i true).getD k false = true → ∀ j, (nth 0 bf k).testBit j = true → (listed.setIfInBounds i true).getD j false = true := by
      intro k hk hl j hj
      rw [hset] at hl ⊢
      split
      · rfl
      · by_cases hki : k = i
        · subst hki; exact hpre j hj
        · rw [if_neg hki] at hl; exact hi.closed k hk hl j hj
    have hold' : ∀ v, ∀ t, (∀ k ok, ops[k]? = some ok → (listed.setIfInBounds i true).getD k false = true → ok.dst ≠ some t) → (a.put o.dst v).tmps[t]? = a0.tmps[t]? := by
      intro v t h
      have hne : o.dst ≠ some t := h i o ho (by rw [hset]; simp)
      rw [act_put_get, if_neg (fun hh => hne hh.1)]
      exact hi.old t fun k ok hok hl => h k ok hok (by rw [hset]; split <;> simp [hl])
    cases he : isEffY κ o with
    | false =>
      have hlo : lvl bf ef i ≤ rk := by
        unfold lvl
        rw [hsplit, cnt_append]
        have h0 : cnt (fun e => (nth 0 bf i).testBit e) es = 0 := cnt_zero fun e hm => by
          cases hb : (nth 0 bf i).testBit e with
          | false => rfl
          | true =>
            have h1 := hpre e hb
            have h2 := (hi.effs e (by rw [hsplit]; exact List.mem_append_right _ hm)).2 hm
            rw [h1] at h2; cases h2
        have := cnt_len (fun e => (nth 0 bf i).testBit e) pre
        omega
      have hhi : rk ≤ late bf ef i := by
        unfold late
        rw [hsplit, cnt_append]
        have h0 : cnt (fun e => (nth 0 bf e).testBit i) pre = 0 := cnt_zero fun e hm => by
          cases hb : (nth 0 bf e).testBit i with
          | false => rfl
          | true =>
            have hme : e ∈ ef := by rw [hsplit]; exact List.mem_append_left _ hm
            obtain ⟨oe, hoe, _⟩ := hefflt e hme
            have h1 := hpost e (Array.getElem?_eq_some_iff.1 hoe).1 hb
            have h2 := (hi.effs e hme).1 h1
            obtain ⟨p1, p2, hp⟩ := List.append_of_mem hm
            have := (chain_specZ hchain (a := p1) (e := e) (r := p2 ++ es) (by rw [hsplit, hp]; simp) e (List.mem_append_right _ h2)).2
            exact absurd rfl this
        have := cnt_len (fun e => (nth 0 bf e).testBit i) es
        rw [List.length_append]
        omega
      have hreads : Reads P κ ops.toList bf ef fr0 rk fr w := by
        have := hi.node
        cases es with
        | nil => exact this.1
        | cons e r => exact this.1
      obtain ⟨v, fi, hname, hd, hv⟩ := hreads i o (by simpa using ho) he hlo hhi
      refine does_step ho hd (hag fi hname) (ih _ _ _ es rk fr ⟨by simp [hi.size], hclosed', ⟨pre, hsplit, hprelen⟩, ?_, ?_, hold' v, hi.len, by rw [act_put_size]; exact hi.size2, by rw [act_put_defers]; exact hi.defers, hi.node⟩ hnextL)
      · intro e hm
        have hne : e ≠ i := by
          rintro rfl
          obtain ⟨oe, hoe, hee⟩ := hefflt e hm
          rw [ho] at hoe; cases hoe; rw [he] at hee; cases hee
        rw [hset, if_neg hne]; exact hi.effs e hm
      · intro t u hu hall
        rw [act_put_get]
        by_cases hd : o.dst = some t
        · have hsz : t < a.tmps.size := by
            rcases Nat.lt_or_ge t fr.length with h | h
            · rw [← hi.size2]; exact h
            · rw [sget_eq, List.getElem?_eq_none h] at hu; cases hu
          rw [if_pos ⟨hd, hsz⟩]
          have := hv t hd (by rw [hi.size2]; exact hsz)
          rw [hu] at this; exact this.symm
        · rw [if_neg (fun h => hd h.1)]
          refine hi.slot t u hu fun k ok hok hdk => ?_
          have := hall k ok hok hdk
          rw [hset] at this
          by_cases hki : k = i
          · subst hki; rw [ho] at hok; cases hok; exact absurd hdk hd
          · rwa [if_neg hki] at this
    | true =>
      have hmi : i ∈ ef := hmemeff i o ho he
      have hmes : i ∈ es := (hi.effs i hmi).1 hun
      cases es with
      | nil => cases hmes
      | cons e rs =>
        have hie : i = e := by
          rcases List.mem_cons.1 hmes with h | h
          · exact h
          · have h1 := (chain_specZ hchain hsplit i h).1
            have h2 := hpre e h1
            have h3 := (hi.effs e (by rw [hsplit]; simp)).2 (List.mem_cons_self ..)
            rw [h2] at h3; cases h3
        subst hie
        obtain ⟨_, o', ho', hname, heffat⟩ := hi.node
        have : o' = o := by
          have h1 : ops.toList[i]? = some o := by simpa using ho
          rw [h1] at ho'; exact (Option.some.inj ho').symm
        subst this
        refine does_eff ho heffat (hag _ hname) ?_
        rintro v w' ⟨fr', hext, hnode⟩
        refine ih _ _ _ rs (rk + 1) fr' ⟨by simp [hi.size], hclosed', ⟨pre ++ [i], by rw [hsplit]; simp, by simp [hprelen]⟩, ?_, ?_, hold' v, by rw [hext.1, put_len]; exact hi.len, by rw [hext.1, put_len, act_put_size]; exact hi.size2, by rw [act_put_defers]; exact hi.defers, hnode⟩ hnextL
        · intro f hm
          rw [hset]
          by_cases hfi : f = i
          · subst hfi
            simp only [if_true]
            constructor
            · intro h; cases h
            · intro h
              have := (chain_specZ hchain hsplit f h).2
              exact absurd rfl this
          · rw [if_neg hfi, hi.effs f hm, List.mem_cons]
            simp [hfi]
        · intro t u hu hall
          have hnl : ¬ LvlSlot κ ops.toList bf ef (rk + 1) t := by
            rintro ⟨k, ok, hok, hek, hlk, hdk⟩
            have hok' : ops[k]? = some ok := by simpa using hok
            have h1 := hall k ok hok' hdk
            rw [hset] at h1
            have hki : k ≠ i := by rintro rfl; rw [ho] at hok'; cases hok'; rw [he] at hek; cases hek
            rw [if_neg hki] at h1
            -- its level: only writers that are listed come before it
            have : lvl bf ef k ≤ rk := by
              unfold lvl
              rw [hsplit, cnt_append]
              have h0 : cnt (fun e => (nth 0 bf k).testBit e) (i :: rs) = 0 := cnt_zero fun e hm => by
                cases hb : (nth 0 bf k).testBit e with
                | false => rfl
                | true =>
                  have h2 := hi.closed k (Array.getElem?_eq_some_iff.1 hok').1 h1 e hb
                  have h3 := (hi.effs e (by rw [hsplit]; exact List.mem_append_right _ hm)).2 hm
                  rw [h2] at h3; cases h3
              have := cnt_len (fun e => (nth 0 bf k).testBit e) pre
              omega
            omega
          rw [hext.2 t hnl, put_get] at hu
          rw [act_put_get]
          by_cases hd : o'.dst = some t
          · by_cases hl : t < fr.length
            · rw [if_pos ⟨hd, hl⟩] at hu
              rw [if_pos ⟨hd, by rw [← hi.size2]; exact hl⟩]; exact hu
            · rw [if_neg (fun h => hl h.2)] at hu
              rw [sget_eq, List.getElem?_eq_none (by omega)] at hu; cases hu
          · rw [if_neg (fun h => hd h.1)] at hu
            rw [if_neg (fun h => hd h.1)]
            refine hi.slot t u hu fun k ok hok hdk => ?_
            have := hall k ok hok hdk
            rw [hset] at this
            by_cases hki : k = i
            · subst hki; rw [ho] at hok; cases hok; exact absurd hdk hd
            · rwa [if_neg hki] at this


/-! ### every order of the writers -/
def pairIn (bf : List Nat) (a : Nat) : List Nat → Option (Nat × Nat)
  | [] => none
  | b :: r => match (nth 0 bf b).testBit a || (nth 0 bf a).testBit b with | true => pairIn bf a r | false => some (a, b)
def pairOf (bf : List Nat) : List Nat → Option (Nat × Nat)
  | [] => none
  | a :: r => match pairIn bf a r with | some p => some p | none => pairOf bf r
def insBf (bf : List Nat) (x : Nat) : List Nat → List Nat
  | [] => [x]
  | y :: r => match (nth 0 bf x).testBit y with | true => y :: insBf bf x r | false => x :: y :: r
def sortBf (bf : List Nat) : List Nat → List Nat
  | [] => []
  | x :: r => insBf bf x (sortBf bf r)
def drawOkZ (κ : List Kd) (ops : List Oper) (bf ef ef0 : List Nat) : Bool :=
  namesOk ops bf ops 0 && uniqOk ops && chainOkZ bf ef && (ef.all ef0.contains && ef0.all ef.contains) && ordB κ ops bf ef (ordGo κ ops bf ef ef 0) 0 ef 0
def pairOkZ (n : Nat) (p : Nat × Nat) : Bool := Nat.blt p.1 n && Nat.blt p.2 n && !Nat.beq p.1 p.2
def drawT (P : Program) (κ : List Kd) (ops : List Oper) (ef0 : List Nat) (fr : Fr) (w : World) (Kn : KF) : Nat → List Nat → Prop
  | 0, _ => False
  | n + 1, bf => match pairOf bf ef0 with
    | some p => (match pairOkZ ops.length p with
      | true => drawT P κ ops ef0 fr w Kn n (addE bf p.1 p.2) ∧ drawT P κ ops ef0 fr w Kn n (addE bf p.2 p.1)
      | false => False)
    | none => (match drawOkZ κ ops bf (sortBf bf ef0) ef0 with
      | true => drawY P κ ops bf (sortBf bf ef0) (ordGo κ ops bf (sortBf bf ef0) (sortBf bf ef0) 0) 0 none fr w [] Kn
      | false => False)

theorem drawT_list {P : Program} {κ : List Kd} {ops : Array Oper} {D : List Deferred} {N : Nat} {fr : Fr} {a : Act} {w : World} {Kn : KF} {K : Act → World → Prop} (ha : Agree D N fr a)
    (hend : ∀ fr a' w, Agree D N fr a' → Same (asgOps ops.toList) a a' → Kn fr w → K a' w) : ∀ (n : Nat) (bf : List Nat), drawT P κ ops.toList (effsY κ ops.toList 0) fr w Kn n bf →
    ∀ L, LinL bf ops.size (Array.replicate ops.size false) L → OpsWp P ops K L a w := by
  have hz : ∀ i, (Array.replicate ops.size false).getD i false = false := by
    intro i
    rw [Array.getD_eq_getD_getElem?, Array.getElem?_replicate]
    split <;> rfl
  intro n
  induction n with
  | zero => intro bf h; exact h.elim
  | succ n ih =>
    intro bf h L hL
    simp only [drawT] at h
    split at h
    · rename_i p hp
      split at h
      · rename_i hpo
        simp only [pairOkZ, Bool.and_eq_true, Bool.not_eq_true', Array.length_toList] at hpo
        obtain ⟨⟨h1, h2⟩, h3⟩ := hpo
        have h1 : p.1 < ops.size := Nat.blt_eq ▸ h1
        have h2 : p.2 < ops.size := Nat.blt_eq ▸ h2
        have h3 : p.1 ≠ p.2 := fun e => by rw [e] at h3; simp at h3
        have hs : Shut bf ops.size (Array.replicate ops.size false) := ⟨by simp, fun i _ hl => by rw [hz] at hl; cases hl⟩
        rcases lin_split h1 h2 h3 L _ hs (hz _) (hz _) hL with hl | hl
        · exact ih _ h.1 L hl
        · exact ih _ h.2 L hl
      · exact h.elim
    · split at h
      · rename_i hok
        simp only [drawOkZ, Bool.and_eq_true] at hok
        obtain ⟨⟨⟨⟨hnames, huniq⟩, hchain⟩, hm1, hm2⟩, hord⟩ := hok
        generalize hef : sortBf bf (effsY κ ops.toList 0) = ef at *
        have hmem : ∀ e, e ∈ ef ↔ e ∈ effsY κ ops.toList 0 := fun e =>
          ⟨fun h => by simpa using List.all_eq_true.1 hm1 e h, fun h => by simpa using List.all_eq_true.1 hm2 e h⟩
        obtain ⟨fr', hext, hnode⟩ := drawY_node (fr0 := fr) hnames huniq _ 0 0 _ _ _ _ _ hord ⟨fun i hi => by simp at hi, fun t _ => rfl, fun i o _ hi => by simp at hi⟩ h
        refine draw_listY (a0 := a) (D := D) (N := N) (Kn := Kn) (fr0 := fr) ha.slot huniq hchain hmem hend L _ a w _ 0 fr' ⟨by simp, ?_, ⟨[], rfl, rfl⟩, ?_, ?_, fun t _ => rfl, by rw [hext.1]; exact ha.len, by rw [hext.1]; exact ha.size, ha.defers, hnode⟩ hL
        · intro i _ hl; rw [hz] at hl; cases hl
        · intro e he; rw [hz]; simp [he]
        · intro t v hv hall
          have : ¬ LvlSlot κ ops.toList bf ef 0 t := by
            rintro ⟨i, o, ho, _, _, hd⟩
            have := hall i o (by simpa using ho) hd
            rw [hz] at this; cases this
          rw [hext.2 t this] at hv
          exact ha.slot t v hv
      · exact h.elim
theorem drawT_sound {P : Program} {κ : List Kd} {ops : Array Oper} {id : Nat} {bf : List Nat} {n : Nat} {D : List Deferred} {N : Nat} {fr : Fr} {a : Act} {w : World} {Kn Kr : KF} {Ke : Nat → KF}
    (hm : P.follows .mixedOrders = true) (hbf : bfOk bf ops.toList 0 = true) (ha : Agree D N fr a)
    (h : drawT P κ ops.toList (effsY κ ops.toList 0) fr w.drew Kn n bf) :
    (Code.region id ops true).wp P (postOf D N (asgOps ops.toList) a Kn Ke Kr) a w := by
  have hz : ∀ i, (Array.replicate ops.size false).getD i false = false := by
    intro i
    rw [Array.getD_eq_getD_getElem?, Array.getElem?_replicate]
    split <;> rfl
  intro b k cs
  have key : ∀ t, OpsWp P ops (postOf D N (asgOps ops.toList) a Kn Ke Kr .normal) (Region.schedule (P.follows .mixedOrders) ops t) a w.drew := by
    intro t
    simp only [Region.schedule, hm, Bool.true_or, if_true, Region.linearise]
    refine drawT_list (D := D) (N := N) (Kn := Kn) ha (fun fr a' w' h1 h2 h3 => ⟨fr, h1, h2, h3⟩) n bf h _ (go_lin hbf _ _ _ ⟨by simp, fun i _ hl => by rw [hz] at hl; cases hl⟩ ?_)
    exact Nat.le_trans (cnt_len _ _) (by simp)
  obtain ⟨a', w', hk, hs⟩ := key (w.tape w.drawn (.order b.fn id)) b k cs
  exact ⟨.normal, a', w', hk, .head step_region_draw hs⟩

/-! ### code, whole functions -/
def codeZ (P : Program) (κ : List Kd) (ann : List (Nat × Live)) : Code → Nat → Fr → World → KF → (Nat → KF) → KF → Prop
  | .skip, _, fr, w, Kn, _, _ => Kn fr w
  | .region _ ops draw, _, fr, w, Kn, _, _ => match draw with
    | true => match P.follows .mixedOrders, bfOk (befGo ops.toList []) ops.toList 0 with
      | true, true => drawT P κ ops.toList (effsY κ ops.toList 0) fr w.drew Kn 6 (befGo ops.toList [])
      | _, _ => False
    | false => opsX P κ ops ops.toList none fr w Kn
  | .seq a b, n, fr, w, Kn, Ke, Kr => match look ann n with
    | none => codeZ P κ ann a (n + 1) fr w (fun fr w => codeZ P κ ann b (n + 1 + sz a) fr w Kn Ke Kr) Ke Kr
    | some l => JoinX (fun (x : LT l) w => codeZ P κ ann b (n + 1 + sz a) (inj (asg a) l x fr) w Kn Ke Kr)
        fun k => codeZ P κ ann a (n + 1) fr w (fun fr w => sel l fr fun x => k x w) Ke Kr
  | .cond c a b, n, fr, w, Kn, Ke, Kr => match Fr.known fr c, (Fr.eval fr) c with
    | true, .bool t => SplitB t (codeZ P κ ann a n fr w Kn Ke Kr) (codeZ P κ ann b (n + sz a) fr w Kn Ke Kr)
    | _, _ => False
  | .block id b, n, fr, w, Kn, Ke, Kr => codeZ P κ ann b n fr w Kn (fun i fr w => match Nat.beq i id with | true => Kn fr w | false => Ke i fr w) Kr
  | .exit id, _, fr, w, _, Ke, _ => Ke id fr w
  | .ret, _, fr, w, _, _, Kr => Kr fr w
  | .loop b, n, fr, w, _, Ke, Kr => match look ann n with
    | none => False
    | some l => sel l fr fun x => LoopX (fun (x : LT l) w k => codeZ P κ ann b (n + 1) (inj (asg b) l x fr) w (fun fr w => sel l fr fun x => k x w) Ke Kr) x w
  | .label _, _, fr, w, Kn, _, _ => Kn fr w
  | _, _, _, _, _, _, _ => False

theorem codeZ_sound {D : List Deferred} {N : Nat} {P : Program} {κ : List Kd} {ann : List (Nat × Live)} : ∀ (c : Code) (n : Nat) (fr : Fr) (a : Act) (w : World) (Kn : KF) (Ke : Nat → KF) (Kr : KF),
    Agree D N fr a → codeZ P κ ann c n fr w Kn Ke Kr → c.wp P (postOf D N (asg c) a Kn Ke Kr) a w := by
  intro c
  induction c with
  | skip => intro n fr a w Kn Ke Kr ha h; exact wp_skip ⟨fr, ha, Same.refl _ _, h⟩
  | label l => intro n fr a w Kn Ke Kr ha h; exact wp_label ⟨fr, ha, Same.refl _ _, h⟩
  | exit id => intro n fr a w Kn Ke Kr ha h; exact wp_exit ⟨fr, ha, Same.refl _ _, h⟩
  | ret => intro n fr a w Kn Ke Kr ha h; exact wp_ret ⟨fr, ha, Same.refl _ _, h⟩
  | region id ops draw =>
    intro n fr a w Kn Ke Kr ha h
    simp only [codeZ] at h
    cases draw with
    | true =>
      simp only at h
      split at h
      · rename_i hm hok
        exact drawT_sound hm hok ha h
      · exact h.elim
    | false =>
      have := opsX_sound (P := P) (κ := κ) (ops := ops) ops.toList 0 none fr a w Kn (asgOps ops.toList) (by simp) (fun o ho d hd => asgOps_mem ho hd) ha h
      exact wp_of_opsWp (by rw [List.range_eq_range', ← Array.length_toList]; exact this)
  | seq x y ihx ihy =>
    intro n fr a w Kn Ke Kr ha h
    simp only [codeZ] at h
    refine wp_seq ?_
    split at h
    · refine wp_mono (ihx _ _ _ _ _ _ _ ha h) ?_
      intro e a' w' hq
      cases e <;> simp only [postOf, Exit.then] at hq ⊢ <;> first
        | exact hq
        | (obtain ⟨fr', ha', hs, hk⟩ := hq; exact ⟨fr', ha', hs.weaken fun t ht => (asg_seq1 ht).1, hk⟩)
        | skip
      obtain ⟨fr', ha', hs, hk⟩ := hq
      exact wp_mono (ihy _ _ _ _ _ _ _ ha' hk) fun e a w hh => postOf_weaken (fun t ht => (asg_seq1 ht).2) (hs.weaken fun t ht => (asg_seq1 ht).1) hh
    · rename_i l hl
      refine wp_mono (ihx _ _ _ _ _ _ _ ha h) ?_
      intro e a' w' hq
      cases e <;> simp only [postOf, Exit.then] at hq ⊢ <;> first
        | exact hq
        | (obtain ⟨fr', ha', hs, hk⟩ := hq; exact ⟨fr', ha', hs.weaken fun t ht => (asg_seq1 ht).1, hk⟩)
        | skip
      obtain ⟨fr', ha', hs, hk⟩ := hq
      obtain ⟨x, hx, hk⟩ := sel_holds _ _ _ hk
      exact wp_mono (ihy _ _ _ _ _ _ _ (inj_agree ha ha' hs hx) hk) fun e a w hh => postOf_weaken (fun t ht => (asg_seq1 ht).2) (hs.weaken fun t ht => (asg_seq1 ht).1) hh
  | cond c x y ihx ihy =>
    intro n fr a w Kn Ke Kr ha h
    simp only [codeZ] at h
    split at h
    · rename_i t hk hc
      refine wp_cond_split (t := t) (by rw [ha.eval hk]; exact hc) ?_ ?_
      · rintro rfl; exact wp_mono (ihx _ _ _ _ _ _ _ ha h) fun e a w hh => postOf_weaken (fun t ht => (asg_cond1 ht).1) (Same.refl _ _) hh
      · rintro rfl; exact wp_mono (ihy _ _ _ _ _ _ _ ha h) fun e a w hh => postOf_weaken (fun t ht => (asg_cond1 ht).2) (Same.refl _ _) hh
    · exact h.elim
  | block id b ih =>
    intro n fr a w Kn Ke Kr ha h
    simp only [codeZ] at h
    refine wp_block (wp_mono (ih _ _ _ _ _ _ _ ha h) ?_)
    intro e a' w' hq
    cases e <;> simp only [postOf, Exit.inBlock] at hq ⊢ <;> first | exact hq | skip
    rename_i i
    obtain ⟨fr', ha', hs, hk⟩ := hq
    split at hk
    · rename_i hi
      rw [if_pos (Nat.eq_of_beq_eq_true hi)]; exact ⟨fr', ha', hs, hk⟩
    · rename_i hi
      rw [if_neg (fun e => by subst e; simp at hi)]; exact ⟨fr', ha', hs, hk⟩
  | loop b ih =>
    intro n fr a w Kn Ke Kr ha h
    simp only [codeZ] at h
    split at h
    · exact h.elim
    · rename_i l hl
      obtain ⟨x, hx, h⟩ := sel_holds _ _ _ h
      obtain ⟨I, μ, hI, hround⟩ := h
      refine wp_loop_ranked (fun m a₁ w => ∃ x, Agree D N (inj (asg b) l x fr) a₁ ∧ Same (asg b) a a₁ ∧ I x w ∧ μ x w = m) ?_ (μ x w) a w ⟨x, inj_agree ha ha (Same.refl _ _) hx, Same.refl _ _, hI, rfl⟩
      rintro m a₁ w₁ ⟨x₁, ha₁, hs₁, hI₁, rfl⟩
      refine wp_mono (ih _ _ _ _ _ _ _ ha₁ (hround _ _ hI₁)) ?_
      intro e a' w' hq
      cases e <;> simp only [postOf, Exit.then] at hq ⊢ <;> first
        | exact hq
        | (obtain ⟨fr', ha', hs, hk⟩ := hq; exact ⟨fr', ha', hs₁.trans hs, hk⟩)
        | skip
      obtain ⟨fr', ha', hs, hk⟩ := hq
      obtain ⟨y, hy, hI', hm⟩ := sel_holds _ _ _ hk
      exact ⟨_, hm, y, inj_agree ha ha' (hs₁.trans hs) hy, hs₁.trans hs, hI', rfl⟩
  | scope b ih => intro n fr a w Kn Ke Kr ha h; exact h.elim
  | goto l => intro n fr a w Kn Ke Kr ha h; exact h.elim
  | rangeFunc f ps x y _ _ => intro n fr a w Kn Ke Kr ha h; exact h.elim
  | refuse s => intro n fr a w Kn Ke Kr ha h; exact h.elim


/-- A function's proposition. -/
def bodyZ (P : Program) (κ : List Kd) (ann : List (Nat × Live)) (kd : Kd) (fn : Func) (args : List Value) (w : World) (K : kd.T → World → Prop) : Prop :=
  codeZ P κ ann (bodyOf fn) 0 (start args fn.ntmps) w (fun fr w => resK P κ kd fn.results.toList fr w fun x => K x w) (fun _ _ _ => False) (fun fr w => resK P κ kd fn.results.toList fr w fun x => K x w)

theorem bodyZ_sound {P : Program} {κ : List Kd} {ann : List (Nat × Live)} {kd : Kd} {f : FuncId} {fn : Func} {args : List Value} {w : World} {K : kd.T → World → Prop}
    (hf : P.funcs[f]? = some fn) (hb : fn.body.isSome = true) (hn : Nat.ble args.length fn.ntmps = true) (h : bodyZ P κ ann kd fn args w K) : CallK P kd f ⟨args⟩ w K := by
  obtain ⟨c, hb⟩ := Option.isSome_iff_exists.1 hb
  have hbo : bodyOf fn = c := by simp [bodyOf, hb]
  unfold bodyZ at h
  rw [hbo] at h
  refine calls_of_wp hf hb (wp_mono (codeZ_sound (D := []) (N := fn.ntmps) _ _ _ _ _ _ _ _ ?_ h) ?_)
  · have hn' : args.length ≤ fn.ntmps := Nat.le_of_ble_eq_true hn
    refine ⟨start_len _ _, by rw [start_len]; simp; omega, rfl, fun t v ht => ?_⟩
    have := start_get _ _ _ _ ht
    have hl : t < args.length := by
      rcases Nat.lt_or_ge t args.length with h' | h'
      · exact h'
      · simp [List.getElem?_eq_none h'] at this
    rw [Array.getElem?_append_left (by simpa using hl)]
    simpa using this
  · intro e a' w' hq
    cases e <;> simp only [postOf] at hq
    · obtain ⟨fr, ha, -, hr⟩ := hq
      obtain ⟨x, hx, hk⟩ := resK_sound (P := P) (fn := fn) (w := w') ha hr
      exact ⟨ha.defers, _, hx, x, rfl, hk⟩
    · obtain ⟨fr, ha, -, hr⟩ := hq; exact hr.elim
    · obtain ⟨fr, ha, -, hr⟩ := hq
      obtain ⟨x, hx, hk⟩ := resK_sound (P := P) (fn := fn) (w := w') ha hr
      exact ⟨ha.defers, _, hx, x, rfl, hk⟩
end Go.Fw

/- A reader that also reads a select of one case with a default, at the beginning of a region. -/
namespace Go.Fw
open Go Go.Conc
set_option linter.unusedVariables false

def setCh (w : World) (b cap : Nat) (buf : List Value) (s r : Nat) : World := { w with heap := w.heap.setIfInBounds b (.chan cap ⟨buf⟩ false s r false) }
def RecvB (P : Program) (kd : Kd) (e : TypeId) (ch : Option Nat) (w : World) (Kg : kd.T → World → Prop) (Kn : Value → World → Prop) : Prop :=
  ∃ b cap buf s r z, ch = some b ∧ w.heap[b]? = some (.chan cap ⟨buf⟩ false s r false) ∧ (zeroValue e).run P w = .ok z w ∧
    ((buf = [] ∧ Kn z w) ∨ ∃ x rest, buf = kd.val x :: rest ∧ Kg x (setCh w b cap rest s (r + 1)))
def SendB (P : Program) (e : TypeId) (ch : Option Nat) (v : Value) (w : World) (Kg Kn : World → Prop) : Prop :=
  ∃ b cap buf s r z, ch = some b ∧ w.heap[b]? = some (.chan cap ⟨buf⟩ false s r false) ∧ (zeroValue e).run P w = .ok z w ∧
    ((buf.length < cap ∧ Kg (setCh w b cap (buf ++ [v]) (s + 1) r)) ∨ (cap ≤ buf.length ∧ Kn w))
def selX (P : Program) (κ : List Kd) (c : SelectCase) (dst : Option Tmp) (fr : Fr) (w : World) (K : KF) : Prop :=
  match c.send with
  | none => match Fr.known fr c.chan, Fr.eval fr c.chan with
    | true, .chan ch => RecvB P (nth .raw κ c.elem) c.elem ch w (fun x w => K (Fr.put fr dst (.tuple #[.int .i64 0, .bool true, (nth .raw κ c.elem).val x])) w) (fun z w => K (Fr.put fr dst (.tuple #[.int .i64 (-1), .bool false, z])) w)
    | _, _ => False
  | some x => match Fr.known fr c.chan, Fr.known fr x, Fr.eval fr c.chan with
    | true, true, .chan ch => SendB P c.elem ch (Fr.eval fr x) w (fun w => K (Fr.put fr dst (.tuple #[.int .i64 0, .bool false])) w) (fun w => K (Fr.put fr dst (.tuple #[.int .i64 (-1), .bool false])) w)
    | _, _, _ => False
def regL (P : Program) (κ : List Kd) (ops : Array Oper) : List Oper → Fr → World → KF → Prop
  | [], fr, w, K => K fr w
  | o :: rest, fr, w, K => match o.guard, o.op with
    | none, .select cs false => match cs.toList with
      | [c] => selX P κ c o.dst fr w fun fr w => opsX P κ ops rest none fr w K
      | _ => False
    | _, _ => opsX P κ ops (o :: rest) none fr w K

section
variable {P : Program} {ops : Array Oper} {K : Act → World → Prop} {a : Act} {w w' : World} {i : Nat} {rest : List Nat} {o : Oper}
theorem stepG_comm_any {b : Frame} {k : List Item} {cs : List Frame} {cases : Array CommCase} {blocking : Bool} {shape : CommShape} (ho : ops[i]? = some o) (hw : Region.wanted o (yielded ops a.tmps) = true)
    (hr : (execOp a.eval o).run P w = .ok (.comm cases blocking shape) w') :
    ∃ es, stepG P true (G (b.at a (.inRegion ops (i :: rest) :: k)) cs) w = .comm (G (b.at a (.inRegion ops (i :: rest) :: k)) cs) cases blocking shape w' es := by
  rw [stepG_oper ho hw]
  cases hk : (b.kind == CallKind.early) with
  | false => exact ⟨_, by simp [stepG.apply, hr, G, Frame.at, hk, GStep.after]; rfl⟩
  | true => exact ⟨_, by simp [stepG.apply, hr, G, Frame.at, hk, GStep.after]; rfl⟩
theorem OpsWp.step1 {v : Value} (ho : ops[i]? = some o) (hs : ∀ (b : Frame) (k : List Item) (cs : List Frame), step P (lone (b.at a (.inRegion ops (i :: rest) :: k)) cs w) = .next (lone ((b.at a (.inRegion ops (i :: rest) :: k)).finish v) cs w'))
    (h : OpsWp P ops K rest (a.put o.dst v) w') : OpsWp P ops K (i :: rest) a w := by
  intro b k cs
  obtain ⟨a', w₂, hk, hst⟩ := h b k cs
  have h1 := hs b k cs
  rw [fin_at ho] at h1
  exact ⟨a', w₂, hk, .head h1 hst⟩
end

section
variable {D : List Deferred} {N : Nat} {P : Program} {κ : List Kd} {ops : Array Oper}
theorem exec_select {ρ : Operand → Value} {o : Oper} {c : SelectCase} {cs : Array SelectCase} (hop : o.op = .select cs false) (hcs : cs.toList = [c]) {w : World} {z : Value} (hz : (zeroValue c.elem).run P w = .ok z w) :
    (execOp ρ o).run P w = .ok (.comm #[{ chan := ρ c.chan, send := c.send.map ρ, zero := z }] false .select) w := by
  have : cs = #[c] := by cases cs; simp at hcs; simp [hcs]
  subst this
  simp [execOp, hop, hz]
theorem regL_sound (l : List Oper) (hl : l = ops.toList) (fr : Fr) (a : Act) (w : World) (K : KF) (f : Nat → Bool) (hf : ∀ o ∈ l, ∀ d, o.dst = some d → f d = true) (ha : Agree D N fr a) (h : regL P κ ops l fr w K) :
    OpsWp P ops (fun a' w' => ∃ fr', Agree D N fr' a' ∧ Same f a a' ∧ K fr' w') (List.range' 0 l.length) a w := by
  have hix : ∀ j, l[j]? = ops[0 + j]? := by intro j; rw [hl]; simp
  cases l with
  | nil => exact .nil ⟨fr, ha, Same.refl _ _, h⟩
  | cons o rest =>
    have ho : ops[0]? = some o := by simpa using (hix 0).symm
    have hf' : ∀ o ∈ rest, ∀ d, o.dst = some d → f d = true := fun o' ho' => hf o' (List.mem_cons_of_mem _ ho')
    have put : ∀ v, Same f a (a.put o.dst v) := fun v => Same.put (hf o (List.mem_cons_self ..)) v
    have via : ∀ v w' (fr' : Fr), Agree D N fr' (a.put o.dst v) → opsX P κ ops rest none fr' w' K →
        OpsWp P ops (fun a' w' => ∃ fr', Agree D N fr' a' ∧ Same f a a' ∧ K fr' w') (List.range' 1 rest.length) (a.put o.dst v) w' := by
      intro v w' fr' ha' hk b k' cs
      obtain ⟨a', w₂, ⟨fr'', h1, h2, h3⟩, hs⟩ := opsX_sound (P := P) (κ := κ) (ops := ops) rest 1 none fr' _ w' K f (fun j => by have := hix (j + 1); simpa [Nat.add_comm] using this) hf' ha' hk b k' cs
      exact ⟨a', w₂, ⟨fr'', h1, (put v).trans h2, h3⟩, hs⟩
    simp only [regL] at h
    split at h
    · rename_i cs hg hop
      split at h
      · rename_i c hcs
        simp only [List.length_cons, List.range'_succ]
        have hw : Region.wanted o (yielded ops a.tmps) = true := by simp [Region.wanted, hg]
        unfold selX at h
        split at h
        · rename_i hsend
          split at h
          · rename_i ch hk hch
            obtain ⟨b, cap, buf, s, r, z, rfl, hb, hz, h⟩ := h
            have hex := exec_select (ρ := a.eval) (P := P) hop hcs hz
            rw [hsend, ha.eval hk, hch] at hex
            rcases h with ⟨rfl, h⟩ | ⟨x, tl, rfl, h⟩
            · refine OpsWp.step1 (v := .tuple #[.int .i64 (-1), .bool false, z]) (w' := w) ho (fun b' k' cs' => ?_) (via _ _ _ (ha.put _ _) h)
              obtain ⟨es, hs⟩ := stepG_comm_any (b := b') (k := k') (cs := cs') (rest := List.range' 1 rest.length) ho hw hex
              exact step_lone_select_default hs hb
            · refine OpsWp.step1 (v := .tuple #[.int .i64 0, .bool true, (nth .raw κ c.elem).val x]) (w' := setCh w b cap tl s (r + 1)) ho (fun b' k' cs' => ?_) (via _ _ _ (ha.put _ _) h)
              obtain ⟨es, hs⟩ := stepG_comm_any (b := b') (k := k') (cs := cs') (rest := List.range' 1 rest.length) ho hw hex
              have := step_lone_select_recv_buf hs hb (by simp)
              rw [show (⟨(nth Kd.raw κ c.elem).val x :: tl⟩ : Array Value).extract 1 (⟨(nth Kd.raw κ c.elem).val x :: tl⟩ : Array Value).size = ⟨tl⟩ by simp] at this
              exact this
          · exact h.elim
        · rename_i y hsend
          split at h
          · rename_i ch hk hky hch
            obtain ⟨b, cap, buf, s, r, z, rfl, hb, hz, h⟩ := h
            have hex := exec_select (ρ := a.eval) (P := P) hop hcs hz
            rw [hsend, ha.eval hk, hch] at hex
            simp only [Option.map_some] at hex
            rw [ha.eval hky] at hex
            rcases h with ⟨hlt, h⟩ | ⟨hle, h⟩
            · refine OpsWp.step1 (v := .tuple #[.int .i64 0, .bool false]) (w' := setCh w b cap (buf ++ [Fr.eval fr y]) (s + 1) r) ho (fun b' k' cs' => ?_) (via _ _ _ (ha.put _ _) h)
              obtain ⟨es, hs⟩ := stepG_comm_any (b := b') (k := k') (cs := cs') (rest := List.range' 1 rest.length) ho hw hex
              have := step_lone_select_send_room hs hb (by simpa using hlt)
              rw [show (⟨buf⟩ : Array Value).push (Fr.eval fr y) = ⟨buf ++ [Fr.eval fr y]⟩ by simp] at this
              exact this
            · refine OpsWp.step1 (v := .tuple #[.int .i64 (-1), .bool false]) (w' := w) ho (fun b' k' cs' => ?_) (via _ _ _ (ha.put _ _) h)
              obtain ⟨es, hs⟩ := stepG_comm_any (b := b') (k := k') (cs := cs') (rest := List.range' 1 rest.length) ho hw hex
              exact step_lone_select_send_full hs hb (by simpa using hle)
          · exact h.elim
      · exact h.elim
    · exact opsX_sound (o :: rest) 0 none fr a w K f hix hf ha h
end

/-! ### code, whole functions -/
def codeL (P : Program) (κ : List Kd) (ann : List (Nat × Live)) : Code → Nat → Fr → World → KF → (Nat → KF) → KF → Prop
  | .skip, _, fr, w, Kn, _, _ => Kn fr w
  | .region _ ops draw, _, fr, w, Kn, _, _ => match draw with
    | true => match P.follows .mixedOrders, bfOk (befGo ops.toList []) ops.toList 0 with
      | true, true => drawT P κ ops.toList (effsY κ ops.toList 0) fr w.drew Kn 6 (befGo ops.toList [])
      | _, _ => False
    | false => regL P κ ops ops.toList fr w Kn
  | .seq a b, n, fr, w, Kn, Ke, Kr => match look ann n with
    | none => codeL P κ ann a (n + 1) fr w (fun fr w => codeL P κ ann b (n + 1 + sz a) fr w Kn Ke Kr) Ke Kr
    | some l => JoinX (fun (x : LT l) w => codeL P κ ann b (n + 1 + sz a) (inj (asg a) l x fr) w Kn Ke Kr)
        fun k => codeL P κ ann a (n + 1) fr w (fun fr w => sel l fr fun x => k x w) Ke Kr
  | .cond c a b, n, fr, w, Kn, Ke, Kr => match Fr.known fr c, (Fr.eval fr) c with
    | true, .bool t => SplitB t (codeL P κ ann a n fr w Kn Ke Kr) (codeL P κ ann b (n + sz a) fr w Kn Ke Kr)
    | _, _ => False
  | .block id b, n, fr, w, Kn, Ke, Kr => codeL P κ ann b n fr w Kn (fun i fr w => match Nat.beq i id with | true => Kn fr w | false => Ke i fr w) Kr
  | .exit id, _, fr, w, _, Ke, _ => Ke id fr w
  | .ret, _, fr, w, _, _, Kr => Kr fr w
  | .loop b, n, fr, w, _, Ke, Kr => match look ann n with
    | none => False
    | some l => sel l fr fun x => LoopX (fun (x : LT l) w k => codeL P κ ann b (n + 1) (inj (asg b) l x fr) w (fun fr w => sel l fr fun x => k x w) Ke Kr) x w
  | .label _, _, fr, w, Kn, _, _ => Kn fr w
  | _, _, _, _, _, _, _ => False

theorem codeL_sound {D : List Deferred} {N : Nat} {P : Program} {κ : List Kd} {ann : List (Nat × Live)} : ∀ (c : Code) (n : Nat) (fr : Fr) (a : Act) (w : World) (Kn : KF) (Ke : Nat → KF) (Kr : KF),
    Agree D N fr a → codeL P κ ann c n fr w Kn Ke Kr → c.wp P (postOf D N (asg c) a Kn Ke Kr) a w := by
  intro c
  induction c with
  | skip => intro n fr a w Kn Ke Kr ha h; exact wp_skip ⟨fr, ha, Same.refl _ _, h⟩
  | label l => intro n fr a w Kn Ke Kr ha h; exact wp_label ⟨fr, ha, Same.refl _ _, h⟩
  | exit id => intro n fr a w Kn Ke Kr ha h; exact wp_exit ⟨fr, ha, Same.refl _ _, h⟩
  | ret => intro n fr a w Kn Ke Kr ha h; exact wp_ret ⟨fr, ha, Same.refl _ _, h⟩
  | region id ops draw =>
    intro n fr a w Kn Ke Kr ha h
    simp only [codeL] at h
    cases draw with
    | true =>
      simp only at h
      split at h
      · rename_i hm hok
        exact drawT_sound hm hok ha h
      · exact h.elim
    | false =>
      have := regL_sound (P := P) (κ := κ) (ops := ops) ops.toList rfl fr a w Kn (asgOps ops.toList) (fun o ho d hd => asgOps_mem ho hd) ha h
      exact wp_of_opsWp (by rw [List.range_eq_range', ← Array.length_toList]; exact this)
  | seq x y ihx ihy =>
    intro n fr a w Kn Ke Kr ha h
    simp only [codeL] at h
    refine wp_seq ?_
    split at h
    · refine wp_mono (ihx _ _ _ _ _ _ _ ha h) ?_
      intro e a' w' hq
      cases e <;> simp only [postOf, Exit.then] at hq ⊢ <;> first
        | exact hq
        | (obtain ⟨fr', ha', hs, hk⟩ := hq; exact ⟨fr', ha', hs.weaken fun t ht => (asg_seq1 ht).1, hk⟩)
        | skip
      obtain ⟨fr', ha', hs, hk⟩ := hq
      exact wp_mono (ihy _ _ _ _ _ _ _ ha' hk) fun e a w hh => postOf_weaken (fun t ht => (asg_seq1 ht).2) (hs.weaken fun t ht => (asg_seq1 ht).1) hh
    · rename_i l hl
      refine wp_mono (ihx _ _ _ _ _ _ _ ha h) ?_
      intro e a' w' hq
      cases e <;> simp only [postOf, Exit.then] at hq ⊢ <;> first
        | exact hq
        | (obtain ⟨fr', ha', hs, hk⟩ := hq; exact ⟨fr', ha', hs.weaken fun t ht => (asg_seq1 ht).1, hk⟩)
        | skip
      obtain ⟨fr', ha', hs, hk⟩ := hq
      obtain ⟨x, hx, hk⟩ := sel_holds _ _ _ hk
      exact wp_mono (ihy _ _ _ _ _ _ _ (inj_agree ha ha' hs hx) hk) fun e a w hh => postOf_weaken (fun t ht => (asg_seq1 ht).2) (hs.weaken fun t ht => (asg_seq1 ht).1) hh
  | cond c x y ihx ihy =>
    intro n fr a w Kn Ke Kr ha h
    simp only [codeL] at h
    split at h
    · rename_i t hk hc
      refine wp_cond_split (t := t) (by rw [ha.eval hk]; exact hc) ?_ ?_
      · rintro rfl; exact wp_mono (ihx _ _ _ _ _ _ _ ha h) fun e a w hh => postOf_weaken (fun t ht => (asg_cond1 ht).1) (Same.refl _ _) hh
      · rintro rfl; exact wp_mono (ihy _ _ _ _ _ _ _ ha h) fun e a w hh => postOf_weaken (fun t ht => (asg_cond1 ht).2) (Same.refl _ _) hh
    · exact h.elim
  | block id b ih =>
    intro n fr a w Kn Ke Kr ha h
    simp only [codeL] at h
    refine wp_block (wp_mono (ih _ _ _ _ _ _ _ ha h) ?_)
    intro e a' w' hq
    cases e <;> simp only [postOf, Exit.inBlock] at hq ⊢ <;> first | exact hq | skip
    rename_i i
    obtain ⟨fr', ha', hs, hk⟩ := hq
    split at hk
    · rename_i hi
      rw [if_pos (Nat.eq_of_beq_eq_true hi)]; exact ⟨fr', ha', hs, hk⟩
    · rename_i hi
      rw [if_neg (fun e => by subst e; simp at hi)]; exact ⟨fr', ha', hs, hk⟩
  | loop b ih =>
    intro n fr a w Kn Ke Kr ha h
    simp only [codeL] at h
    split at h
    · exact h.elim
    · rename_i l hl
      obtain ⟨x, hx, h⟩ := sel_holds _ _ _ h
      obtain ⟨I, μ, hI, hround⟩ := h
      refine wp_loop_ranked (fun m a₁ w => ∃ x, Agree D N (inj (asg b) l x fr) a₁ ∧ Same (asg b) a a₁ ∧ I x w ∧ μ x w = m) ?_ (μ x w) a w ⟨x, inj_agree ha ha (Same.refl _ _) hx, Same.refl _ _, hI, rfl⟩
      rintro m a₁ w₁ ⟨x₁, ha₁, hs₁, hI₁, rfl⟩
      refine wp_mono (ih _ _ _ _ _ _ _ ha₁ (hround _ _ hI₁)) ?_
      intro e a' w' hq
      cases e <;> simp only [postOf, Exit.then] at hq ⊢ <;> first
        | exact hq
        | (obtain ⟨fr', ha', hs, hk⟩ := hq; exact ⟨fr', ha', hs₁.trans hs, hk⟩)
        | skip
      obtain ⟨fr', ha', hs, hk⟩ := hq
      obtain ⟨y, hy, hI', hm⟩ := sel_holds _ _ _ hk
      exact ⟨_, hm, y, inj_agree ha ha' (hs₁.trans hs) hy, hs₁.trans hs, hI', rfl⟩
  | scope b ih => intro n fr a w Kn Ke Kr ha h; exact h.elim
  | goto l => intro n fr a w Kn Ke Kr ha h; exact h.elim
  | rangeFunc f ps x y _ _ => intro n fr a w Kn Ke Kr ha h; exact h.elim
  | refuse s => intro n fr a w Kn Ke Kr ha h; exact h.elim


/-- A function's proposition. -/
def bodyL (P : Program) (κ : List Kd) (ann : List (Nat × Live)) (kd : Kd) (fn : Func) (args : List Value) (w : World) (K : kd.T → World → Prop) : Prop :=
  codeL P κ ann (bodyOf fn) 0 (start args fn.ntmps) w (fun fr w => resK P κ kd fn.results.toList fr w fun x => K x w) (fun _ _ _ => False) (fun fr w => resK P κ kd fn.results.toList fr w fun x => K x w)

theorem bodyL_sound {P : Program} {κ : List Kd} {ann : List (Nat × Live)} {kd : Kd} {f : FuncId} {fn : Func} {args : List Value} {w : World} {K : kd.T → World → Prop}
    (hf : P.funcs[f]? = some fn) (hb : fn.body.isSome = true) (hn : Nat.ble args.length fn.ntmps = true) (h : bodyL P κ ann kd fn args w K) : CallK P kd f ⟨args⟩ w K := by
  obtain ⟨c, hb⟩ := Option.isSome_iff_exists.1 hb
  have hbo : bodyOf fn = c := by simp [bodyOf, hb]
  unfold bodyL at h
  rw [hbo] at h
  refine calls_of_wp hf hb (wp_mono (codeL_sound (D := []) (N := fn.ntmps) _ _ _ _ _ _ _ _ ?_ h) ?_)
  · have hn' : args.length ≤ fn.ntmps := Nat.le_of_ble_eq_true hn
    refine ⟨start_len _ _, by rw [start_len]; simp; omega, rfl, fun t v ht => ?_⟩
    have := start_get _ _ _ _ ht
    have hl : t < args.length := by
      rcases Nat.lt_or_ge t args.length with h' | h'
      · exact h'
      · simp [List.getElem?_eq_none h'] at this
    rw [Array.getElem?_append_left (by simpa using hl)]
    simpa using this
  · intro e a' w' hq
    cases e <;> simp only [postOf] at hq
    · obtain ⟨fr, ha, -, hr⟩ := hq
      obtain ⟨x, hx, hk⟩ := resK_sound (P := P) (fn := fn) (w := w') ha hr
      exact ⟨ha.defers, _, hx, x, rfl, hk⟩
    · obtain ⟨fr, ha, -, hr⟩ := hq; exact hr.elim
    · obtain ⟨fr, ha, -, hr⟩ := hq
      obtain ⟨x, hx, hk⟩ := resK_sound (P := P) (fn := fn) (w := w') ha hr
      exact ⟨ha.defers, _, hx, x, rfl, hk⟩
end Go.Fw
