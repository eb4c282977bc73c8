/- What shelves of answers are made of: lists of slices, lists of texts, one that has grown from another; a row made of zeros. -/
import Derived.Test.YtodgnpmljdopiaaFwT
set_option linter.unusedVariables false
set_option linter.unusedSimpArgs false
namespace Go.Fw
open Go Go.RowKit

@[reducible] def slv (s : Sl) : Value := .slice s.a s.len s.cap
abbrev Bs := Sl × List UInt8
/-- The row of one list of bytes. -/
def brw (E : TypeId) (x : Bs) : Ent := .row E 1 x.1 (bys x.2)
def lsl (l : List Bs) : List Value := l.map fun x => slv x.1
def lst (l : List Bs) : List Value := l.map fun x => .string ⟨x.2.toArray⟩
def lin (l : List Int) : List Value := l.map fun x => .int .i64 x
theorem lsl_len (l : List Bs) : (lsl l).length = l.length := by simp [lsl]
theorem lst_len (l : List Bs) : (lst l).length = l.length := by simp [lst]
theorem lin_len (l : List Int) : (lin l).length = l.length := by simp [lin]
theorem lsl_at {l : List Bs} {i : Nat} (h : i < l.length) : (lsl l)[i]? = some (Value.slice l[i].1.a l[i].1.len l[i].1.cap) := by simp [lsl, h]
theorem lst_at {l : List Bs} {i : Nat} (h : i < l.length) : (lst l)[i]? = some (Value.string ⟨l[i].2.toArray⟩) := by simp [lst, h]
theorem lin_at {l : List Int} {i : Nat} (h : i < l.length) : (lin l)[i]? = some (Value.int .i64 l[i]) := by simp [lin, h]
theorem lsl_snoc (l : List Bs) (x : Bs) : lsl (l ++ [x]) = lsl l ++ [.slice x.1.a x.1.len x.1.cap] := by simp [lsl]
theorem lst_snoc (l : List Bs) (x : Bs) : lst (l ++ [x]) = lst l ++ [.string ⟨x.2.toArray⟩] := by simp [lst]
theorem lin_snoc (l : List Int) (x : Int) : lin (l ++ [x]) = lin l ++ [.int .i64 x] := by simp [lin]
theorem lsl_app (a b : List Bs) : lsl (a ++ b) = lsl a ++ lsl b := by simp [lsl]
theorem lst_app (a b : List Bs) : lst (a ++ b) = lst a ++ lst b := by simp [lst]
theorem lsl_drop (l : List Bs) (n : Nat) : (lsl l).drop n = lsl (l.drop n) := by simp [lsl, List.map_drop]
theorem lst_drop (l : List Bs) (n : Nat) : (lst l).drop n = lst (l.drop n) := by simp [lst, List.map_drop]
theorem nthO_map {α β : Type} (f : α → β) (l : List α) {i : Nat} (hi : i < l.length) : nthO (l.map f) i = some (f l[i]) := by
  rw [nthO_get]; simp [hi]
theorem delO_map {α β : Type} (f : α → β) (l : List α) (i : Nat) : delO (l.map f) i = (l.eraseIdx i).map f := by
  induction l generalizing i with
  | nil => rfl
  | cons x r ih => cases i with
    | zero => rfl
    | succ i => simp [delO, ih]
theorem brw_at {E : TypeId} {l : List Bs} {i : Nat} (h : i < l.length) : nthO (l.map (brw E)) i = some (.row E 1 l[i].1 (bys l[i].2)) := nthO_map (brw E) l h
theorem setO_brw (E : TypeId) (l : List Bs) (i : Nat) (x : Bs) : setO (l.map (brw E)) i (brw E x) = (l.set i x).map (brw E) := by rw [setO_set, List.map_set]
theorem lsl_map (d : List Bs) : lsl d = (d.map (·.1)).map slv := by simp [lsl]

variable {w0 w : World} {G : Grps}
/-- What may be read as long as the rest stands. -/
def SeesG (w0 : World) (F : Grps) (p : Sl) (sz : Nat) (vs : List Value) : Prop := ∀ w, St w0 w F → Rd w p sz vs

/-- One that has grown: what it was is its beginning, or is left where it is. -/
def Far (E : TypeId) (x y : Bs) (g : List Ent) : Prop :=
  (∃ e, y.2 = x.2 ++ e) ∧ x.1.len = x.2.length ∧ y.1.len = y.2.length ∧ x.1.len ≤ x.1.cap ∧ (g = [brw E y] ∧ y.1.a = x.1.a ∨ g = [brw E y, brw E x])
theorem Far.reads {E : TypeId} {x y : Bs} {g : List Ent} (hf : Far E x y g) (h : St w0 w G) {k : Nat} {gs : List Ent} (hk : nthO G k = some gs) (hg : ∀ e ∈ g, e ∈ gs) : Rd w y.1 1 (bys y.2) ∧ Rd w x.1 1 (bys x.2) := by
  obtain ⟨⟨e, h1⟩, h2, h3, h4, h5⟩ := hf
  have hy : Rd w y.1 1 (bys y.2) := by
    have : brw E y ∈ gs := hg _ (by rcases h5 with ⟨h5, _⟩ | h5 <;> rw [h5] <;> simp)
    exact (h.memG k hk this).1.rd
  refine ⟨hy, ?_⟩
  rcases h5 with ⟨h5, ha⟩ | h5
  · have hp := hy.pre (hi := x.1.len) (by rw [h3, h1, List.length_append]; omega)
    rw [subS_zero] at hp
    refine ⟨by rw [bys_length, h2]; simp, ?_, h4⟩
    have e : (bys y.2).take (x.1.len * 1) = bys x.2 := by rw [h1, h2, Nat.mul_one, bys_append, List.take_append_of_le_length (by simp), List.take_of_length_le (by simp)]
    rw [e] at hp
    rcases hp.2.1 with h0 | ⟨b, o, hb, hc⟩
    · exact .inl h0
    · exact .inr ⟨b, o, by rw [← ha]; exact hb, hc⟩
  · have : brw E x ∈ gs := hg _ (by rw [h5]; simp)
    exact (h.memG k hk this).1.rd
theorem Grow.far {E : TypeId} {q : Sl} {v : List UInt8} {d : Sl} {e : List UInt8} (hg : Grow E w0 w q v d e G) (hc : q.len ≤ q.cap) : ∃ g, Far E (q, v) (d, v ++ e) g ∧ St w0 w (g :: G) := by
  obtain ⟨h1, h2, h3⟩ := hg
  rcases h3 with ⟨ha, hcap, h⟩ | h
  · exact ⟨_, ⟨⟨e, rfl⟩, h1, by dsimp only; rw [h2]; simp, hc, .inl ⟨rfl, ha⟩⟩, h⟩
  · exact ⟨_, ⟨⟨e, rfl⟩, h1, by dsimp only; rw [h2]; simp, hc, .inr rfl⟩, h⟩

def bI (x : Int) : UInt8 := UInt8.ofNat x.toNat
theorem bI_of {x : Int} (h : ∃ y, x = IntKind.u8.wrap y) : Value.int .u8 x = u8v (bI x) ∧ ((bI x).toNat : Int) = x := by
  obtain ⟨y, rfl⟩ := h
  have h : 0 ≤ IntKind.u8.wrap y ∧ IntKind.u8.wrap y ≤ 255 := by rw [IntKind.wrap_u8]; omega
  have h2 : ((bI (IntKind.u8.wrap y)).toNat : Int) = IntKind.u8.wrap y := by
    rw [bI, UInt8.toNat_ofNat']; omega
  exact ⟨by rw [u8v, h2], h2⟩
/-- The byte of a number. -/
def by8 (x : Int) : UInt8 := bI (IntKind.u8.wrap x)
theorem by8_v (x : Int) : Value.int .u8 (IntKind.u8.wrap x) = u8v (by8 x) := (bI_of ⟨x, rfl⟩).1
theorem by8_n (x : Int) : ((by8 x).toNat : Int) = IntKind.u8.wrap x := (bI_of ⟨x, rfl⟩).2

/-! ### what is made of zeros -/
section
variable {P : Program}
theorem made_one (z0 : Value) (n : Nat) : (madeCells #[z0] n).toList = List.replicate n z0 := by
  refine List.ext_getElem (by simp [madeCells]) fun i h1 h2 => ?_
  simp only [madeCells, Array.toList_map, Array.toList_range, List.getElem_map, List.getElem_range, List.getElem_replicate]
  have : i % (#[z0] : Array Value).size = 0 := by simp [Nat.mod_one]
  rw [this]; rfl
theorem St.makeN (h : St w0 w G) {t e : TypeId} {by_ : Nat} [et : Et P t e 1 by_] (z0 : Value) (hz : ((P.info? e).bind fun i => i.zero.map (·.cells)) = some #[z0]) (h1 : z0.oneCell' = true) {kl kc : IntKind} {l c : Int} (n : Nat) (hl : l = (n : Int)) (hc : c = (n : Int)) (hb : (by_ : Int) * n ≤ 281474976710656) (h63 : n ≤ 9223372036854775807) {K : Sl → World → Prop}
    (hk : ∀ (s' : Sl) w', s'.len = n → s'.cap = n → St w0 w' ([.row e 1 s' (List.replicate n z0)] :: G) → K s' w') :
    RunN P .sl (V (Instr.makeSlice t (.int kl l) (.int kc c))) w K := by
  subst hl; subst hc
  obtain ⟨i, z, hi, hzz, e1, e2, e3⟩ := et.h.hi
  have hzc : z.cells = #[z0] := by
    rw [hi] at hz; simp [hzz] at hz; exact hz
  have hr := run_make (P := P) w t e i z et.h.ht hi hzz kl kc n n (by omega) (Int.le_refl _) (by rw [e2]; exact hb) (by omega)
  rw [e1, hzc, Int.toNat_natCast, Nat.mul_one] at hr
  refine RunN.of (kd := .sl) (x := ⟨some ⟨w.heap.size, 0, none⟩, n, n⟩) hr (hk _ _ rfl rfl (h.new (Upd.alloc _ _ _) ⟨?_, fun v hv => ?_⟩ fun j hj => ?_))
  · have hl := made_one z0 n
    have := Ow.lit (w := w) (e := e) (sz := 1) (n := n) (c := n) (cs := (madeCells #[z0] n).toList) h.upd.size (Nat.le_refl n) (by simp only [maxLen]; omega) (by rw [hl]; simp)
    rw [hl, Nat.mul_one, List.take_of_length_le (by simp)] at this
    have e4 : (⟨List.replicate n z0⟩ : Array Value) = madeCells #[z0] n := by rw [← hl]
    rw [e4] at this
    exact this
  · simp only [Ent.vals] at hv
    rw [(List.mem_replicate.1 hv).2]; exact h1
  · simp [Ent.blk, Sl.blk] at hj; omega
end
end Go.Fw
