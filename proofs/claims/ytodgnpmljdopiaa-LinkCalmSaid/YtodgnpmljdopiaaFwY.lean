/- Groups in another order, some of them left; a loop's measure that looks at memory. -/
import Derived.Test.YtodgnpmljdopiaaFwX
import Derived.Test.YtodgnpmljdopiaaFwW
set_option linter.unusedVariables false
set_option linter.unusedSimpArgs false
namespace Go.Fw
open Go Go.RowKit
variable {w0 w : World} {G : Grps}
def pick (G : Grps) : List Nat → Grps → Grps
  | [], T => T
  | i :: r, T => match nthO G i with | some g => g :: pick G r T | none => pick G r T
def dropO : Nat → Grps → Grps
  | 0, l => l
  | _ + 1, [] => []
  | n + 1, _ :: r => dropO n r
theorem pick_eq (G : Grps) (is : List Nat) (T : Grps) : pick G is T = is.filterMap (nthO G) ++ T := by
  induction is with
  | nil => rfl
  | cons i r ih => simp only [pick, List.filterMap_cons]; split <;> simp_all
theorem dropO_eq (G : Grps) (n : Nat) : dropO n G = G.drop n := by
  induction n generalizing G with
  | zero => rfl
  | succ n ih => cases G with
    | nil => rfl
    | cons x r => simp [dropO, ih]
theorem range_nth (G : Grps) (n : Nat) : (List.range n).filterMap (nthO G) = G.take n := by
  induction n with
  | zero => rfl
  | succ n ih =>
    rw [List.range_succ, List.filterMap_append, ih, List.take_add_one]
    congr 1
    simp only [List.filterMap_cons, List.filterMap_nil, nthO_get]
    cases G[n]? <;> rfl
/-- The first n groups in this order; those that are not named are left. -/
theorem St.ord (h : St w0 w G) (n : Nat) (is : List Nat) (hp : (is ++ (List.range n).filter (fun i => !is.contains i)).isPerm (List.range n) = true := by decide) : St w0 w (pick G is (dropO n G)) := by
  have hp := List.isPerm_iff.1 hp
  have h1 := hp.filterMap (nthO G)
  rw [range_nth, List.filterMap_append] at h1
  have h2 : G.Perm (((List.range n).filter (fun i => !is.contains i)).filterMap (nthO G) ++ (is.filterMap (nthO G) ++ G.drop n)) := by
    conv => lhs; rw [← List.take_append_drop n G]
    rw [← List.append_assoc]
    exact (h1.symm.trans List.perm_append_comm).append_right _
  rw [pick_eq, dropO_eq]
  generalize ((List.range n).filter (fun i => !is.contains i)).filterMap (nthO G) = X at h2
  have h3 := (h.perm h2.flatten).fl
  rw [List.flatten_append] at h3
  exact ⟨⟨h3.upd, fun e he => h3.ok e (List.mem_append_right _ he), (List.pairwise_append.1 h3.ap).2.1⟩⟩
theorem mkW {α : Type} {body : α → World → (α → World → Prop) → Prop} {s : α} {w : World} (I : α → World → Prop) (μ : α → World → Nat) (h0 : I s w) (h : ∀ s w, I s w → ∀ k : α → World → Prop, (∀ s' w', I s' w' → μ s' w' < μ s w → k s' w') → body s w k) : LoopX body s w :=
  ⟨I, μ, h0, fun s w hI => h s w hI _ fun s' w' h1 h2 => ⟨h1, h2⟩⟩
theorem St.ob (h : St w0 w G) {k i b : Nat} {o : Obj} (he : Has G k i (.obj b o)) : w.heap[b]? = some o := (h.ent he).1.2
/-- Another object in its place. -/
theorem St.setOb (h : St w0 w G) {k i b : Nat} {o : Obj} (he : Has G k i (.obj b o)) (o' : Obj) : St w0 { w with heap := w.heap.setIfInBounds b o' } (updG G k i [.obj b o']) := by
  have hob := h.ob he
  have hlt := lt_of_obj hob
  refine h.change1 he ⟨rfl, rfl, rfl, by simp, fun j hj hs => ?_⟩ ⟨⟨(h.ent he).1.1, by simp [hlt]⟩, fun v hv => by simp [Ent.vals] at hv⟩ fun j hj => .inl hj
  have : b ≠ j := fun e => hs (by subst e; rfl)
  simp [Array.getElem?_setIfInBounds, this]
/-- A new object. -/
theorem St.newOb (h : St w0 w G) (o : Obj) : St w0 (w.alloc o) ([.obj w.heap.size o] :: G) :=
  h.new (Upd.alloc _ _ _) ⟨⟨h.upd.size, heap_alloc_new w o⟩, fun v hv => by simp [Ent.vals] at hv⟩ fun j hj => by simp [Ent.blk] at hj; omega
/-- A number in memory. -/
def cellN (b i : Nat) (w : World) : Nat := match w.cell? ⟨b, i, none⟩ with | some (.int _ n) => n.toNat | _ => 0
theorem cellN_of (h : St w0 w G) {k i b : Nat} {t : TypeId} {cs : List Value} (he : Has G k i (.cel b t cs)) {m : Nat} {kk : IntKind} {n : Nat} (hv : nthO cs m = some (.int kk (n : Int))) : cellN b m w = n := by
  unfold cellN
  rw [(h.blk he).cell, ← nthO_get, hv]
  simp
theorem bys_copy (x y : List UInt8) (lo k : Nat) : (bys x).take (lo * 1) ++ (bys y).take (k * 1) ++ (bys x).drop ((lo + k) * 1) = bys (x.take lo ++ y.take k ++ x.drop (lo + k)) := by
  simp [bys, List.map_take, List.map_drop]
theorem bys_take (x : List UInt8) (n : Nat) : (bys x).take (n * 1) = bys (x.take n) := by simp [bys, List.map_take]
theorem bys_drop (x : List UInt8) (n : Nat) : (bys x).drop (n * 1) = bys (x.drop n) := by simp [bys, List.map_drop]
theorem bys_rep (n : Nat) : List.replicate n (Value.int .u8 0) = bys (List.replicate n 0) := by rw [bys, List.map_replicate]; rfl
end Go.Fw
