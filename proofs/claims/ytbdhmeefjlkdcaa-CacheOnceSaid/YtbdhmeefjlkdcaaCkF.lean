/- The cache in memory of one's own; whose session it is. -/
import Derived.Test.YtbdhmeefjlkdcaaCkE
namespace Go.Proofs.Ytbdhmeefjlkdcaa
open Go Go.Fw Go.RowKit
set_option linter.unusedVariables false
set_option linter.unusedSimpArgs false
set_option maxRecDepth 4000
set_option maxHeartbeats 2000000
variable {w0 w : World} {F G : Grps}

structure Cc where
  cb : Nat
  mb : Nat
  me : Nat
  reps : Nat
  sess : Nat
  room : Nat
  ss : List Ses
def ccM (c : Cc) : M2 := (c.ss.zipIdx).map fun x => (((c.me : Int), ((c.me + x.2 * c.reps : Nat) : Int)), .pointer (some ⟨x.1.b, 0, none⟩))
def ccC (c : Cc) : List Value := [.int .i64 (c.me : Int), .int .i64 (c.reps : Int), .int .i64 (c.sess : Int), .int .i64 (c.room : Int), .map (some c.mb)]
def ccG (c : Cc) (F : Grps) : Grps := [.cel c.cb 64 (ccC c), .obj c.mb (m2o (ccM c))] :: c.ss.map sesE :: c.ss.map sesR :: F
def Cc.p (c : Cc) : Option Addr := some ⟨c.cb, 0, none⟩
/-- What holds of one session. -/
structure SesW (room N : Nat) (s : Ses) : Prop where
  wf : s.wf
  n : s.n ≤ room
  sorted : s.pend.Pairwise (· < ·)
  len : s.pend.length ≤ N
  last : 0 ≤ s.last ∧ s.last ≤ 1099511627776
  low : ∀ x ∈ s.pend, x ≤ s.last
structure Cc.wf (c : Cc) (N : Nat) : Prop where
  reps : 2 ≤ c.reps ∧ c.reps ≤ 16
  me : c.me < c.reps
  sess : 1 ≤ c.sess ∧ c.sess ≤ 64
  room : 1 ≤ c.room ∧ c.room ≤ 16
  len : ∀ j, j < c.ss.length ↔ c.me + j * c.reps < c.sess
  ses : ∀ s ∈ c.ss, SesW c.room N s
/-- The number of an own session. -/
def Cc.own (c : Cc) (x : Int) (j : Nat) : Prop := j < c.ss.length ∧ x = ((c.me + j * c.reps : Nat) : Int)
theorem own_inj {c : Cc} (hr : 2 ≤ c.reps) {x : Int} {i j : Nat} (h1 : c.own x i) (h2 : c.own x j) : i = j := by
  have h3 := h1.2
  rw [h2.2] at h3
  have h4 : j * c.reps = i * c.reps := by omega
  exact (Nat.eq_of_mul_eq_mul_right (by omega) h4).symm
theorem ccM_at (c : Cc) (j : Nat) (hj : j < c.ss.length) : (ccM c)[j]? = some (((c.me : Int), ((c.me + j * c.reps : Nat) : Int)), .pointer (some ⟨c.ss[j].b, 0, none⟩)) := by
  simp [ccM, hj]
theorem ccM_len (c : Cc) : (ccM c).length = c.ss.length := by simp [ccM]
theorem ccM_get {c : Cc} (hr : 2 ≤ c.reps) {x : Int} {j : Nat} (h : c.own x j) : m2get (ccM c) ((c.me : Int), x) = some (.pointer (some ⟨(c.ss[j]'h.1).b, 0, none⟩)) := by
  have : (ccM c).find? (fun y => ((c.me : Int), x) == y.1) = some (((c.me : Int), ((c.me + j * c.reps : Nat) : Int)), .pointer (some ⟨(c.ss[j]'h.1).b, 0, none⟩)) := by
    rw [List.find?_eq_some_iff_getElem]
    refine ⟨by simp [h.2], j, by rw [ccM_len]; exact h.1, ?_, fun i hi => ?_⟩
    · have := ccM_at c j h.1
      rw [List.getElem?_eq_getElem (by rw [ccM_len]; exact h.1)] at this
      exact Option.some.inj this
    · have h1 : i < c.ss.length := by have := h.1; omega
      have h2 := ccM_at c i h1
      rw [List.getElem?_eq_getElem (by rw [ccM_len]; exact h1)] at h2
      rw [Option.some.inj h2]
      simp only [Bool.not_eq_true', beq_eq_false_iff_ne, ne_eq, Prod.mk.injEq, true_and]
      intro he
      have := own_inj hr h ⟨h1, he⟩
      omega
  rw [m2get, this]; rfl
theorem ccM_none {c : Cc} {x : Int} (h : ∀ j, ¬ c.own x j) : m2get (ccM c) ((c.me : Int), x) = none := by
  have : (ccM c).find? (fun y => ((c.me : Int), x) == y.1) = none := by
    rw [List.find?_eq_none]
    intro y hy
    obtain ⟨j, hj, rfl⟩ := List.mem_iff_getElem.1 hy
    rw [ccM_len] at hj
    have h2 := ccM_at c j hj
    rw [List.getElem?_eq_getElem (by rw [ccM_len]; exact hj)] at h2
    rw [Option.some.inj h2]
    simp only [beq_iff_eq, Prod.mk.injEq, true_and]
    exact fun he => h j ⟨hj, he⟩
  rw [m2get, this]; rfl
theorem of_st {c : Cc} (h : St w0 w (ccG c F)) (hr : 2 ≤ c.reps) (x : Int) {K : Option Addr → World → Prop} (hs : ∀ w' j (hj : c.own x j), St w0 w' (ccG c F) → K (c.ss[j]'hj.1).p w') (hn : ∀ w', (∀ j, ¬ c.own x j) → St w0 w' (ccG c F) → K none w') :
    CallK Try.prog .ptr 23 #[.pointer c.p, .int .i64 x] w K := by
  refine T23.calls ?_
  unfold T23
  refine NilP.mk ?_
  refine h.drew.readB 0 0 ⟨_, rfl, rfl⟩ rfl (kd := .map) (x := some c.mb) rfl ?_
  refine NilP.mk ?_
  refine h.drew.readB 0 0 ⟨_, rfl, rfl⟩ rfl rfl ?_
  by_cases hx : ∃ j, c.own x j
  · obtain ⟨j, hj⟩ := hx
    exact h.drew.lookR 0 1 ⟨_, rfl, rfl⟩ map62 zero65 (some ⟨(c.ss[j]'hj.1).b, 0, none⟩) (ccM_get hr hj) (hs _ j hj h.drew)
  · have hx : ∀ j, ¬ c.own x j := fun j hj => hx ⟨j, hj⟩
    exact h.drew.lookR 0 1 ⟨_, rfl, rfl⟩ map62 zero65 none (ccM_none hx) (hn _ hx h.drew)
/-! ### one session in the midst of them -/
def Cc.set (c : Cc) (j : Nat) (s : Ses) : Cc := { c with ss := c.ss.set j s }
theorem ccM_set (c : Cc) (j : Nat) (s : Ses) (hj : j < c.ss.length) (hb : s.b = (c.ss[j]).b) : ccM (c.set j s) = ccM c := by
  refine List.ext_getElem? fun m => ?_
  by_cases hm : m < c.ss.length
  · rw [ccM_at c m hm, ccM_at (c.set j s) m (by simpa [Cc.set] using hm)]
    simp only [Cc.set, List.getElem_set]
    split
    · rename_i he; subst he; rw [hb]
    · rfl
  · rw [List.getElem?_eq_none (by rw [ccM_len]; show (c.ss.set j s).length ≤ m; simp; omega), List.getElem?_eq_none (by rw [ccM_len]; omega)]
theorem has_e {c : Cc} {j : Nat} (hj : j < c.ss.length) : Has (ccG c F) 1 j (sesE c.ss[j]) := ⟨_, rfl, nthO_map sesE _ hj⟩
theorem has_r {c : Cc} {j : Nat} (hj : j < c.ss.length) : Has (ccG c F) 2 j (sesR c.ss[j]) := ⟨_, rfl, nthO_map sesR _ hj⟩
/-- Both pieces of a session are others. -/
theorem set_st {c : Cc} {j : Nat} (hj : j < c.ss.length) {s : Ses} (hb : s.b = (c.ss[j]).b) (h : St w0 w (updG (updG (ccG c F) 2 j [sesR s]) 1 j [sesE s])) : St w0 w (ccG (c.set j s) F) := by
  have e : updG (updG (ccG c F) 2 j [sesR s]) 1 j [sesE s] = ccG (c.set j s) F := by
    simp only [ccG, updG, setO_set]
    rw [ccM_set c j s hj hb]
    simp only [ccC, Cc.set, List.map_set]
  rw [← e]; exact h
theorem set_e {c : Cc} {j : Nat} (hj : j < c.ss.length) {s : Ses} (hb : s.b = (c.ss[j]).b) (hq : s.q = (c.ss[j]).q) (hp : s.pend = (c.ss[j]).pend) (h : St w0 w (updG (ccG c F) 1 j [sesE s])) : St w0 w (ccG (c.set j s) F) := by
  refine set_st hj hb ?_
  have e : sesR s = sesR c.ss[j] := by simp only [sesR, hq, hp]
  rw [e, upd_self (has_r hj)]
  exact h
theorem last_st {c : Cc} (h : St w0 w (ccG c F)) (hr : 2 ≤ c.reps) (x : Int) : CallK Try.prog (.int .i64) 19 #[.pointer c.p, .int .i64 x] w fun (r : Int) w' => St w0 w' (ccG c F) ∧ ((∃ j, ∃ hj : c.own x j, r = (c.ss[j]'hj.1).last) ∨ ((∀ j, ¬ c.own x j) ∧ r = 0)) := by
  refine T19.calls ?_
  unfold T19
  refine of_st h hr x (fun w' j hj h => ?_) (fun w' hn h => ?_)
  · refine RunN.pNeS ?_
    rw [SplitB_iff]
    refine ⟨fun _ => ?_, fun hc => by cases hc⟩
    refine NilP.mk ?_
    refine h.loadB 1 j (has_e hj.1) rfl rfl ?_
    exact ⟨h, .inl ⟨j, hj, rfl⟩⟩
  · refine RunN.pNeN ?_
    rw [SplitB_iff]
    exact ⟨fun hc => (by cases hc), fun _ => ⟨h, .inr ⟨hn, rfl⟩⟩⟩
end Go.Proofs.Ytbdhmeefjlkdcaa
