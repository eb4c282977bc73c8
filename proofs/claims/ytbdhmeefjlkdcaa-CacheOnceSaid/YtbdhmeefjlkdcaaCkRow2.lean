/- What two more laws of the cache read of their arguments. -/
import Derived.Test.YtbdhmeefjlkdcaaCkOy
namespace Go.Proofs.Ytbdhmeefjlkdcaa
open Go.ChangeShapes Go.WideShapes Go.ChangeAt Go.RowKit Go Go.Fw
set_option linter.unusedVariables false
set_option linter.unusedSimpArgs false
set_option maxRecDepth 20000

theorem u50 : Try.prog.underlying 50 = some (.slice 3) := by kernel_rfl
theorem ints_of {H : Type} {enc : TypeId × Value → H} {W : World} {base b : Nat} {spare : Nat → Bool} {held : Bool} {v : Value} {d : DataW H} {ps : List MemPlace} (hval : Value.okWide Try.prog W .any b 50 v)
    (hd : DataW.Trod enc Try.prog W base spare held 50 v d ps) (hw : Wt Try.prog 50 d) : ∃ (s : Sl) (os : List Int), v = .slice s.a s.len s.cap ∧ Rd W s 1 (lin os) := by
  obtain ⟨a0, len, cap, rfl⟩ := okWide_slice u50 hval
  obtain ⟨fuel0, hf⟩ := hd
  obtain ⟨s, els, hcs, hl, hr, _, hel⟩ := open_rd u50 (sz := 1) (by kernel_rfl) (by decide) hf hw
  have : ∃ os : List Int, els.flatten = lin os := by
    clear hl hr hcs
    induction els with
    | nil => exact ⟨[], rfl⟩
    | cons c r ih =>
      obtain ⟨os, e⟩ := ih fun c hc => hel c (List.mem_cons_of_mem _ hc)
      obtain ⟨hc1, n, y, hy, hwy⟩ := hel c (List.mem_cons_self ..)
      obtain ⟨x, hx, _, _⟩ := DataW.trod_int u3 hy
      subst hx
      exact ⟨x :: os, by rw [List.flatten_cons, e]; rfl⟩
  obtain ⟨os, e⟩ := this
  rw [e] at hr
  simp [Value.cells] at hcs
  obtain ⟨rfl, rfl, rfl⟩ := hcs
  exact ⟨s, os, rfl, hr⟩
theorem trodAll_three {H : Type} {enc : TypeId × Value → H} {P : Program} {w : World} {base : Nat} {spare : Nat → Bool} {held : Bool} {t0 t1 t2 : TypeId} {args : Array Value} {ds : List (DataW H)} {ps : List MemPlace} (h : DataW.TrodAll enc P w base spare held [t0, t1, t2] args.toList ds ps) :
    ∃ v0 v1 v2 d0 d1 d2 p0 p1 p2, args = #[v0, v1, v2] ∧ ds = [d0, d1, d2] ∧ ps = p0 ++ (p1 ++ p2) ∧ DataW.Trod enc P w base spare held t0 v0 d0 p0 ∧ DataW.Trod enc P w base spare held t1 v1 d1 p1 ∧ DataW.Trod enc P w base spare held t2 v2 d2 p2 := by
  obtain ⟨v0, vs0, d0, ds0, p0, q0, hargs, rfl, rfl, h0, h⟩ := trodAll_cons h
  obtain ⟨v1, vs1, d1, ds1, p1, q1, rfl, rfl, rfl, h1, h⟩ := trodAll_cons h
  obtain ⟨v2, vs2, d2, ds2, p2, q2, rfl, rfl, rfl, h2, h⟩ := trodAll_cons h
  obtain ⟨rfl, rfl, rfl⟩ := trodAll_nil h
  exact ⟨v0, v1, v2, d0, d1, d2, p0, p1, p2, by cases args; simp_all, rfl, by simp, h0, h1, h2⟩
theorem law6 {W : World} {s : Sl} {os : List Op5} (hs : Rd W s 5 (opvs os)) (a b : Int) : CallK Try.prog .bool 6 #[.int .i64 a, .int .i64 b, .slice s.a s.len s.cap] W fun (r : Bool) w' => Upd W w' nobody ∧ r = true :=
  (once_st hs a b).mono fun _ _ h => ⟨h.2, h.1⟩
theorem law7 {W : World} {s : Sl} {os : List Int} (hs : Rd W s 1 (lin os)) (a b : Int) : CallK Try.prog .bool 7 #[.int .i64 a, .int .i64 b, .slice s.a s.len s.cap] W fun (r : Bool) w' => Upd W w' nobody ∧ r = true :=
  (order_st hs a b).mono fun _ _ h => ⟨h.2, h.1⟩
end Go.Proofs.Ytbdhmeefjlkdcaa
