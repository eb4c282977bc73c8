/- The laws of every Seal, of every Open, of all calls. -/
import Derived.Test.YtaocddmmgefeoaaDoorFsE
import Derived.Test.YtaocddmmgefeoaaDoorTFz
import Derived.Test.YtaocddmmgefeoaaDoorFrL
namespace Go.Proofs.YtaocddmmgefeoaaDoor
open Go Go.Fw Go.RowKit Go.Frm
set_option linter.unusedVariables false
set_option linter.unusedSimpArgs false
set_option maxRecDepth 4000
set_option maxHeartbeats 2000000
variable {w0 w : World} {F : Grps} {n : Nat} {s : Sh}

/-- A new shelf. -/
theorem shelf_new {Q : Nat} (h : St w0 w ([.cel Q 28 [.slice none 0 0, .slice none 0 0, .int .i64 0, .slice none 0 0, .slice none 0 0, .slice none 0 0]] :: F)) :
    ∃ s : Sh, s.Q = Q ∧ s.Ok 0 ∧ St w0 w (s.gs F) := by
  have h := (h.nilrow 22 1).back 1
  have h := (St.empty.2 h).back 2
  have h := (h.nilrow 9 1).back 3
  have h := (h.nilrow 5 1).back 4
  have h := (h.nilrow 22 1).back 5
  have h := (St.empty.2 h).back 6
  have h := (h.nilrow 9 1).back 7
  dsimp only [insO] at h
  refine ⟨⟨Q, ⟨none, 0, 0⟩, [], [], ⟨none, 0, 0⟩, 0, ⟨none, 0, 0⟩, [], ⟨none, 0, 0⟩, [], ⟨none, 0, 0⟩⟩, rfl, ⟨rfl, fun k h1 => by simp at h1, by simp, by simp, by simp, by simp⟩, h⟩
theorem alive_st {wi : World} (ht : Tab wi) : CallK Tryd.prog .bool 11 #[] wi fun (r : Bool) w' => r = true ∧ St wi w' [] :=
  (alive_ok ht).mono fun r w' ⟨hu, hr⟩ => ⟨hr, (St.init wi).keep hu⟩
/-- A copy, one of its bytes another one. -/
theorem turned_st {wi : World} {p : Sl} {l : List UInt8} (hr : Rd wi p 1 (bys l)) (hl : l.length ≤ 65536) : CallK Tryd.prog .sl 12 #[.slice p.a p.len p.cap] wi fun (r : Sl) w' => ∃ l', l'.length = l.length ∧ St wi w' [[.row 5 1 r (bys l')]] := by
  have hpl := hr.bys_len
  have h := St.init wi
  refine T12.calls ?_
  unfold T12
  refine h.appNil hr (bys_one _) (by simp only [maxLen]; omega) (by omega) ?_
  intro q w hq h
  rw [SplitB_iff]
  refine ⟨fun hc => ?_, fun hc => ?_⟩
  · have hc : 0 < l.length := by have := of_decide_eq_true hc; omega
    have hd : IntKind.i64.wrap (Int.tdiv (q.len : Int) 2) = ((l.length / 2 : Nat) : Int) := by
      rw [hq, hpl, Int.tdiv_eq_ediv_of_nonneg (by omega), wr (by omega)]; omega
    have hlt : l.length / 2 < l.length := by omega
    refine (h.rd (k := 0) (i := 0) ⟨_, rfl, rfl⟩).idxK (l.length / 2) hd (by omega) ?_
    intro b o hb
    refine (h.rd (k := 0) (i := 0) ⟨_, rfl, rfl⟩).el hb (l.length / 2 * 1) rfl (kd := .int .u8) (x := (l[l.length / 2].toNat : Int)) (by rw [Nat.mul_one]; exact bys_get hlt) ?_
    refine (h.rd (k := 0) (i := 0) ⟨_, rfl, rfl⟩).idxK (l.length / 2) hd (by omega) ?_
    intro b o hb
    obtain ⟨x, hx, _⟩ : ∃ x : UInt8, Value.int .u8 (bitXor .u8 (l[l.length / 2].toNat : Int) 1) = u8v x ∧ True := ⟨bI (bitXor .u8 (l[l.length / 2].toNat : Int) 1), (bI_of ⟨_, rfl⟩).1, trivial⟩
    rw [hx]
    refine h.storR 0 0 ⟨_, rfl, rfl⟩ hb (l.length / 2) (by rw [Nat.mul_one]) (by simpa using hlt) rfl ?_
    intro w h
    rw [Go.Fw.bys_set] at h
    exact ⟨l.set (l.length / 2) x, by simp, h⟩
  · exact ⟨l, rfl, h⟩

theorem law3 {wi : World} {p : Sl} {l : List UInt8} (hr : Rd wi p 1 (bys l)) (ht : Tab wi) : CallK Tryd.prog .bool 3 #[.slice p.a p.len p.cap] wi fun (r : Bool) w' => Upd wi w' nobody ∧ r = true := by
  refine T3.calls ?_
  unfold T3
  have hpl := hr.bys_len
  rw [SplitB_iff]
  refine ⟨fun hc => ?_, fun hc => ?_⟩
  · exact ⟨Upd.refl _ _, rfl⟩
  have hl : l.length ≤ 65536 := by have := of_decide_eq_false hc; omega
  refine (alive_st ht).mono ?_
  rintro r w ⟨rfl, h⟩
  refine h.newB run_boxA rfl ?_
  intro Q w h
  refine (turned_st (h.old hr) hl).mono ?_
  rintro other w ⟨l', hl', ho⟩
  have h := (h.join ho).bring 1 rfl
  dsimp only [delO, List.cons_append, List.nil_append] at h
  obtain ⟨s, rfl, ok, h⟩ := shelf_new h
  rw [SplitB_iff]
  refine ⟨fun hz => ?_, fun hz => ?_⟩
  · have hp : SeesG wi ([.row 5 1 other (bys l')] :: []) p 1 (bys l) := fun w h => h.old hr
    have hp' : SeesG wi ([.row 5 1 other (bys l')] :: []) other 1 (bys l') := fun w h => h.rd (k := 0) (i := 0) ⟨_, rfl, rfl⟩
    refine (seals_st h ok (by omega) ht hp hl).mono ?_
    rintro r w ⟨rfl, s1, hQ1, ok1, h⟩
    rw [SplitB_iff]
    refine ⟨fun hz => ?_, fun hz => ?_⟩
    · rw [← hQ1]
      refine (seals_st h ok1 (by omega) ht hp' (by omega)).mono ?_
      rintro r w ⟨rfl, s2, hQ2, ok2, h⟩
      rw [SplitB_iff]
      refine ⟨fun hz => ?_, fun hz => ?_⟩
      · rw [← hQ2]
        refine (seals_st h ok2 (by omega) ht hp hl).mono ?_
        rintro r w ⟨rfl, s3, hQ3, ok3, h⟩
        rw [SplitB_iff]
        refine ⟨fun hz => ?_, fun hz => ?_⟩
        · rw [← hQ3]
          refine (seals_st h ok3 (by omega) ht hp hl).mono ?_
          rintro r w ⟨rfl, s4, hQ4, ok4, h⟩
          rw [SplitB_iff]
          refine ⟨fun hz => ?_, fun hz => ?_⟩
          · rw [← hQ4]
            refine (apart_st h ok4 (by omega)).mono ?_
            rintro r w ⟨rfl, h⟩
            exact ⟨h.upd, rfl⟩
          · cases hz
        · cases hz
      · cases hz
    · cases hz
  · cases hz
theorem law4 {wi : World} {p : Sl} {l : List UInt8} (hr : Rd wi p 1 (bys l)) (ht : Tab wi) : CallK Tryd.prog .bool 4 #[.slice p.a p.len p.cap] wi fun (r : Bool) w' => Upd wi w' nobody ∧ r = true := by
  refine T4.calls ?_
  unfold T4
  have hpl := hr.bys_len
  rw [SplitB_iff]
  refine ⟨fun hc => ?_, fun hc => ?_⟩
  · exact ⟨Upd.refl _ _, rfl⟩
  have hl : l.length ≤ 65536 := by have := of_decide_eq_false hc; omega
  refine (alive_st ht).mono ?_
  rintro r w ⟨rfl, h⟩
  refine h.newB run_boxA rfl ?_
  intro Q w h
  refine (turned_st (h.old hr) hl).mono ?_
  rintro other w ⟨l', hl', ho⟩
  have h := (h.join ho).bring 1 rfl
  dsimp only [delO, List.cons_append, List.nil_append] at h
  obtain ⟨s, rfl, ok, h⟩ := shelf_new h
  rw [SplitB_iff]
  refine ⟨fun hz => ?_, fun hz => ?_⟩
  · have hp : SeesG wi ([.row 5 1 other (bys l')] :: []) p 1 (bys l) := fun w h => h.old hr
    have hp' : SeesG wi ([.row 5 1 other (bys l')] :: []) other 1 (bys l') := fun w h => h.rd (k := 0) (i := 0) ⟨_, rfl, rfl⟩
    refine (opens_st h ok (by omega) ht hp hl).mono ?_
    rintro r w ⟨rfl, s1, hQ1, ok1, h⟩
    rw [SplitB_iff]
    refine ⟨fun hz => ?_, fun hz => ?_⟩
    · rw [← hQ1]
      refine (opens_st h ok1 (by omega) ht hp' (by omega)).mono ?_
      rintro r w ⟨rfl, s2, hQ2, ok2, h⟩
      rw [SplitB_iff]
      refine ⟨fun hz => ?_, fun hz => ?_⟩
      · rw [← hQ2]
        refine (opens_st h ok2 (by omega) ht hp hl).mono ?_
        rintro r w ⟨rfl, s3, hQ3, ok3, h⟩
        rw [SplitB_iff]
        refine ⟨fun hz => ?_, fun hz => ?_⟩
        · rw [← hQ3]
          refine (opens_st h ok3 (by omega) ht hp hl).mono ?_
          rintro r w ⟨rfl, s4, hQ4, ok4, h⟩
          rw [SplitB_iff]
          refine ⟨fun hz => ?_, fun hz => ?_⟩
          · rw [← hQ4]
            refine (apart_st h ok4 (by omega)).mono ?_
            rintro r w ⟨rfl, h⟩
            exact ⟨h.upd, rfl⟩
          · cases hz
        · cases hz
      · cases hz
    · cases hz
  · cases hz
end Go.Proofs.YtaocddmmgefeoaaDoor
