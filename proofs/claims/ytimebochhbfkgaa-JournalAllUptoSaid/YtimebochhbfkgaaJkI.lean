/- The journal: Append. -/
import Derived.Test.YtimebochhbfkgaaJkH
namespace Go.Proofs.Ytimebochhbfkgaa
open Go Go.Fw Go.RowKit
set_option linter.unusedVariables false
set_option linter.unusedSimpArgs false
set_option maxRecDepth 4000
set_option maxHeartbeats 2000000
variable {w0 w : World} {F G : Grps} {d : D} {j : J}

/-! ### what Append comes to -/
def chunk (b : List UInt8) (p : Nat) : List UInt8 := (b.drop (p * 496)).take 496 ++ List.replicate (496 - ((b.drop (p * 496)).take 496).length) 0
def sec (a : Nat) (b : List UInt8) (p : Nat) : List UInt8 := mk a p b.length ++ chunk b p ++ mk a p b.length
def secs (a : Nat) (b : List UInt8) : List (List UInt8) := (List.range (cnt b.length)).map (sec a b)
theorem chunk_len (b : List UInt8) (p : Nat) : (chunk b p).length = 496 := by
  have : ((b.drop (p * 496)).take 496).length ≤ 496 := by simp; omega
  simp only [chunk, List.length_append, List.length_replicate]; omega
theorem sec_len (a : Nat) (b : List UInt8) (p : Nat) : (sec a b p).length = 512 := by simp [sec, chunk_len]
theorem secs_len (a : Nat) (b : List UInt8) : (secs a b).length = cnt b.length := by simp [secs]
theorem secs_drop (a : Nat) (b : List UInt8) {p : Nat} (hp : p < cnt b.length) : (secs a b).drop p = sec a b p :: (secs a b).drop (p + 1) := by
  rw [List.drop_eq_getElem_cons (by rw [secs_len]; exact hp)]
  simp [secs]
def A.puts (a : A) (n : Nat) : List (List UInt8) → Int × A
  | [] => (0, a)
  | c :: r => if (a.write n c).1 ≠ 0 then (200, (a.write n c).2) else (a.write n c).2.puts (n + 1) r
structure JA where
  recs : List (List UInt8)
  next : Nat
  dead : Bool
def J.abs (j : J) : JA := ⟨j.recs.map (·.2), j.next, j.dead⟩
def JA.append (x : JA) (a : A) (b : List UInt8) : Int × JA × A :=
  if x.dead = true ∨ a.off = true then (200, { x with dead := true }, a)
  else if b.length > 8192 then (2, x, a)
  else if (cnt b.length : Int) > (a.ims.length : Int) - x.next then (211, x, a)
  else if (a.puts x.next (secs (x.recs.length + 1) b)).1 ≠ 0 then (200, { x with dead := true }, (a.puts x.next (secs (x.recs.length + 1) b)).2)
  else (0, { x with recs := x.recs ++ [b], next := x.next + cnt b.length }, (a.puts x.next (secs (x.recs.length + 1) b)).2)
theorem A.write_wr (a : A) (n : Int) (c : List UInt8) : (a.write n c).2.wr ≤ a.wr + 1 ∧ (a.write n c).2.ims.length = a.ims.length ∧ a.wr ≤ (a.write n c).2.wr := by
  unfold A.write A.wrote
  split
  · exact ⟨by dsimp only; omega, rfl, by dsimp only; omega⟩
  · split
    · exact ⟨by dsimp only; omega, rfl, by dsimp only; omega⟩
    · split
      · exact ⟨by dsimp only; omega, by simp, by dsimp only; omega⟩
      · exact ⟨by dsimp only; omega, by simp, by dsimp only; omega⟩

theorem sec_eq (a : Nat) (b : List UInt8) (p : Nat) :
    let m := mk a p b.length
    let x1 := (List.replicate 512 (0 : UInt8)).take 0 ++ m.take 8 ++ (List.replicate 512 (0 : UInt8)).drop (0 + 8)
    let k := min (b.length - p * 496) 496
    let x2 := x1.take 8 ++ (b.drop (p * 496)).take k ++ x1.drop (8 + k)
    x2.take 504 ++ m.take 8 ++ x2.drop (504 + 8) = sec a b p := by
  intro m x1 k x2
  have hm : m.take 8 = m := List.take_of_length_le (by simp [m])
  have e1 : x1 = m ++ List.replicate 504 0 := by simp only [x1, hm, List.take_zero, List.nil_append, List.drop_replicate]
  have hml : m.length = 8 := by simp [m]
  have hk : k ≤ 496 := by simp only [k]; omega
  have hbl : ((b.drop (p * 496)).take k).length = k := by simp only [List.length_take, List.length_drop, k]; omega
  have ek : (b.drop (p * 496)).take k = (b.drop (p * 496)).take 496 := by
    rcases Nat.le_total (b.length - p * 496) 496 with h | h
    · rw [List.take_of_length_le (by simp only [List.length_drop, k]; omega), List.take_of_length_le (by simp; omega)]
    · have : k = 496 := by simp only [k]; omega
      rw [this]
  have e2 : x2 = m ++ (b.drop (p * 496)).take 496 ++ List.replicate (504 - k) 0 := by
    have e4 : (m ++ List.replicate 504 (0 : UInt8)).drop (8 + k) = List.replicate (504 - k) 0 := by
      rw [List.drop_append, List.drop_of_length_le (l := m) (by omega), List.nil_append, hml, List.drop_replicate]
      congr 1; omega
    have e5 : (m ++ List.replicate 504 (0 : UInt8)).take 8 = m := by
      rw [List.take_append_of_le_length (by omega), List.take_of_length_le (by omega)]
    simp only [x2, e1]
    rw [e4, e5, ek]
  have hbl2 : ((b.drop (p * 496)).take 496).length = k := by rw [← ek]; exact hbl
  have e3 : x2 = m ++ chunk b p ++ List.replicate 8 0 := by
    rw [e2, chunk, hbl2]
    have : List.replicate (504 - k) (0 : UInt8) = List.replicate (496 - k) 0 ++ List.replicate 8 0 := by rw [List.replicate_append_replicate]; congr 1; omega
    rw [this]; simp only [List.append_assoc]
  have hcl := chunk_len b p
  rw [e3, hm]
  rw [List.take_append_of_le_length (by simp only [List.length_append, hml, hcl]; omega), List.take_of_length_le (by simp only [List.length_append, hml, hcl]; omega), List.drop_of_length_le (by simp only [List.length_append, List.length_replicate, hml, hcl]; omega), List.append_nil]
  rfl

variable {b2 b4 : Nat} {x : Int} {q : Option Addr}
/-- The end of Append: the answer is stored, the deferred closure looks at it. -/
theorem fin_st (h : St w0 w (dg d :: jg j q :: [.cel b4 26 [.int .i64 x]] :: [.cel b2 23 [.pointer j.p]] :: F)) (e : Int) {K : Int → World → Prop}
    (hk : ∀ w', St w0 w' (dg d :: jg { j with dead := j.dead || (e == 200) } q :: F) → K e w') :
    RunU Try.prog (U (Instr.storeAt 26 (.pointer (some ⟨b4, 0, none⟩)) (.int .i64 e))) w fun w =>
      CallKD Try.prog 36 #[.pointer (some ⟨b4, 0, none⟩), .pointer (some ⟨b2, 0, none⟩)] w fun w =>
      ReadN Try.prog (.int .i64) (V (Instr.loadAt 26 (.pointer (some ⟨b4, 0, none⟩)))) w fun r0 => K r0 w := by
  refine h.storB 2 0 ⟨_, rfl, rfl⟩ rfl rfl rfl ?_
  intro w h
  dsimp only [updG, setO] at h
  refine T36.callsD ?_
  unfold T36
  try (with_reducible refine NilP.mk ?_)
  refine h.loadB 2 0 ⟨_, rfl, rfl⟩ rfl rfl ?_
  rw [SplitB_iff]
  refine ⟨fun hz => ?_, fun hz => ?_⟩
  · skip
    try (with_reducible refine NilP.mk ?_)
    refine h.loadB 3 0 ⟨_, rfl, rfl⟩ rfl rfl ?_
    try (with_reducible refine NilP.mk ?_)
    refine h.storB 1 0 ⟨_, rfl, rfl⟩ rfl rfl rfl ?_
    intro w h
    dsimp only [updG, setO] at h
    try (with_reducible refine NilP.mk ?_)
    refine h.readB 2 0 ⟨_, rfl, rfl⟩ rfl rfl ?_
    refine hk _ ?_
    rw [hz, Bool.or_true]
    exact (h.drop 2).drop 2
  · skip
    try (with_reducible refine NilP.mk ?_)
    refine h.readB 2 0 ⟨_, rfl, rfl⟩ rfl rfl ?_
    refine hk _ ?_
    rw [hz, Bool.or_false]
    exact (h.drop 2).drop 2

theorem append_st (h : St w0 w (dg d :: jg j d.p :: F)) (ok : DOk d) (jok : JOk j d) (hw : d.wr ≤ 2305843009213693952) {p : Sl} {c : List UInt8} (hp : SeesG w0 F p 1 (bys c)) :
    CallK Try.prog (.int .i64) 13 #[.pointer j.p, .slice p.a p.len p.cap] w fun (r : Int) w' =>
      r = (j.abs.append d.abs c).1 ∧ ∃ (d' : D) (j' : J), d'.b = d.b ∧ j'.b = j.b ∧ j'.abs = (j.abs.append d.abs c).2.1 ∧ d'.abs = (j.abs.append d.abs c).2.2 ∧ DOk d' ∧ JOk j' d' ∧ St w0 w' (dg d' :: jg j' d.p :: F) := by
  have hpr := hp _ ((h.drop 0).drop 0)
  have hpl := hpr.bys_len
  have hpi : (p.len : Int) = (c.length : Int) := by rw [hpl]
  have hsm := ok.small
  have hjn := jok.next
  have hjr := jok.recs
  have hil : d.abs.ims.length = d.secs.length := by simp [D.abs]
  have hjl := jg_len h (k := 1) rfl
  refine T13.calls ?_
  unfold T13
  refine h.newB (run_box (l := [.pointer j.p]) rfl) rfl ?_
  intro b2 w h
  refine h.newB (NewC.run _) rfl ?_
  intro b4 w h
  have h := h.bring 3 rfl
  dsimp only [delO] at h
  have h := h.bring 3 rfl
  dsimp only [delO] at h
  refine ⟨rfl, rfl, ?_⟩
  refine JoinX.mk (fun jv w' => jv.1 = (j.dead || d.off) ∧ St w0 w' (dg d :: jg j d.p :: [.cel b4 26 [.int .i64 0]] :: [.cel b2 23 [.pointer j.p]] :: F)) ?_ ?_
  · rintro ⟨_, ⟨⟩⟩ w ⟨hj, h⟩
    dsimp only at hj h ⊢
    subst hj
    rw [SplitB_iff]
    refine ⟨fun hz => ?_, fun hz => ?_⟩
    · have e : j.abs.append d.abs c = (200, { j.abs with dead := true }, d.abs) := by
        unfold JA.append
        rw [if_pos (by simpa [J.abs, D.abs] using hz)]
      refine fin_st h 200 ?_
      intro w h
      rw [e]
      exact ⟨rfl, d, { j with dead := j.dead || ((200 : Int) == 200) }, rfl, rfl, by simp [J.abs], rfl, ok, ⟨jok.next, jok.recs, jok.len⟩, h⟩
    have hz1 : ¬ (j.abs.dead = true ∨ d.abs.off = true) := by simpa [J.abs, D.abs] using hz
    have hdead : j.dead = false := by simp at hz; exact hz.1
    have hoff : d.off = false := by simp at hz; exact hz.2
    rw [SplitB_iff]
    refine ⟨fun hy => ?_, fun hy => ?_⟩
    · have hy : c.length > 8192 := by have := of_decide_eq_true hy; omega
      have e : j.abs.append d.abs c = (2, j.abs, d.abs) := by
        unfold JA.append
        rw [if_neg hz1, if_pos hy]
      refine fin_st h 2 ?_
      intro w h
      rw [e]
      exact ⟨rfl, d, { j with dead := j.dead || ((2 : Int) == 200) }, rfl, rfl, by simp [J.abs], rfl, ok, ⟨jok.next, jok.recs, jok.len⟩, h⟩
    have hy : ¬ c.length > 8192 := by have := of_decide_eq_false hy; omega
    have hc17 := cnt_le (n := c.length) (by omega)
    have hc1 := cnt_pos c.length
    try (with_reducible refine NilP.mk ?_)
    refine h.drew.readB 3 0 ⟨_, rfl, rfl⟩ rfl rfl ?_
    rw [hpi]
    refine (sectors_ok (n := c.length) (by omega)).mono ?_
    rintro r w' ⟨hw', rfl⟩
    subst hw'
    have h := h.drew
    refine ⟨h.stillB 3 0 ⟨_, rfl, rfl⟩ rfl rfl, ?_⟩
    refine (room_st h ok jok).mono ?_
    rintro r w ⟨rfl, h⟩
    rw [hdead, if_neg (by simp), SplitB_iff]
    refine ⟨fun hx => ?_, fun hx => ?_⟩
    · have hx : (cnt c.length : Int) > (d.secs.length : Int) - j.next := of_decide_eq_true hx
      have e : j.abs.append d.abs c = (211, j.abs, d.abs) := by
        unfold JA.append
        rw [if_neg hz1, if_neg hy, if_pos (by rw [hil]; exact hx)]
      refine fin_st h 211 ?_
      intro w h
      rw [e]
      exact ⟨rfl, d, { j with dead := j.dead || ((211 : Int) == 200) }, rfl, rfl, by simp [J.abs], rfl, ok, ⟨jok.next, jok.recs, jok.len⟩, h⟩
    have hx : ¬ (cnt c.length : Int) > (d.secs.length : Int) - j.next := of_decide_eq_false hx
    have hroom : j.next + cnt c.length ≤ d.secs.length := by omega
    have e : j.abs.append d.abs c = (if (d.abs.puts j.next (secs (j.recs.length + 1) c)).1 ≠ 0 then (200, { j.abs with dead := true }, (d.abs.puts j.next (secs (j.recs.length + 1) c)).2)
        else (0, { j.abs with recs := j.abs.recs ++ [c], next := j.abs.next + cnt c.length }, (d.abs.puts j.next (secs (j.recs.length + 1) c)).2)) := by
      unfold JA.append
      rw [if_neg hz1, if_neg hy, if_neg (by rw [hil]; exact hx)]
      simp [J.abs]
    rw [e]
    refine (sectors_ok (n := c.length) (by omega)).mono ?_
    rintro r w' ⟨hw', rfl⟩
    subst hw'
    generalize hA : j.recs.length + 1 = nA
    clear e hx
    refine LoopX.mk (fun st w' => ∃ (k : Nat) (d' : D), st.1 = (k : Int) ∧ k ≤ cnt c.length ∧ d'.b = d.b ∧ DOk d' ∧ d'.secs.length = d.secs.length ∧ d'.wr ≤ d.wr + k ∧ d.abs.puts j.next (secs nA c) = d'.abs.puts (j.next + k) ((secs nA c).drop k) ∧
      St w0 w' (dg d' :: jg j d.p :: [.cel b4 26 [.int .i64 0]] :: [.cel b2 23 [.pointer j.p]] :: F)) (fun st => cnt c.length - st.1.toNat) ⟨0, d, rfl, Nat.zero_le _, rfl, ok, rfl, by omega, rfl, h⟩ ?_
    clear h
    rintro ⟨_, ⟨⟩⟩ w ⟨k, d', rfl, hk, hb', ok', hsl, hwr, hputs, h⟩ K hK
    dsimp only at h hK ⊢
    have hp' : d'.p = d.p := by rw [D.p, D.p, hb']
    rw [SplitB_iff]
    refine ⟨fun hx => ?_, fun hx => ?_⟩
    · have hx : k < cnt c.length := by have := of_decide_eq_true hx; omega
      have hkl := cnt_lt hx
      try (with_reducible refine NilP.mk ?_)
      refine h.loadB 3 0 ⟨_, rfl, rfl⟩ rfl rfl ?_
      try (with_reducible refine NilP.mk ?_)
      refine h.loadB 1 0 ⟨_, rfl, rfl⟩ rfl rfl ?_
      rw [hjl, wr (by omega)]
      have e2 : ((j.recs.length : Nat) : Int) + 1 = (nA : Int) := by omega
      rw [e2]
      refine (mark_st h nA k (n := c.length) (by omega)).mono ?_
      rintro m w ⟨hm, h⟩
      refine h.makeN (.int .u8 0) (by kernel_rfl) rfl 512 rfl rfl (by decide) (by decide) ?_
      intro s w hs hsc h
      have e : List.replicate 512 (Value.int .u8 0) = bys (List.replicate 512 0) := by rw [bys, List.map_replicate]; rfl
      rw [e] at h
      refine h.copy 0 0 ⟨_, rfl, rfl⟩ (dl := s.len) 0 (fun b o hb _ => by rw [Nat.zero_mul, Nat.add_zero]; exact hb) (by omega) (h.rd (k := 1) (i := 0) ⟨_, rfl, rfl⟩) (bys_one _) ?_
      intro w h
      have hm1 : Nat.min m.len s.len = 8 := by rw [hm, hs]; rfl
      rw [hm1, bys_copy] at h
      dsimp only [updG, setO] at h
      refine ReadN.sLH (s := s) 8 504 rfl rfl (by decide) (by omega) ?_
      rw [wr (x := (k : Int) * 496) (by omega)]
      refine ReadN.sL (s := p) (k * 496) (by omega) (by omega) ?_
      have hF := h.ord 6 []
      dsimp only [pick, dropO] at hF
      have hpr2 := (hp _ hF).suf (lo := k * 496) (by omega)
      have e3 : (bys c).drop (k * 496 * 1) = bys (c.drop (k * 496)) := by rw [Nat.mul_one]; simp [bys, List.map_drop]
      rw [e3] at hpr2
      have h := h.drew
      refine h.copy 0 0 ⟨_, rfl, rfl⟩ (dl := (subS s 8 504 1).len) 8 (fun b o hb _ => subS_addr hb (by omega)) (by simp only [subS]; omega) (hpr2.upd (Upd.drew _ nobody) (fun _ _ h => h)) (bys_one _) ?_
      intro w h
      have hm2 : Nat.min (subS p (k * 496) p.len 1).len (subS s 8 504 1).len = min (c.length - k * 496) 496 := by
        simp only [subS, hpl]
      rw [hm2, bys_copy] at h
      dsimp only [updG, setO] at h
      refine RunN.sL (s := s) 504 rfl (by omega) ?_
      refine h.copy 0 0 ⟨_, rfl, rfl⟩ (dl := (subS s 504 s.len 1).len) 504 (fun b o hb _ => subS_addr hb (by omega)) (by simp only [subS]; omega) (h.rd (k := 1) (i := 0) ⟨_, rfl, rfl⟩) (bys_one _) ?_
      intro w h
      have hm3 : Nat.min m.len (subS s 504 s.len 1).len = 8 := by rw [hm]; simp only [subS, hs]; rfl
      rw [hm3, bys_copy, sec_eq] at h
      dsimp only [updG, setO] at h
      have h := h.ord 6 [2, 3, 4, 5, 0]
      dsimp only [pick, nthO, dropO] at h
      try (with_reducible refine NilP.mk ?_)
      refine h.drew.readB 3 0 ⟨_, rfl, rfl⟩ rfl rfl ?_
      try (with_reducible refine NilP.mk ?_)
      refine h.drew.readB 1 0 ⟨_, rfl, rfl⟩ rfl rfl ?_
      try (with_reducible refine NilP.mk ?_)
      refine h.drew.readB 3 0 ⟨_, rfl, rfl⟩ rfl rfl ?_
      try (with_reducible refine NilP.mk ?_)
      refine h.drew.readB 1 0 ⟨_, rfl, rfl⟩ rfl rfl ?_
      rw [wr (by omega)]
      have e5 : (j.next : Int) + k = ((j.next + k : Nat) : Int) := by omega
      rw [e5, ← hp']
      have hnA : j.recs.length + 1 = nA := hA
      refine (write_st h.drew ok' (by omega) (p := s) (c := sec nA c k) (fun w h => h.rd (k := 3) (i := 0) ⟨_, rfl, rfl⟩) _).mono ?_
      rintro r w ⟨rfl, d2, hb2, hd2, ok2, h⟩
      obtain ⟨hw1, hw2, hw3⟩ := A.write_wr d'.abs ((j.next + k : Nat) : Int) (sec nA c k)
      rw [secs_drop nA c hx] at hputs
      simp only [A.puts] at hputs
      have h := h.ord 5 [0, 1, 2, 3]
      dsimp only [pick, nthO, dropO] at h
      rw [SplitB_iff]
      refine ⟨fun hy => ?_, fun hy => ?_⟩
      · have hy : (d'.abs.write ((j.next + k : Nat) : Int) (sec nA c k)).1 ≠ 0 := by simpa using hy
        rw [if_pos hy] at hputs
        rw [hputs, if_pos (by simp), hp']
        refine fin_st h 200 ?_
        intro w h
        have hsl2 : d2.secs.length = d.secs.length := by
          have := congrArg (fun a => a.ims.length) hd2
          simp only [abs_len] at this
          rw [this, hw2, abs_len, hsl]
        exact ⟨rfl, d2, { j with dead := j.dead || ((200 : Int) == 200) }, hb2.trans hb', rfl, by simp [J.abs], hd2, ok2, ⟨by dsimp only; omega, jok.recs, jok.len⟩, h⟩
      · have hy : (d'.abs.write ((j.next + k : Nat) : Int) (sec nA c k)).1 = 0 := by simpa using hy
        rw [if_neg (fun h => h hy), ← hd2] at hputs
        have hwr2 : d2.wr ≤ d'.wr + 1 := by
          have := congrArg A.wr hd2
          simp only [abs_wr] at this
          rw [this]; exact hw1
        have hsl2 : d2.secs.length = d.secs.length := by
          have := congrArg (fun a => a.ims.length) hd2
          simp only [abs_len] at this
          rw [this, hw2, abs_len, hsl]
        exact hK _ _ ⟨k + 1, d2, by dsimp only; rw [wr (by omega)]; omega, by omega, hb2.trans hb', ok2, hsl2, by omega, by rw [← Nat.add_assoc]; exact hputs, h⟩ (by dsimp only; rw [wr (by omega)]; omega)
    · have hx : k = cnt c.length := by have := of_decide_eq_false hx; omega
      subst hx
      rw [List.drop_of_length_le (Nat.le_of_eq (secs_len _ _))] at hputs
      simp only [A.puts] at hputs
      rw [hputs, if_neg (by simp)]
      try (with_reducible refine NilP.mk ?_)
      refine h.drew.readB 3 0 ⟨_, rfl, rfl⟩ rfl rfl ?_
      try (with_reducible refine NilP.mk ?_)
      refine h.drew.readB 3 0 ⟨_, rfl, rfl⟩ rfl rfl ?_
      try (with_reducible refine NilP.mk ?_)
      refine h.drew.readB 1 0 ⟨_, rfl, rfl⟩ rfl rfl ?_
      have hF := h.ord 4 []
      dsimp only [pick, dropO] at hF
      refine h.drew.appNil (e := 5) ((hp _ hF).upd (Upd.drew _ nobody) (fun _ _ h => h)) (bys_one _) (by simp only [maxLen]; omega) (by omega) ?_
      intro r w hr h
      refine ⟨h.stillB 2 0 ⟨_, rfl, rfl⟩ rfl rfl, ?_⟩
      refine ⟨h.stillB 4 0 ⟨_, rfl, rfl⟩ rfl rfl, ?_⟩
      refine ⟨h.stillB 4 0 ⟨_, rfl, rfl⟩ rfl rfl, ?_⟩
      refine h.newS 1 (bs22 _ _ _ _) rfl rfl rfl ?_
      intro u w hul huc _ h
      refine ⟨h.stillB 3 0 ⟨_, rfl, rfl⟩ rfl rfl, ?_⟩
      refine ⟨h.stillB 5 0 ⟨_, rfl, rfl⟩ rfl rfl, ?_⟩
      refine ⟨h.stillB 5 0 ⟨_, rfl, rfl⟩ rfl rfl, ?_⟩
      refine h.app 3 1 ⟨_, rfl, rfl⟩ (h.rd (k := 0) (i := 0) ⟨_, rfl, rfl⟩) one_slice (by simp only [maxLen]; omega) (by omega) ?_
      intro q w hq h
      dsimp only [updG, setO, jg] at h
      have h := h.ord 6 [1, 2, 3, 4, 5]
      dsimp only [pick, nthO, dropO] at h
      refine ⟨h.stillB 4 0 ⟨_, rfl, rfl⟩ rfl rfl, ?_⟩
      try (with_reducible refine NilP.mk ?_)
      refine h.storB 2 0 ⟨_, rfl, rfl⟩ rfl rfl rfl ?_
      intro w h
      dsimp only [updG, setO] at h
      try (with_reducible refine NilP.mk ?_)
      refine h.drew.readB 4 0 ⟨_, rfl, rfl⟩ rfl rfl ?_
      try (with_reducible refine NilP.mk ?_)
      refine h.drew.readB 2 0 ⟨_, rfl, rfl⟩ rfl rfl ?_
      try rw [hpi]
      refine (sectors_ok (n := c.length) (by omega)).mono ?_
      rintro r' w' ⟨hw', rfl⟩
      subst hw'
      have h := h.drew
      refine ⟨h.stillB 2 0 ⟨_, rfl, rfl⟩ rfl rfl, ?_⟩
      refine ⟨h.stillB 4 0 ⟨_, rfl, rfl⟩ rfl rfl, ?_⟩
      try (with_reducible refine NilP.mk ?_)
      refine h.storB 2 0 ⟨_, rfl, rfl⟩ rfl rfl rfl ?_
      intro w h
      dsimp only [updG, setO] at h
      rw [wr (by omega)] at h
      have h := h.ord 5 [0, 2, 1, 3, 4]
      dsimp only [pick, nthO, dropO] at h
      have h := h.into
      have h := h.ord 4 [1, 0, 2, 3]
      dsimp only [pick, nthO, dropO] at h
      have h2 : St w0 w (dg d' :: jg ⟨j.b, q, j.recs ++ [(r, c)], j.next + cnt c.length, j.dead⟩ d.p :: [.cel b4 26 [.int .i64 0]] :: [.cel b2 23 [.pointer j.p]] :: F) := by
        have e : jg ⟨j.b, q, j.recs ++ [(r, c)], j.next + cnt c.length, j.dead⟩ d.p = [Ent.cel j.b 79 [.pointer d.p, .slice q.a q.len q.cap, .int .i64 ((j.next : Int) + (cnt c.length : Int)), .bool j.dead], Ent.row 31 1 q (lsl j.recs ++ [.slice r.a r.len r.cap])] ++ (j.recs.map (brw 5) ++ [brw 5 (r, c)]) := by
          unfold jg jcel
          simp only [lsl_snoc, List.map_append, List.map_cons, List.map_nil, Int.natCast_add, List.cons_append, List.nil_append]
        rw [e]; exact h
      refine fin_st (j := ⟨j.b, q, j.recs ++ [(r, c)], j.next + cnt c.length, j.dead⟩) h2 0 ?_
      intro w h
      refine ⟨rfl, d', { j with rs := q, recs := j.recs ++ [(r, c)], next := j.next + cnt c.length, dead := j.dead || ((0 : Int) == 200) }, hb', rfl, ?_, rfl, ok', ⟨by dsimp only; omega, by dsimp only; rw [List.length_append]; simp only [List.length_cons, List.length_nil]; omega, fun x hx => ?_⟩, h⟩
      · simp [J.abs]
      · dsimp only at hx
        rcases List.mem_append.1 hx with hx | hx
        · exact jok.len x hx
        · simp at hx; subst hx; dsimp only; omega
  · intro k hk
    try (with_reducible refine NilP.mk ?_)
    refine h.loadB 3 0 ⟨_, rfl, rfl⟩ rfl rfl ?_
    try (with_reducible refine NilP.mk ?_)
    refine h.loadB 1 0 ⟨_, rfl, rfl⟩ rfl rfl ?_
    rw [SplitB_iff]
    refine ⟨fun hz => ?_, fun hz => ?_⟩
    · exact hk _ _ ⟨by dsimp only; rw [hz]; rfl, h⟩
    · skip
      try (with_reducible refine NilP.mk ?_)
      refine h.loadB 3 0 ⟨_, rfl, rfl⟩ rfl rfl ?_
      try (with_reducible refine NilP.mk ?_)
      refine h.loadB 1 0 ⟨_, rfl, rfl⟩ rfl rfl ?_
      refine (ison_st h).mono ?_
      rintro r w ⟨rfl, h⟩
      refine hk _ _ ⟨?_, h⟩
      dsimp only
      rw [hz]; simp
end Go.Proofs.Ytimebochhbfkgaa
