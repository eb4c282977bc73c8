/- The desk: Open, what is looked at, a new one; one Append as a call. -/
import Derived.Test.YtimebochhbfkgaaJkV
namespace Go.Proofs.Ytimebochhbfkgaa
open Go Go.Fw Go.RowKit
set_option linter.unusedVariables false
set_option linter.unusedSimpArgs false
set_option maxRecDepth 4000
set_option maxHeartbeats 2000000
variable {w0 w : World} {F G : Grps} {d : D} {j : J} {x : K}

theorem regroup {r c i : Ent} {M o : List Ent} (h : St w0 w ([r] :: M :: (c :: i :: o) :: F)) : St w0 w ((c :: i :: r :: M) :: F) := by
  have p : ([r] :: M :: (c :: i :: o) :: F).flatten.Perm ((c :: i :: r :: M) :: o :: F).flatten := by
    simp only [List.flatten_cons, List.cons_append, List.nil_append]
    refine (List.Perm.cons r List.perm_middle).trans ?_
    refine (List.Perm.swap _ _ _).trans (List.Perm.cons c ?_)
    refine (List.Perm.cons r List.perm_middle).trans ?_
    exact List.Perm.swap _ _ _
  exact (h.perm p).drop 1
theorem opens_st (h : St w0 w (kg x :: dg d :: F)) (ok : DOk d) (hdp : x.dp = d.p) (pw : Pw d.abs x.ims x.on x.left x.torn) (hon : x.on = true) :
    CallK Try.prog .bool 31 #[.pointer x.p] w fun (r : Bool) w' =>
      r = true ∧ ∃ (x' : K) (j : J), Rel x' d j ∧ x'.b = x.b ∧ x'.sp = x.sp ∧ x'.ims = x.ims ∧ j.dead = false ∧ x'.on = x.on ∧ St w0 w' (kg x' :: dg d :: jg j d.p :: F) := by
  have hoff : d.off = false := by have := pw.hon; rw [hon] at this; simpa using this.symm
  have hl5 : ∀ s ∈ x.ims, s.length = 512 := by rw [← pw.hims]; exact ims_len ok
  have hlen : x.ims.length = d.secs.length := by rw [← pw.hims]; simp [D.abs]
  refine T31.calls ?_
  unfold T31
  try (with_reducible refine NilP.mk ?_)
  refine h.loadB 0 0 ⟨_, rfl, rfl⟩ rfl rfl ?_
  rw [hdp]
  have h := h.ord 2 [1, 0]
  dsimp only [pick, nthO, dropO] at h
  refine (open_st h ok hoff).mono ?_
  rintro r w ⟨j, rfl, hjd, jok, hop, h⟩
  dsimp only
  try (with_reducible refine NilP.mk ?_)
  refine h.loadB 2 0 ⟨_, rfl, rfl⟩ rfl rfl ?_
  rw [hon, SplitB_iff]
  refine ⟨(fun hz => by cases hz), fun _ => ?_⟩
  refine JoinX.mk (fun jv w' => jv.1 = false ∧ w' = w) ?_ ?_
  · rintro ⟨_, ⟨⟩⟩ w' ⟨hj, hw⟩
    dsimp only at hj ⊢
    rw [hw]
    subst hj
    rw [SplitB_iff]
    refine ⟨(fun hz => by cases hz), fun _ => ?_⟩
    try (with_reducible refine NilP.mk ?_)
    refine h.storB 2 0 ⟨_, rfl, rfl⟩ rfl rfl rfl ?_
    intro w h
    dsimp only [updG, setO, kg] at h
    try (with_reducible refine NilP.mk ?_)
    refine h.loadB 2 0 ⟨_, rfl, rfl⟩ rfl rfl ?_
    refine (readr_st h hl5 (by rw [hlen]; exact ok.small) (p := x.im) (fun w h => h.rd (k := 2) (i := 1) ⟨_, rfl, rfl⟩)).mono ?_
    rintro ⟨r, rn, ⟨⟩⟩ w ⟨H, n, hrn, hrl, hop2, h⟩
    dsimp only at hrn hrl h ⊢
    subst hrn
    try (with_reducible refine NilP.mk ?_)
    refine h.storB 4 0 ⟨_, rfl, rfl⟩ rfl rfl rfl ?_
    intro w h
    dsimp only [updG, setO, kcel] at h
    try (with_reducible refine NilP.mk ?_)
    refine h.storB 4 0 ⟨_, rfl, rfl⟩ rfl rfl rfl ?_
    intro w h
    dsimp only [updG, setO] at h
    try (with_reducible refine NilP.mk ?_)
    refine h.storB 4 0 ⟨_, rfl, rfl⟩ rfl rfl rfl ?_
    intro w h
    dsimp only [updG, setO] at h
    have h := h.ord 5 [0, 1, 4, 2, 3]
    dsimp only [pick, nthO, dropO] at h
    have h := regroup h
    have hu := hop2.uniq (by rw [← pw.hims]; exact hop)
    refine ⟨rfl, { x with jp := j.p, hs := r, H := H, next := n, dead := false }, j, ⟨ok, jok, hdp, rfl, pw, hu.2, hjd.symm, hu.1⟩, rfl, rfl, rfl, hjd, hon, ?_⟩
    exact h
  · intro k1 hk1
    first | refine RunN.pEqS ?_ | refine RunN.pEqN ?_ | refine RunN.pNeS ?_ | refine RunN.pNeN ?_
    rw [SplitB_iff]
    exact ⟨(fun hz => by cases hz), fun _ => hk1 _ _ ⟨rfl, rfl⟩⟩
theorem opens_off (h : St w0 w (kg x :: dg d :: F)) (hdp : x.dp = d.p) (pw : Pw d.abs x.ims x.on x.left x.torn) (hon : x.on = false) :
    CallK Try.prog .bool 31 #[.pointer x.p] w fun (r : Bool) w' => r = true ∧ St w0 w' (kg x :: dg d :: F) := by
  have hoff : d.off = true := by have := pw.hon; rw [hon] at this; simpa using this.symm
  refine T31.calls ?_
  unfold T31
  try (with_reducible refine NilP.mk ?_)
  refine h.loadB 0 0 ⟨_, rfl, rfl⟩ rfl rfl ?_
  rw [hdp]
  have h := h.ord 2 [1, 0]
  dsimp only [pick, nthO, dropO] at h
  refine (open_off h hoff).mono ?_
  rintro r w ⟨rfl, h⟩
  dsimp only
  try (with_reducible refine NilP.mk ?_)
  refine h.loadB 1 0 ⟨_, rfl, rfl⟩ rfl rfl ?_
  rw [hon, SplitB_iff]
  refine ⟨fun _ => ?_, (fun hz => by cases hz)⟩
  first | refine RunN.pEqS ?_ | refine RunN.pEqN ?_ | refine RunN.pNeS ?_ | refine RunN.pNeN ?_
  rw [SplitB_iff]
  refine ⟨fun _ => ?_, (fun hz => by cases hz)⟩
  refine (num_ok 200).mono ?_
  rintro r w' ⟨hw, rfl⟩
  rw [hw]
  have h := h.ord 2 [1, 0]
  dsimp only [pick, nthO, dropO] at h
  exact ⟨rfl, h⟩
theorem looks_st (h : St w0 w (kg x :: dg d :: jg j d.p :: F)) (rel : Rel x d j) : CallK Try.prog .bool 26 #[.pointer x.p] w fun (r : Bool) w' => r = true ∧ St w0 w' (kg x :: dg d :: jg j d.p :: F) := by
  have hsm := rel.ok.small
  have hjn := rel.jok.next
  have hlen := rel.len
  have hHl : x.H.length = j.recs.length := by have := congrArg List.length rel.H; simpa using this
  have hxn := rel.next
  have hxd := rel.dead
  have h := h.drew
  have him := (h.rd (k := 0) (i := 1) ⟨_, rfl, rfl⟩).bys_len
  rw [len_flat rel.l5] at him
  have hhs : x.hs.len = x.H.length := by
    have := (h.rd (k := 0) (i := 2) ⟨_, rfl, rfl⟩).1
    rw [lsl_len] at this; omega
  refine T26.calls ?_
  unfold T26
  try (with_reducible refine NilP.mk ?_)
  refine h.readB 0 0 ⟨_, rfl, rfl⟩ rfl rfl ?_
  try (with_reducible refine NilP.mk ?_)
  refine h.readB 0 0 ⟨_, rfl, rfl⟩ rfl rfl ?_
  try (with_reducible refine NilP.mk ?_)
  refine h.readB 0 0 ⟨_, rfl, rfl⟩ rfl rfl ?_
  have e1 : Int.tdiv (x.im.len : Int) 512 = (x.ims.length : Int) := by rw [Int.tdiv_eq_ediv_of_nonneg (by omega)]; omega
  rw [e1, wr (x := (x.ims.length : Int)) (by omega), wr (x := (x.ims.length : Int) - x.next) (by omega)]
  refine JoinX.mk (fun jv w' => jv.1 = (if j.dead then 0 else (j.recs.length : Int)) ∧ jv.2.1 = (if j.dead then 0 else (d.secs.length : Int) - j.next) ∧ St w0 w' (kg x :: dg d :: jg j d.p :: F)) ?_ ?_
  · rintro ⟨_, _, ⟨⟩⟩ w ⟨hj1, hj2, h⟩
    dsimp only at hj1 hj2 h ⊢
    subst hj1; subst hj2
    try (with_reducible refine NilP.mk ?_)
    refine h.drew.readB 0 0 ⟨_, rfl, rfl⟩ rfl rfl ?_
    rw [rel.jp]
    have h := h.ord 3 [1, 2, 0]
    dsimp only [pick, nthO, dropO] at h
    refine (len_st h.drew).mono ?_
    rintro r w ⟨rfl, h⟩
    rw [SplitB_iff]
    refine ⟨fun _ => ?_, (fun hz => by simp at hz)⟩
    try (with_reducible refine NilP.mk ?_)
    refine h.readB 2 0 ⟨_, rfl, rfl⟩ rfl rfl ?_
    rw [rel.jp]
    refine (room_st h rel.ok rel.jok).mono ?_
    rintro r w ⟨rfl, h⟩
    rw [SplitB_iff]
    refine ⟨fun _ => ?_, (fun hz => by simp at hz)⟩
    try (with_reducible refine NilP.mk ?_)
    refine h.readB 2 0 ⟨_, rfl, rfl⟩ rfl rfl ?_
    rw [rel.jp]
    try (with_reducible refine NilP.mk ?_)
    refine h.readB 2 0 ⟨_, rfl, rfl⟩ rfl rfl ?_
    refine (dead_st h).mono ?_
    rintro r w ⟨rfl, h⟩
    refine ⟨h.stillB 2 0 ⟨_, rfl, rfl⟩ rfl rfl, ?_⟩
    have h := h.ord 3 [2, 0, 1]
    dsimp only [pick, nthO, dropO] at h
    exact ⟨by rw [hxd]; simp, h⟩
  · intro k1 hk1
    try (with_reducible refine NilP.mk ?_)
    refine h.loadB 0 0 ⟨_, rfl, rfl⟩ rfl rfl ?_
    rw [hxd, SplitB_iff]
    refine ⟨fun hz => hk1 _ _ ⟨by rw [hz]; rfl, by rw [hz]; rfl, h⟩, fun hz => hk1 _ _ ⟨?_, ?_, h⟩⟩
    · dsimp only; rw [hz, hhs, hHl]; rfl
    · dsimp only; rw [hz, hlen, hxn]; rfl

theorem chunks {n : Nat} {l : List UInt8} (h : l.length = 512 * n) : ∃ ims : List (List UInt8), ims.length = n ∧ (∀ s ∈ ims, s.length = 512) ∧ ims.flatten = l := by
  induction n generalizing l with
  | zero => exact ⟨[], rfl, (fun s hs => by cases hs), (List.eq_nil_of_length_eq_zero (by omega)).symm⟩
  | succ n ih =>
    obtain ⟨ims, h1, h2, h3⟩ := ih (l := l.drop 512) (by simp; omega)
    refine ⟨l.take 512 :: ims, by simp [h1], fun s hs => ?_, by rw [List.flatten_cons, h3, List.take_append_drop]⟩
    rcases List.mem_cons.1 hs with rfl | hs
    · simp; omega
    · exact h2 s hs
theorem shaped_st (h : St w0 w G) {y : Int} (hy : -9223372036854775808 ≤ y ∧ y ≤ 9223372036854775807) {p : Sl} {b : List UInt8} (hp : SeesG w0 G p 1 (bys b)) : CallK Try.prog .sl 24 #[.int .i64 y, .slice p.a p.len p.cap] w fun (r : Sl) w' =>
    ∃ ims : List (List UInt8), 1 ≤ ims.length ∧ ims.length ≤ 80 ∧ (∀ s ∈ ims, s.length = 512) ∧ St w0 w' ([.row 5 1 r (bys ims.flatten)] :: G) := by
  refine T24.calls ?_
  unfold T24
  refine JoinX.mk (fun jv w' => 0 ≤ jv.1 ∧ w' = w) ?_ ?_
  · rintro ⟨v, ⟨⟩⟩ w' ⟨hj, hw⟩
    dsimp only at hj ⊢
    rw [hw]
    obtain ⟨n, hn, hn80⟩ : ∃ n : Nat, Int.tmod v 80 = (n : Int) ∧ n < 80 := by
      have h1 : Int.tmod v 80 < 80 := Int.tmod_lt_of_pos v (by decide)
      have h2 : 0 ≤ Int.tmod v 80 := Int.tmod_nonneg 80 hj
      exact ⟨(Int.tmod v 80).toNat, by omega, by omega⟩
    rw [hn, wr (x := 1 + (n : Int)) (by omega), wr (x := 512 * (1 + (n : Int))) (by omega)]
    have e1 : 512 * (1 + (n : Int)) = ((512 * (n + 1) : Nat) : Int) := by omega
    rw [e1]
    refine h.makeN (.int .u8 0) (by kernel_rfl) rfl (512 * (n + 1)) rfl rfl (by omega) (by omega) ?_
    intro s w hs hsc h
    rw [bys_rep] at h
    refine h.copy 0 0 ⟨_, rfl, rfl⟩ (dl := s.len) 0 (fun b o hb _ => by rw [Nat.zero_mul, Nat.add_zero]; exact hb) (by omega) (hp _ (h.drop 0)) (bys_one _) ?_
    intro w h
    rw [bys_copy] at h
    dsimp only [updG, setO] at h
    have hl := (h.rd (k := 0) (i := 0) ⟨_, rfl, rfl⟩).bys_len
    obtain ⟨ims, i1, i2, i3⟩ := chunks (n := n + 1) (hl.symm.trans hs)
    rw [← i3] at h
    exact ⟨ims, by omega, by omega, i2, h⟩
  · intro k hk
    rw [SplitB_iff]
    refine ⟨fun hz => ?_, fun hz => ?_⟩
    · have hz : y < 0 := of_decide_eq_true hz
      rw [wr (x := y + 1) (by omega), wr (x := 0 - (y + 1)) (by omega)]
      exact hk _ _ ⟨by dsimp only; omega, rfl⟩
    · have hz : ¬ y < 0 := of_decide_eq_false hz
      exact hk _ _ ⟨by dsimp only; omega, rfl⟩
theorem begun_st (h : St w0 w G) {ims : List (List UInt8)} (h1 : 1 ≤ ims.length) (h2 : ims.length ≤ 80) (h5 : ∀ s ∈ ims, s.length = 512) {p : Sl} (hp : SeesG w0 G p 1 (bys ims.flatten)) : CallK Try.prog .ptr 25 #[.slice p.a p.len p.cap] w fun (r : Option Addr) w' =>
    ∃ (x : K) (d : D) (j : J) (bs : Nat), r = x.p ∧ Rel x d j ∧ x.sp = some ⟨bs, 0, none⟩ ∧ x.ims = ims ∧ d.wr = 0 ∧ d.secs.length = ims.length ∧ j.dead = false ∧ x.on = true ∧ d.armed = false ∧
      St w0 w' (kg x :: dg d :: jg j d.p :: [.cel bs 89 [.bool false, .slice none 0 0, .slice none 0 0, .slice none 0 0]] :: G) := by
  have hpr := hp _ h
  have hpl := hpr.bys_len
  rw [len_flat h5] at hpl
  refine T25.calls ?_
  unfold T25
  refine h.appNil (e := 5) hpr (bys_one _) (by simp only [maxLen]; omega) (by omega) ?_
  intro s w hs h
  refine (from_st h (p := s) (ls := ims) (fun w h => h.rd (k := 0) (i := 0) ⟨_, rfl, rfl⟩) h5 h1 (by omega)).mono ?_
  rintro r w ⟨d, rfl, ok, hd, h⟩
  dsimp only
  have hims : d.abs.ims = ims := by rw [hd]
  have hoff : d.off = false := congrArg A.off hd
  have harm : d.armed = false := congrArg A.armed hd
  have hwr : d.wr = 0 := congrArg A.wr hd
  have hsl : d.secs.length = ims.length := by have := congrArg List.length hims; simpa [D.abs] using this
  refine JoinX.mk (fun jv w' => jv.1 = false ∧ w' = w) ?_ ?_
  · rintro ⟨_, ⟨⟩⟩ w' ⟨hj, hw⟩
    dsimp only at hj ⊢
    rw [hw]
    subst hj
    rw [SplitB_iff]
    refine ⟨(fun hz => by cases hz), fun _ => ?_⟩
    have h := h.ord 2 [0]
    dsimp only [pick, nthO, dropO] at h
    refine h.appNil (e := 5) (hp _ (h.drop 0)) (bys_one _) (by simp only [maxLen]; omega) (by omega) ?_
    intro im w him h
    refine h.newB run_boxA rfl ?_
    intro bs w h
    have h := h.nilrow 31 1
    have h := h.ord 4 [2, 0, 1, 3]
    dsimp only [pick, nthO, dropO] at h
    have h := St.one.2 h
    refine h.newB run_boxA rfl ?_
    intro bk w h
    have h := St.one.2 h
    have h : St w0 w (kg ⟨bk, d.p, none, im, ims, true, -1, 0, ⟨none, 0, 0⟩, [], 0, false, some ⟨bs, 0, none⟩⟩ :: [.cel bs 89 [.bool false, .slice none 0 0, .slice none 0 0, .slice none 0 0]] :: dg d :: G) := h
    have h := h.ord 3 [0, 2, 1]
    dsimp only [pick, nthO, dropO] at h
    refine (opens_st (x := ⟨bk, d.p, none, im, ims, true, -1, 0, ⟨none, 0, 0⟩, [], 0, false, some ⟨bs, 0, none⟩⟩) h ok rfl ⟨hims, by dsimp only; rw [abs_off, hoff]; rfl, by rw [abs_armed, harm]; rfl, fun h => by simp at h, by dsimp only; omega, fun h => by cases h⟩ rfl).mono ?_
    rintro r w ⟨rfl, x', j, rel, hxb, hxs, hxi, hjd, hxo, h⟩
    rw [SplitB_iff]
    refine ⟨(fun hz => by cases hz), fun _ => ?_⟩
    exact ⟨x', d, j, bs, by rw [K.p, hxb], rel, hxs, hxi, hwr, hsl, hjd, hxo, harm, h⟩
  · intro k1 hk1
    first | refine RunN.pEqS ?_ | refine RunN.pEqN ?_ | refine RunN.pNeS ?_ | refine RunN.pNeN ?_
    rw [SplitB_iff]
    exact ⟨(fun hz => by cases hz), fun _ => hk1 _ _ ⟨rfl, rfl⟩⟩
end Go.Proofs.Ytimebochhbfkgaa
