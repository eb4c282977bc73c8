/- JournalOpens, JournalAppends: against the document's records and bytes. -/
import Derived.Test.YtimebochhbfkgaaJkW
namespace Go.Proofs.Ytimebochhbfkgaa
open Go Go.Fw Go.RowKit
set_option linter.unusedVariables false
set_option linter.unusedSimpArgs false
set_option maxRecDepth 4000
set_option maxHeartbeats 2000000
variable {w0 w : World} {F G : Grps} {d : D} {j : J} {x : K}

theorem kg_sees (h : St w0 w (kg x :: F)) : Rd w x.hs 1 (lsl x.H) ∧ ∀ y ∈ x.H, Rd w y.1 1 (bys y.2) := by
  refine ⟨h.rd (k := 0) (i := 2) ⟨_, rfl, rfl⟩, fun y hy => ?_⟩
  have : brw 5 y ∈ kg x := List.mem_cons_of_mem _ (List.mem_cons_of_mem _ (List.mem_cons_of_mem _ (List.mem_map.2 ⟨y, hy, rfl⟩)))
  exact (h.memG 0 rfl this).1.rd
/-- The journal tells what the document has. -/
theorem tellk_st (h : St w0 w (kg x :: dg d :: jg j d.p :: F)) (rel : Rel x d j) (hd : j.dead = false) : CallK Try.prog .bool 17 #[.pointer x.jp, .slice x.hs.a x.hs.len x.hs.cap] w fun (r : Bool) w' => r = true ∧ St w0 w' (kg x :: dg d :: jg j d.p :: F) := by
  have hl : j.recs.length ≤ 65536 := Nat.le_trans rel.jok.recs (Nat.le_trans rel.jok.next rel.ok.small)
  rw [rel.jp]
  have h := h.ord 3 [1, 2, 0]
  dsimp only [pick, nthO, dropO] at h
  refine (tells_st h rel.jok hd (p := x.hs) (L := x.H) (fun w h => kg_sees h) rel.H.symm (by omega)).mono ?_
  rintro r w ⟨rfl, h⟩
  have h := h.ord 3 [2, 0, 1]
  dsimp only [pick, nthO, dropO] at h
  exact ⟨rfl, h⟩
/-- The disk's bytes are the document's. -/
theorem images_st (h : St w0 w (kg x :: dg d :: jg j d.p :: F)) (rel : Rel x d j) {K : Bool → World → Prop} (hk : ∀ w', St w0 w' (kg x :: dg d :: jg j d.p :: F) → K true w') {im : Sl} (hi : im = x.im) :
    CallK Try.prog .sl 29 #[.pointer d.p] w fun t128 w => CallK Try.prog .bool 28 #[.slice t128.a t128.len t128.cap, .slice im.a im.len im.cap] w fun t133 w => K t133 w := by
  subst hi
  have h := h.ord 3 [1, 2, 0]
  dsimp only [pick, nthO, dropO] at h
  refine (image_st h rel.ok).mono ?_
  rintro r w h
  have hi := h.rd (k := 3) (i := 1) ⟨_, rfl, rfl⟩
  refine (same_ok (h.rd (k := 0) (i := 0) ⟨_, rfl, rfl⟩) hi).mono ?_
  rintro b w' ⟨hw, rfl⟩
  rw [hw, rel.pw.hims]
  have h := h.ord 4 [3, 1, 2]
  dsimp only [pick, nthO, dropO] at h
  simpa using hk _ h
theorem law7 {wi : World} {y : Int} (hy : -9223372036854775808 ≤ y ∧ y ≤ 9223372036854775807) {p : Sl} {b : List UInt8} (hp : Rd wi p 1 (bys b)) : CallK Try.prog .bool 7 #[.int .i64 y, .slice p.a p.len p.cap] wi fun (r : Bool) w' => Upd wi w' nobody ∧ r = true := by
  have h := St.init wi
  refine T7.calls ?_
  unfold T7
  refine (shaped_st h hy (p := p) (fun w h => h.old hp)).mono ?_
  rintro r w ⟨ims, h1, h2, h5, h⟩
  refine (begun_st h h1 h2 h5 (p := r) (fun w h => h.rd (k := 0) (i := 0) ⟨_, rfl, rfl⟩)).mono ?_
  rintro q w ⟨x, d, j, bs, rfl, rel, hxs, hxi, hwr, hsl, hjd, hxo, harmed, h⟩
  refine open_nil.mono ?_
  rintro q w' ⟨rfl, hw⟩
  rw [hw]
  have h := h.drew
  refine (able_st h).mono ?_
  rintro q w ⟨rfl, h⟩
  rw [SplitB_iff]
  refine ⟨fun _ => ?_, (fun hz => by cases hz)⟩
  refine (num_ok 1).mono ?_
  rintro q w' ⟨hw, rfl⟩
  rw [hw, SplitB_iff]
  refine ⟨fun _ => ?_, (fun hz => by simp at hz)⟩
  have hneq : ∀ (w : World) (K : Bool → Prop), K true → ReadN Try.prog .bool (V (do eqGuard .neq 60 (.tmp 25) (.const (.pointer none)) (.pointer x.p) (.pointer none); binOp .neq 60 (.pointer x.p) (.pointer none))) w K := fun w K hK => ReadN.of (kd := .bool) (PtE.neS w _ _ _) hK
  refine hneq _ _ ?_
  rw [SplitB_iff]
  refine ⟨fun _ => ?_, (fun hz => by cases hz)⟩
  try (with_reducible refine NilP.mk ?_)
  refine h.readB 0 0 ⟨_, rfl, rfl⟩ rfl rfl ?_
  try (with_reducible refine NilP.mk ?_)
  refine h.readB 0 0 ⟨_, rfl, rfl⟩ rfl rfl ?_
  refine (tellk_st h rel hjd).mono ?_
  rintro q w ⟨rfl, h⟩
  rw [SplitB_iff]
  refine ⟨fun _ => ?_, (fun hz => by cases hz)⟩
  refine (looks_st h rel).mono ?_
  rintro q w ⟨rfl, h⟩
  rw [SplitB_iff]
  refine ⟨fun _ => ?_, (fun hz => by cases hz)⟩
  try (with_reducible refine NilP.mk ?_)
  refine h.readB 0 0 ⟨_, rfl, rfl⟩ rfl rfl ?_
  rw [rel.dp]
  have h := h.ord 3 [1, 0, 2]
  dsimp only [pick, nthO, dropO] at h
  refine (writes_st h).mono ?_
  rintro q w ⟨rfl, h⟩
  rw [hwr, SplitB_iff]
  refine ⟨fun _ => ?_, (fun hz => by simp at hz)⟩
  try (with_reducible refine NilP.mk ?_)
  refine h.readB 1 0 ⟨_, rfl, rfl⟩ rfl rfl ?_
  rw [rel.dp]
  refine (image_st h rel.ok).mono ?_
  rintro q w h
  refine (same_ok (h.rd (k := 0) (i := 0) ⟨_, rfl, rfl⟩) (h.rd (k := 5) (i := 0) ⟨_, rfl, rfl⟩)).mono ?_
  rintro b w' ⟨hw, rfl⟩
  rw [hw]
  refine ⟨h.upd, ?_⟩
  rw [rel.pw.hims, hxi]; simp

/-- A call as it stands in memory. -/
structure Av where
  k : Int
  A : Int
  N : Int
  B : Sl
  b : List UInt8
def avc (o : Av) : List Value := [.int .i64 o.k, .int .i64 o.A, .int .i64 o.N, .slice o.B.a o.B.len o.B.cap]
/-- What the desk looks at behind a call. -/
theorem behind_st {a : List Ent} (h : St w0 w (a :: kg x :: dg d :: jg j d.p :: F)) (rel : Rel x d j) {K : Bool → World → Prop} (hk : ∀ w', St w0 w' (kg x :: dg d :: jg j d.p :: F) → K true w') :
    NilP x.p fun t125 =>
      ReadN Try.prog .ptr (V (Instr.loadAt 25 (.pointer (some (t125.add 0))))) w.drew fun t127 =>
      NilP x.p fun t130 =>
      ReadN Try.prog .sl (V (Instr.loadAt 31 (.pointer (some (t130.add 2))))) w.drew fun t132 =>
      CallK Try.prog .sl 29 #[.pointer t127] w.drew fun t128 w =>
      StillV Try.prog (V (Instr.loadAt 31 (.pointer (some (t130.add 2))))) (.slice t132.a t132.len t132.cap) w ∧
      CallK Try.prog .bool 28 #[.slice t128.a t128.len t128.cap, .slice t132.a t132.len t132.cap] w fun t133 w =>
      SplitB t133
        (NilP x.p fun t137 =>
        ReadN Try.prog .ptr (V (Instr.loadAt 25 (.pointer (some (t137.add 0))))) w fun t139 =>
        NilP x.p fun t142 =>
        ReadN Try.prog .bool (V (Instr.loadAt 4 (.pointer (some (t142.add 3))))) w fun t144 =>
        CallK Try.prog .bool 33 #[.pointer t139] w fun t140 w =>
        StillV Try.prog (V (Instr.loadAt 4 (.pointer (some (t142.add 3))))) (.bool t144) w ∧
        K (t140 == t144) w)
        (K false w) := by
  have h := h.ord 4 [1, 2, 3]
  dsimp only [pick, nthO, dropO] at h
  try (with_reducible refine NilP.mk ?_)
  refine h.drew.readB 0 0 ⟨_, rfl, rfl⟩ rfl rfl ?_
  try (with_reducible refine NilP.mk ?_)
  refine h.drew.readB 0 0 ⟨_, rfl, rfl⟩ rfl rfl ?_
  rw [rel.dp]
  have h := h.ord 3 [1, 2, 0]
  dsimp only [pick, nthO, dropO] at h
  refine (image_st h.drew rel.ok).mono ?_
  rintro r w h
  refine ⟨h.stillB 3 0 ⟨_, rfl, rfl⟩ rfl rfl, ?_⟩
  have hi := h.rd (k := 3) (i := 1) ⟨_, rfl, rfl⟩
  refine (same_ok (h.rd (k := 0) (i := 0) ⟨_, rfl, rfl⟩) hi).mono ?_
  rintro b w' ⟨hw, rfl⟩
  rw [hw, rel.pw.hims, SplitB_iff]
  refine ⟨fun _ => ?_, (fun hz => by simp at hz)⟩
  try (with_reducible refine NilP.mk ?_)
  refine h.readB 3 0 ⟨_, rfl, rfl⟩ rfl rfl ?_
  rw [rel.dp]
  try (with_reducible refine NilP.mk ?_)
  refine h.readB 3 0 ⟨_, rfl, rfl⟩ rfl rfl ?_
  have h := h.ord 4 [1, 2, 3]
  dsimp only [pick, nthO, dropO] at h
  refine (ison_st h).mono ?_
  rintro r w ⟨rfl, h⟩
  refine ⟨h.stillB 2 0 ⟨_, rfl, rfl⟩ rfl rfl, ?_⟩
  have h := h.ord 3 [2, 0, 1]
  dsimp only [pick, nthO, dropO] at h
  have := rel.pw.hon
  rw [abs_off] at this
  rw [this]
  simpa using hk _ h
theorem played1_st (h : St w0 w (kg x :: dg d :: jg j d.p :: F)) (rel : Rel x d j) (hw : d.wr ≤ 2000000000000000000) {p : Sl} {b : List UInt8} {aA aN : Int} (hp : SeesG w0 F p 1 (bys b)) (hb : b.length ≤ 140737488355326) :
    CallK Try.prog .bool 30 #[.pointer x.p, .agg #[.int .i64 1, .int .i64 aA, .int .i64 aN, .slice p.a p.len p.cap]] w fun (r : Bool) w' =>
      r = true ∧ ∃ (x' : K) (d' : D) (j' : J), Rel x' d' j' ∧ x'.b = x.b ∧ x'.sp = x.sp ∧ d'.b = d.b ∧ d'.wr ≤ d.wr + 17 ∧ d'.secs.length = d.secs.length ∧ (d.off = false → d.armed = false → j.dead = false → d'.off = false ∧ d'.armed = false ∧ j'.dead = false) ∧ St w0 w' (kg x' :: dg d' :: jg j' d'.p :: F) := by
  have hpl := (hp _ (h.ord 3 [])).bys_len
  refine T30.calls (p1 := (1, aA, aN, p, ())) ?_
  unfold T30
  refine h.newB run_boxA rfl ?_
  intro bc w h
  dsimp only at h
  refine JoinX.mk (fun jv w' => jv.1 = true ∧ ∃ (x' : K) (d' : D) (j' : J), Rel x' d' j' ∧ x'.b = x.b ∧ x'.sp = x.sp ∧ d'.b = d.b ∧ d'.wr ≤ d.wr + 17 ∧ d'.secs.length = d.secs.length ∧ (d.off = false → d.armed = false → j.dead = false → d'.off = false ∧ d'.armed = false ∧ j'.dead = false) ∧ St w0 w' ([.cel bc 69 [.int .i64 1, .int .i64 aA, .int .i64 aN, .slice p.a p.len p.cap]] :: kg x' :: dg d' :: jg j' d'.p :: F)) ?_ ?_
  · rintro ⟨_, ⟨⟩⟩ w ⟨hj, x', d', j', rel', hxb, hxs, hdb, hwr, hsl, hlv, h⟩
    dsimp only at hj h ⊢
    subst hj
    have hxp : x.p = x'.p := by rw [K.p, K.p, hxb]
    rw [SplitB_iff]
    refine ⟨fun _ => ?_, (fun hz => by cases hz)⟩
    rw [hxp]
    exact behind_st (K := fun r w' => r = true ∧ ∃ (x' : Ytimebochhbfkgaa.K) (d' : D) (j' : J), Rel x' d' j' ∧ x'.b = x.b ∧ x'.sp = x.sp ∧ d'.b = d.b ∧ d'.wr ≤ d.wr + 17 ∧ d'.secs.length = d.secs.length ∧ (d.off = false → d.armed = false → j.dead = false → d'.off = false ∧ d'.armed = false ∧ j'.dead = false) ∧ St w0 w' (kg x' :: dg d' :: jg j' d'.p :: F)) h rel' fun w h => ⟨rfl, x', d', j', rel', hxb, hxs, hdb, hwr, hsl, hlv, h⟩
  · intro k1 hk1
    try (with_reducible refine NilP.mk ?_)
    refine h.loadB 0 0 ⟨_, rfl, rfl⟩ rfl rfl ?_
    rw [SplitB_iff]
    refine ⟨fun _ => ?_, (fun hz => by simp at hz)⟩
    try (with_reducible refine NilP.mk ?_)
    refine h.loadB 1 0 ⟨_, rfl, rfl⟩ rfl rfl ?_
    rw [rel.dp]
    have h := h.ord 4 [2, 0, 1, 3]
    dsimp only [pick, nthO, dropO] at h
    refine (writes_st h).mono ?_
    rintro q w ⟨rfl, h⟩
    try (with_reducible refine NilP.mk ?_)
    refine h.loadB 1 0 ⟨_, rfl, rfl⟩ rfl rfl ?_
    have h := h.ord 4 [2, 0, 3, 1]
    dsimp only [pick, nthO, dropO] at h
    refine (appends_st h rel hw (p := p) (b := b) (fun w h => hp _ (h.ord 1 [])) hb).mono ?_
    rintro q w ⟨rfl, x', d', j', rel', hxb, hxs, hdb, hjb, hw1, hw2, hsl, hlv, h⟩
    have hxp : x.p = x'.p := by rw [K.p, K.p, hxb]
    rw [SplitB_iff]
    refine ⟨fun _ => ?_, (fun hz => by cases hz)⟩
    rw [hxp]
    try (with_reducible refine NilP.mk ?_)
    refine h.drew.readB 0 0 ⟨_, rfl, rfl⟩ rfl rfl ?_
    rw [rel'.dp]
    try (with_reducible refine NilP.mk ?_)
    refine h.drew.readB 3 0 ⟨_, rfl, rfl⟩ rfl rfl ?_
    have hpi : (p.len : Int) = (b.length : Int) := by rw [hpl]
    refine ReadN.of (kd := .int .i64) (min_i _ _ _) ?_
    rw [hpi]
    have em : min (b.length : Int) 8192 = ((min b.length 8192 : Nat) : Int) := by omega
    rw [em]
    have h := h.ord 4 [1, 0, 2, 3]
    dsimp only [pick, nthO, dropO] at h
    refine (writes_st h.drew).mono ?_
    rintro q w ⟨rfl, h⟩
    refine ⟨StillV.of (by rw [← em]; exact min_i _ _ _), h.stillB 3 0 ⟨_, rfl, rfl⟩ rfl rfl, ?_⟩
    refine (count_ok (n := min b.length 8192) (by omega)).mono ?_
    rintro q w' ⟨hw', rfl⟩
    rw [hw']
    have hc17 := cnt_le (n := min b.length 8192) (by omega)
    have hw0 := rel.ok.w0
    rw [wr (by omega)]
    have h := h.ord 4 [3, 1, 0, 2]
    dsimp only [pick, nthO, dropO] at h
    refine hk1 _ _ ⟨?_, x', d', j', rel', hxb, hxs, hdb, by omega, hsl, hlv, h⟩
    exact decide_eq_true (show d'.wr - d.wr ≤ (cnt (min b.length 8192) : Int) by omega)
theorem law8 {wi : World} {y : Int} (hy : -9223372036854775808 ≤ y ∧ y ≤ 9223372036854775807) {p : Sl} {L : List Bs} (hp : Recs wi p L) (hL : L.length ≤ 5864062014805) : CallK Try.prog .bool 8 #[.int .i64 y, .slice p.a p.len p.cap] wi fun (r : Bool) w' => Upd wi w' nobody ∧ r = true := by
  have h := St.init wi
  have hpl := hp.len
  refine T8.calls ?_
  unfold T8
  refine (shaped_st h hy (p := ⟨none, 0, 0⟩) (b := []) (fun w h => Rd.nil _ _)).mono ?_
  rintro r w ⟨ims, h1, h2, h5, h⟩
  refine (begun_st h h1 h2 h5 (p := r) (fun w h => h.rd (k := 0) (i := 0) ⟨_, rfl, rfl⟩)).mono ?_
  rintro q w ⟨x, d, j, bs, rfl, rel, hxs, hxi, hwr, hsl, hjd, hxo, harmed, h⟩
  have h := h.ord 5 [0, 1, 2]
  dsimp only [pick, nthO, dropO] at h
  have hoff : d.off = false := by have := rel.pw.hon; rw [hxo] at this; simpa using this.symm
  refine JoinX.mk (fun jv w' => jv.1 = false ∧ St wi w' (kg x :: dg d :: jg j d.p :: [])) ?_ ?_
  · rintro ⟨_, ⟨⟩⟩ w ⟨hj, h⟩
    dsimp only at hj h ⊢
    subst hj
    rw [SplitB_iff]
    refine ⟨(fun hz => by cases hz), fun _ => ?_⟩
    refine LoopX.mk (fun st w' => ∃ (k : Nat) (x' : K) (d' : D) (j' : J), st.1 = (k : Int) ∧ k ≤ L.length ∧ Rel x' d' j' ∧ x'.b = x.b ∧ d'.wr ≤ 17 * k ∧ d'.off = false ∧ d'.armed = false ∧ j'.dead = false ∧ St wi w' (kg x' :: dg d' :: jg j' d'.p :: [])) (fun st => L.length - st.1.toNat)
      ⟨0, x, d, j, rfl, Nat.zero_le _, rel, rfl, by omega, hoff, harmed, hjd, h⟩ ?_
    clear h
    rintro ⟨_, ⟨⟩⟩ w ⟨k, y', e, i, rfl, hk, rel, hxb, hwr, ho, ha, hd, h⟩ K hK
    dsimp only at h hK ⊢
    have hxp : x.p = y'.p := by rw [K.p, K.p, hxb]
    rw [hxp, SplitB_iff]
    refine ⟨fun hz => ?_, fun hz => ?_⟩
    · have hz : k < L.length := by
        have h1 : (k : Int) < (p.len : Int) := of_decide_eq_true hz
        omega
      obtain ⟨hx1, hx2⟩ := hp.2 _ (List.getElem_mem hz)
      refine JoinX.mk (fun jv w' => jv.1 = false ∧ ∃ (x' : Ytimebochhbfkgaa.K) (d' : D) (j' : J), Rel x' d' j' ∧ x'.b = x.b ∧ d'.wr ≤ 17 * (k + 1) ∧ d'.off = false ∧ d'.armed = false ∧ j'.dead = false ∧ St wi w' (kg x' :: dg d' :: jg j' d'.p :: [])) ?_ ?_
      · rintro ⟨_, ⟨⟩⟩ w ⟨hj, x', d', j', rel', hxb', hwr', ho', ha', hd', h⟩
        dsimp only at hj h ⊢
        subst hj
        rw [SplitB_iff]
        refine ⟨(fun hz => by cases hz), fun _ => ?_⟩
        exact hK _ _ ⟨k + 1, x', d', j', by dsimp only; rw [wr (by omega)]; omega, hz, rel', hxb', hwr', ho', ha', hd', h⟩ (by dsimp only; rw [wr (by omega)]; omega)
      · intro k5 hk5
        refine (h.old hp.1).idxK k rfl (by omega) ?_
        intro b1 o1 hb1
        refine (h.old hp.1).el hb1 (k * 1) rfl (kd := .sl) (x := L[k].1) (by rw [Nat.mul_one, lsl_at hz]; rfl) ?_
        refine (played1_st h rel (by omega) (p := L[k].1) (b := L[k].2) (fun w h => h.old hx1) (by omega)).mono ?_
        rintro q w ⟨rfl, x', d', j', rel', hxb', hxs', hdb', hwr', hsl', hlv, h⟩
        obtain ⟨ho', ha', hd'⟩ := hlv ho ha hd
        rw [SplitB_iff]
        refine ⟨(fun hz => by cases hz), fun _ => ?_⟩
        have hxp' : y'.p = x'.p := by rw [K.p, K.p, hxb']
        rw [hxp']
        refine (looks_st h rel').mono ?_
        rintro q w ⟨rfl, h⟩
        exact hk5 _ _ ⟨rfl, x', d', j', rel', hxb'.trans hxb, by omega, ho', ha', hd', h⟩
    · skip
      try (with_reducible refine NilP.mk ?_)
      refine h.drew.readB 0 0 ⟨_, rfl, rfl⟩ rfl rfl ?_
      try (with_reducible refine NilP.mk ?_)
      refine h.drew.readB 0 0 ⟨_, rfl, rfl⟩ rfl rfl ?_
      refine (tellk_st h.drew rel hd).mono ?_
      rintro q w ⟨rfl, h⟩
      rw [SplitB_iff]
      refine ⟨fun _ => ?_, (fun hz => by cases hz)⟩
      have h := h.ord 3 [0, 1]
      dsimp only [pick, nthO, dropO] at h
      refine (opens_st h rel.ok rel.dp rel.pw (by have := rel.pw.hon; rw [abs_off, ho] at this; exact this)).mono ?_
      rintro q w ⟨rfl, x', j', rel', hxb', hxs', hxi', hjd', hxo', h⟩
      rw [SplitB_iff]
      refine ⟨fun _ => ?_, (fun hz => by cases hz)⟩
      have hxp' : y'.p = x'.p := by rw [K.p, K.p, hxb']
      rw [hxp']
      try (with_reducible refine NilP.mk ?_)
      refine h.readB 0 0 ⟨_, rfl, rfl⟩ rfl rfl ?_
      try (with_reducible refine NilP.mk ?_)
      refine h.readB 0 0 ⟨_, rfl, rfl⟩ rfl rfl ?_
      refine (tellk_st h rel' hjd').mono ?_
      rintro q w ⟨rfl, h⟩
      exact ⟨h.upd, rfl⟩
  · intro k hk
    refine (able_st h).mono ?_
    rintro r w ⟨rfl, h⟩
    rw [SplitB_iff]
    refine ⟨(fun hz => by cases hz), fun _ => ?_⟩
    first | refine RunN.pEqS ?_ | refine RunN.pEqN ?_ | refine RunN.pNeS ?_ | refine RunN.pNeN ?_
    exact hk _ _ ⟨rfl, h⟩
end Go.Proofs.Ytimebochhbfkgaa
