/- A pair's calls: those that change, those that ask. -/
import Derived.Test.YtpdaoahamgegoaaDkY
namespace Go.Proofs.Ytpdaoahamgegoaa
open Go Go.Fw Go.RowKit
set_option linter.unusedVariables false
set_option linter.unusedSimpArgs false
set_option maxRecDepth 4000
set_option maxHeartbeats 4000000
variable {w0 w : World} {F G : Grps} {p : Q} {N : Nat} {d : D}

instance : Sc Try.prog 54 := ⟨by kernel_rfl⟩
instance : PtE Try.prog 54 := ⟨fun _ _ _ _ => by kernel_rfl, fun _ _ _ => by kernel_rfl, fun _ _ _ _ => by kernel_rfl, fun _ _ _ => by kernel_rfl⟩
instance : PtE Try.prog 61 := ⟨fun _ _ _ _ => by kernel_rfl, fun _ _ _ => by kernel_rfl, fun _ _ _ _ => by kernel_rfl, fun _ _ _ => by kernel_rfl⟩
structure Ov where
  k : Int
  who : Int
  n : Int
  m : Int
  d : Sl
  b : List UInt8
def ovc (o : Ov) : List Value := [.int .i64 o.k, .int .i64 o.who, .int .i64 o.n, .int .i64 o.m, .slice o.d.a o.d.len o.d.cap]
structure POk (N : Nat) (p : Q) : Prop where
  q : QOk N p
  d : DOk p.d
  r : ROk p.r
  rel : Rel p.d p.r
  lg : p.r.log.length ≤ N
theorem POk.mono {N M : Nat} {p : Q} (h : POk N p) (hm : N ≤ M) : POk M p := ⟨h.q.mono hm, h.d, h.r, h.rel, Nat.le_trans h.lg hm⟩
theorem POk.kp {N M : Nat} {p p' : Q} (h : POk N p) (hk : Kp p p') (hq : QOk M p') (hm : N ≤ M) : POk M p' := by
  refine ⟨hq, ?_, ?_, ?_, ?_⟩
  · rw [hk.d]; exact h.d
  · rw [hk.r]; exact h.r
  · rw [hk.d, hk.r]; exact h.rel
  · rw [hk.r]; exact Nat.le_trans h.lg hm
theorem qc_d {p : Q} {d' : D} (hb : d'.b = p.d.b) : ({ p with d := d' } : Q).c = p.c := by simp [Q.c, qcel, D.p, hb]
theorem qc_r {p : Q} {r' : R} (hb : r'.b = p.r.b) : ({ p with r := r' } : Q).c = p.c := by simp [Q.c, qcel, R.p, hb]
theorem reach_cases (r : R) (n : Int) : r.reach n = 200 ∨ r.reach n = 201 ∨ r.reach n = 0 := by
  unfold R.reach; split
  · exact .inl rfl
  · split
    · exact .inr (.inr rfl)
    · exact .inr (.inl rfl)
/-- Reading, whatever the number. -/
theorem read_any (h : St w0 w (dg d :: F)) (ok : DOk d) (n : Int) : CallK Try.prog (.tup (.cons .sl (.cons (.int .i64) .nilT))) 17 #[.pointer d.p, .int .i64 n] w fun (r : Sl × Int × Unit) w' =>
    r.2.1 = d.abs.reach n ∧ St w0 w' ([.row 5 1 r.1 (bys (if d.abs.reach n = 0 then d.abs.ims.getD n.toNat [] else []))] :: dg d :: F) := by
  by_cases h0 : d.abs.reach n = 0
  · have hn : d.off = false ∧ 0 ≤ n ∧ n < d.secs.length := by
      unfold A.reach at h0
      rw [abs_off, abs_len] at h0
      cases ho : d.off with
      | true => rw [ho] at h0; simp at h0
      | false =>
        rw [ho] at h0
        refine ⟨rfl, ?_⟩
        by_cases hlt : 0 ≤ n ∧ n < (d.secs.length : Int)
        · exact hlt
        · rw [if_neg (by simp), if_neg hlt] at h0; cases h0
    obtain ⟨ho, hn0, hn1⟩ := hn
    obtain ⟨m, rfl⟩ : ∃ m : Nat, n = (m : Int) := ⟨n.toNat, by omega⟩
    have hm : m < d.secs.length := by omega
    refine (read_st h ok hm ho).mono ?_
    rintro ⟨s, e, ⟨⟩⟩ w ⟨he, hl, h⟩
    dsimp only at he hl h ⊢
    refine ⟨he.trans h0.symm, ?_⟩
    rw [if_pos h0, Int.toNat_natCast, getD_at (by rw [abs_len]; exact hm)]
    simpa [D.abs] using h
  · refine T17.calls ?_
    unfold T17
    refine (reach_st h n).mono ?_
    rintro r w ⟨rfl, h⟩
    rw [SplitB_iff]
    refine ⟨fun _ => ⟨rfl, ?_⟩, fun hz => absurd (by simpa using hz) h0⟩
    rw [if_neg h0]
    exact h.nilrow 5 1
theorem tl (n : Nat) {G : Grps} (h : St w0 w G) : St w0 w (G.drop n) := by
  induction n generalizing G with
  | zero => exact h
  | succ n ih =>
    cases G with
    | nil => simpa using h
    | cons g r => exact ih (h.drop 0)
/-- A call that changes something. -/
theorem acts_st (h : St w0 w (gs p F)) (ok : POk N p) (hN : N ≤ 1000000) {o : Ov} (ho : SeesG w0 F o.d 1 (bys o.b)) (hb : o.b.length ≤ 4194304) (hm : o.n ≤ 9223372036854775807) :
    CallK Try.prog .bool 43 #[.pointer (some ⟨p.b, 0, none⟩), .agg #[.int .i64 o.k, .int .i64 o.who, .int .i64 o.n, .int .i64 o.m, .slice o.d.a o.d.len o.d.cap]] w fun (r : Bool) w' => r = true ∧ ∃ p', p'.b = p.b ∧ p'.n = p.n ∧ POk (N + 1) p' ∧ St w0 w' (gs p' F) := by
  have hol := (ho _ (gs_F h)).bys_len
  have hocap := (ho _ (gs_F h)).2.2
  have hlg := ok.lg
  have hrw := ok.rel.wr
  refine T43.calls (p1 := (o.k, o.who, o.n, o.m, o.d, ())) ?_
  unfold T43
  refine h.newB run_boxA (by rfl) ?_
  intro t3 w h
  repeat (first | (with_reducible refine NilP.mk ?_) | ((with_reducible refine RunN.isLoad ?_); (first | refine h.loadB 0 0 ⟨_, rfl, rfl⟩ rfl rfl ?_ | refine h.loadB 1 0 ⟨_, rfl, rfl⟩ rfl rfl ?_ | refine h.drew.loadB 0 0 ⟨_, rfl, rfl⟩ rfl rfl ?_ | refine h.drew.loadB 1 0 ⟨_, rfl, rfl⟩ rfl rfl ?_)) | ((with_reducible refine ReadN.isLoad ?_); (first | refine h.readB 0 0 ⟨_, rfl, rfl⟩ rfl rfl ?_ | refine h.readB 1 0 ⟨_, rfl, rfl⟩ rfl rfl ?_ | refine h.drew.readB 0 0 ⟨_, rfl, rfl⟩ rfl rfl ?_ | refine h.drew.readB 1 0 ⟨_, rfl, rfl⟩ rfl rfl ?_)) | ((with_reducible refine StillV.isLoad ?_); (first | refine ⟨h.stillB 0 0 ⟨_, rfl, rfl⟩ rfl rfl, ?_⟩ | refine ⟨h.stillB 1 0 ⟨_, rfl, rfl⟩ rfl rfl, ?_⟩)) | ((with_reducible refine RunU.isStor ?_); (first | (refine h.storB 0 0 ⟨_, rfl, rfl⟩ rfl rfl rfl ?_; intro w h; dsimp only [updG, setO] at h) | (refine h.storB 1 0 ⟨_, rfl, rfl⟩ rfl rfl rfl ?_; intro w h; dsimp only [updG, setO] at h) | (refine h.drew.storB 0 0 ⟨_, rfl, rfl⟩ rfl rfl rfl ?_; intro w h; dsimp only [updG, setO] at h) | (refine h.drew.storB 1 0 ⟨_, rfl, rfl⟩ rfl rfl rfl ?_; intro w h; dsimp only [updG, setO] at h))) | ((with_reducible refine RunN.isBox ?_); (first | (refine h.newB run_boxA rfl ?_; intro bn w h; try dsimp only at h) | (refine h.drew.newB run_boxA rfl ?_; intro bn w h; try dsimp only at h))) | ((with_reducible refine RunN.isNew ?_); (first | (refine h.newB (NewC.run _) rfl ?_; intro bn w h) | (refine h.drew.newB (NewC.run _) rfl ?_; intro bn w h))))
  rw [SplitB_iff]
  refine ⟨fun hk1 => ?_, fun hk1 => ?_⟩
  · skip
    repeat (first | (with_reducible refine NilP.mk ?_) | ((with_reducible refine RunN.isLoad ?_); (first | refine h.loadB 0 0 ⟨_, rfl, rfl⟩ rfl rfl ?_ | refine h.loadB 1 0 ⟨_, rfl, rfl⟩ rfl rfl ?_ | refine h.drew.loadB 0 0 ⟨_, rfl, rfl⟩ rfl rfl ?_ | refine h.drew.loadB 1 0 ⟨_, rfl, rfl⟩ rfl rfl ?_)) | ((with_reducible refine ReadN.isLoad ?_); (first | refine h.readB 0 0 ⟨_, rfl, rfl⟩ rfl rfl ?_ | refine h.readB 1 0 ⟨_, rfl, rfl⟩ rfl rfl ?_ | refine h.drew.readB 0 0 ⟨_, rfl, rfl⟩ rfl rfl ?_ | refine h.drew.readB 1 0 ⟨_, rfl, rfl⟩ rfl rfl ?_)) | ((with_reducible refine StillV.isLoad ?_); (first | refine ⟨h.stillB 0 0 ⟨_, rfl, rfl⟩ rfl rfl, ?_⟩ | refine ⟨h.stillB 1 0 ⟨_, rfl, rfl⟩ rfl rfl, ?_⟩)) | ((with_reducible refine RunU.isStor ?_); (first | (refine h.storB 0 0 ⟨_, rfl, rfl⟩ rfl rfl rfl ?_; intro w h; dsimp only [updG, setO] at h) | (refine h.storB 1 0 ⟨_, rfl, rfl⟩ rfl rfl rfl ?_; intro w h; dsimp only [updG, setO] at h) | (refine h.drew.storB 0 0 ⟨_, rfl, rfl⟩ rfl rfl rfl ?_; intro w h; dsimp only [updG, setO] at h) | (refine h.drew.storB 1 0 ⟨_, rfl, rfl⟩ rfl rfl rfl ?_; intro w h; dsimp only [updG, setO] at h))) | ((with_reducible refine RunN.isBox ?_); (first | (refine h.newB run_boxA rfl ?_; intro bn w h; try dsimp only at h) | (refine h.drew.newB run_boxA rfl ?_; intro bn w h; try dsimp only at h))) | ((with_reducible refine RunN.isNew ?_); (first | (refine h.newB (NewC.run _) rfl ?_; intro bn w h) | (refine h.drew.newB (NewC.run _) rfl ?_; intro bn w h))))
    have h := h.drew.bring 17 rfl
    dsimp only [delO] at h
    refine (again_st h (p := o.d) (l := o.b) (fun w h => ho w (tl 17 h)) (by omega)).mono ?_
    rintro c w ⟨hcl, h⟩
    have h := h.back 17
    dsimp only [insO] at h
    have hcc := (h.rd (k := 17) (i := 0) ⟨_, rfl, rfl⟩).2.2
    repeat (first | (with_reducible refine NilP.mk ?_) | ((with_reducible refine RunN.isLoad ?_); (first | refine h.loadB 0 0 ⟨_, rfl, rfl⟩ rfl rfl ?_ | refine h.loadB 1 0 ⟨_, rfl, rfl⟩ rfl rfl ?_ | refine h.drew.loadB 0 0 ⟨_, rfl, rfl⟩ rfl rfl ?_ | refine h.drew.loadB 1 0 ⟨_, rfl, rfl⟩ rfl rfl ?_)) | ((with_reducible refine ReadN.isLoad ?_); (first | refine h.readB 0 0 ⟨_, rfl, rfl⟩ rfl rfl ?_ | refine h.readB 1 0 ⟨_, rfl, rfl⟩ rfl rfl ?_ | refine h.drew.readB 0 0 ⟨_, rfl, rfl⟩ rfl rfl ?_ | refine h.drew.readB 1 0 ⟨_, rfl, rfl⟩ rfl rfl ?_)) | ((with_reducible refine StillV.isLoad ?_); (first | refine ⟨h.stillB 0 0 ⟨_, rfl, rfl⟩ rfl rfl, ?_⟩ | refine ⟨h.stillB 1 0 ⟨_, rfl, rfl⟩ rfl rfl, ?_⟩)) | ((with_reducible refine RunU.isStor ?_); (first | (refine h.storB 0 0 ⟨_, rfl, rfl⟩ rfl rfl rfl ?_; intro w h; dsimp only [updG, setO] at h) | (refine h.storB 1 0 ⟨_, rfl, rfl⟩ rfl rfl rfl ?_; intro w h; dsimp only [updG, setO] at h) | (refine h.drew.storB 0 0 ⟨_, rfl, rfl⟩ rfl rfl rfl ?_; intro w h; dsimp only [updG, setO] at h) | (refine h.drew.storB 1 0 ⟨_, rfl, rfl⟩ rfl rfl rfl ?_; intro w h; dsimp only [updG, setO] at h))) | ((with_reducible refine RunN.isBox ?_); (first | (refine h.newB run_boxA rfl ?_; intro bn w h; try dsimp only at h) | (refine h.drew.newB run_boxA rfl ?_; intro bn w h; try dsimp only at h))) | ((with_reducible refine RunN.isNew ?_); (first | (refine h.newB (NewC.run _) rfl ?_; intro bn w h) | (refine h.drew.newB (NewC.run _) rfl ?_; intro bn w h))))
    have h : St w0 _ ([.cel t3 59 (ovc o)] :: gs { p with lent := c, lb := o.b ++ mks } F) := h
    repeat (first | (with_reducible refine NilP.mk ?_) | ((with_reducible refine RunN.isLoad ?_); (first | refine h.loadB 0 0 ⟨_, rfl, rfl⟩ rfl rfl ?_ | refine h.loadB 1 0 ⟨_, rfl, rfl⟩ rfl rfl ?_ | refine h.drew.loadB 0 0 ⟨_, rfl, rfl⟩ rfl rfl ?_ | refine h.drew.loadB 1 0 ⟨_, rfl, rfl⟩ rfl rfl ?_)) | ((with_reducible refine ReadN.isLoad ?_); (first | refine h.readB 0 0 ⟨_, rfl, rfl⟩ rfl rfl ?_ | refine h.readB 1 0 ⟨_, rfl, rfl⟩ rfl rfl ?_ | refine h.drew.readB 0 0 ⟨_, rfl, rfl⟩ rfl rfl ?_ | refine h.drew.readB 1 0 ⟨_, rfl, rfl⟩ rfl rfl ?_)) | ((with_reducible refine StillV.isLoad ?_); (first | refine ⟨h.stillB 0 0 ⟨_, rfl, rfl⟩ rfl rfl, ?_⟩ | refine ⟨h.stillB 1 0 ⟨_, rfl, rfl⟩ rfl rfl, ?_⟩)) | ((with_reducible refine RunU.isStor ?_); (first | (refine h.storB 0 0 ⟨_, rfl, rfl⟩ rfl rfl rfl ?_; intro w h; dsimp only [updG, setO] at h) | (refine h.storB 1 0 ⟨_, rfl, rfl⟩ rfl rfl rfl ?_; intro w h; dsimp only [updG, setO] at h) | (refine h.drew.storB 0 0 ⟨_, rfl, rfl⟩ rfl rfl rfl ?_; intro w h; dsimp only [updG, setO] at h) | (refine h.drew.storB 1 0 ⟨_, rfl, rfl⟩ rfl rfl rfl ?_; intro w h; dsimp only [updG, setO] at h))) | ((with_reducible refine RunN.isBox ?_); (first | (refine h.newB run_boxA rfl ?_; intro bn w h; try dsimp only at h) | (refine h.drew.newB run_boxA rfl ?_; intro bn w h; try dsimp only at h))) | ((with_reducible refine RunN.isNew ?_); (first | (refine h.newB (NewC.run _) rfl ?_; intro bn w h) | (refine h.drew.newB (NewC.run _) rfl ?_; intro bn w h))))
    refine ReadN.sH (s := c) o.b.length (by rw [hol]) (by omega) ?_
    have h := h.drew.bring 2 rfl
    dsimp only [delO] at h
    refine (write_st h ok.d (by omega) (p := subS c 0 o.b.length 1) (c := o.b) (fun w h => ?_) o.n).mono ?_
    · have hpre := (h.rd (k := 16) (i := 0) ⟨_, rfl, rfl⟩).pre (hi := o.b.length) (by omega)
      have e : (bys (o.b ++ mks)).take (o.b.length * 1) = bys o.b := by rw [bys_append, Nat.mul_one, List.take_append_of_le_length (by simp), List.take_of_length_le (by simp)]
      rw [e] at hpre
      exact hpre
    rintro x w ⟨rfl, d', hdb, hd', okd, h⟩
    have h := h.back 2
    dsimp only [insO] at h
    have eqd := qc_d (p := { p with lent := c, lb := o.b ++ mks }) (d' := d') hdb
    have h : St w0 w ([.cel t3 59 (ovc o)] :: gs { p with lent := c, lb := o.b ++ mks, d := d' } F) := by
      show St w0 w ([.cel t3 59 (ovc o)] :: gs' _ (({ ({ p with lent := c, lb := o.b ++ mks } : Q) with d := d' } : Q).c) F)
      rw [eqd]; exact h
    repeat (first | (with_reducible refine NilP.mk ?_) | ((with_reducible refine RunN.isLoad ?_); (first | refine h.loadB 0 0 ⟨_, rfl, rfl⟩ rfl rfl ?_ | refine h.loadB 1 0 ⟨_, rfl, rfl⟩ rfl rfl ?_ | refine h.drew.loadB 0 0 ⟨_, rfl, rfl⟩ rfl rfl ?_ | refine h.drew.loadB 1 0 ⟨_, rfl, rfl⟩ rfl rfl ?_)) | ((with_reducible refine ReadN.isLoad ?_); (first | refine h.readB 0 0 ⟨_, rfl, rfl⟩ rfl rfl ?_ | refine h.readB 1 0 ⟨_, rfl, rfl⟩ rfl rfl ?_ | refine h.drew.readB 0 0 ⟨_, rfl, rfl⟩ rfl rfl ?_ | refine h.drew.readB 1 0 ⟨_, rfl, rfl⟩ rfl rfl ?_)) | ((with_reducible refine StillV.isLoad ?_); (first | refine ⟨h.stillB 0 0 ⟨_, rfl, rfl⟩ rfl rfl, ?_⟩ | refine ⟨h.stillB 1 0 ⟨_, rfl, rfl⟩ rfl rfl, ?_⟩)) | ((with_reducible refine RunU.isStor ?_); (first | (refine h.storB 0 0 ⟨_, rfl, rfl⟩ rfl rfl rfl ?_; intro w h; dsimp only [updG, setO] at h) | (refine h.storB 1 0 ⟨_, rfl, rfl⟩ rfl rfl rfl ?_; intro w h; dsimp only [updG, setO] at h) | (refine h.drew.storB 0 0 ⟨_, rfl, rfl⟩ rfl rfl rfl ?_; intro w h; dsimp only [updG, setO] at h) | (refine h.drew.storB 1 0 ⟨_, rfl, rfl⟩ rfl rfl rfl ?_; intro w h; dsimp only [updG, setO] at h))) | ((with_reducible refine RunN.isBox ?_); (first | (refine h.newB run_boxA rfl ?_; intro bn w h; try dsimp only at h) | (refine h.drew.newB run_boxA rfl ?_; intro bn w h; try dsimp only at h))) | ((with_reducible refine RunN.isNew ?_); (first | (refine h.newB (NewC.run _) rfl ?_; intro bn w h) | (refine h.drew.newB (NewC.run _) rfl ?_; intro bn w h))))
    have h := h.drew.bring 3 rfl
    dsimp only [delO] at h
    refine (rwrite_st h ok.r (by omega) (p := o.d) (c := o.b) (fun w h => ho w (tl 17 h)) (by omega) o.n).mono ?_
    rintro y w ⟨r', hrb, hcase, h⟩
    have h := h.back 3
    dsimp only [insO] at h
    have eqr := qc_r (p := { p with lent := c, lb := o.b ++ mks, d := d' }) (r' := r') hrb
    have h : St w0 w ([.cel t3 59 (ovc o)] :: gs { p with lent := c, lb := o.b ++ mks, d := d', r := r' } F) := by
      show St w0 w ([.cel t3 59 (ovc o)] :: gs' _ (({ ({ p with lent := c, lb := o.b ++ mks, d := d' } : Q) with r := r' } : Q).c) F)
      rw [eqr]; exact h
    have hrel : (p.d.abs.write o.n o.b).1 = y ∧ Rel d' r' ∧ ROk r' ∧ r'.log.length ≤ N + 1 := by
      have hre := ok.rel.reach o.n
      rcases hcase with ⟨h1, h2, h3⟩ | ⟨h1, h2, h3, h4⟩ | ⟨h1, h2, h3, h4, ls, q, h5⟩ | ⟨h1, h2, h3, h4, ls, q, h5⟩
      · have e : p.d.abs.write o.n o.b = (p.d.abs.reach o.n, p.d.abs) := by unfold A.write; rw [if_pos (by rw [hre]; exact h1)]
        rw [e] at hd' ⊢
        subst h3
        exact ⟨hre.trans h2.symm, ok.rel.of_abs hd', ok.r, by omega⟩
      · have e : p.d.abs.write o.n o.b = (1, p.d.abs) := by unfold A.write; rw [if_neg (by rw [hre]; exact fun h => h h1), if_pos h2]
        rw [e] at hd' ⊢
        subst h4
        exact ⟨h3.symm, ok.rel.of_abs hd', ok.r, by omega⟩
      all_goals
        have e : p.d.abs.write o.n o.b = p.d.abs.wrote o.n o.b := by unfold A.write; rw [if_neg (by rw [hre]; exact fun h => h h1), if_neg (fun h => h h2)]
        rw [e] at hd' ⊢
        obtain ⟨m, hm'⟩ : ∃ m : Nat, o.n = (m : Int) := by
          refine ⟨o.n.toNat, ?_⟩
          unfold R.reach at h1
          split at h1
          · cases h1
          · split at h1
            · omega
            · cases h1
        rw [hm'] at hd' ⊢
        have := rel_write ok.rel ok.d ok.r h2 (by rw [← hm', hre]; exact h1) hd' ls q
      · obtain ⟨k1, k2, k3⟩ := this.1 h3
        rw [hm', Int.toNat_natCast] at h5
        subst h5
        exact ⟨k1.trans h4.symm, k2, k3, by simp [R.add]; omega⟩
      · obtain ⟨k1, k2, k3⟩ := this.2 h3
        rw [hm', Int.toNat_natCast] at h5
        subst h5
        exact ⟨k1.trans h4.symm, k2, k3, by simp [R.add]; omega⟩
    obtain ⟨hxy, hR, hRO, hlg'⟩ := hrel
    repeat (first | (with_reducible refine NilP.mk ?_) | ((with_reducible refine RunN.isLoad ?_); (first | refine h.loadB 0 0 ⟨_, rfl, rfl⟩ rfl rfl ?_ | refine h.loadB 1 0 ⟨_, rfl, rfl⟩ rfl rfl ?_ | refine h.drew.loadB 0 0 ⟨_, rfl, rfl⟩ rfl rfl ?_ | refine h.drew.loadB 1 0 ⟨_, rfl, rfl⟩ rfl rfl ?_)) | ((with_reducible refine ReadN.isLoad ?_); (first | refine h.readB 0 0 ⟨_, rfl, rfl⟩ rfl rfl ?_ | refine h.readB 1 0 ⟨_, rfl, rfl⟩ rfl rfl ?_ | refine h.drew.readB 0 0 ⟨_, rfl, rfl⟩ rfl rfl ?_ | refine h.drew.readB 1 0 ⟨_, rfl, rfl⟩ rfl rfl ?_)) | ((with_reducible refine StillV.isLoad ?_); (first | refine ⟨h.stillB 0 0 ⟨_, rfl, rfl⟩ rfl rfl, ?_⟩ | refine ⟨h.stillB 1 0 ⟨_, rfl, rfl⟩ rfl rfl, ?_⟩)) | ((with_reducible refine RunU.isStor ?_); (first | (refine h.storB 0 0 ⟨_, rfl, rfl⟩ rfl rfl rfl ?_; intro w h; dsimp only [updG, setO] at h) | (refine h.storB 1 0 ⟨_, rfl, rfl⟩ rfl rfl rfl ?_; intro w h; dsimp only [updG, setO] at h) | (refine h.drew.storB 0 0 ⟨_, rfl, rfl⟩ rfl rfl rfl ?_; intro w h; dsimp only [updG, setO] at h) | (refine h.drew.storB 1 0 ⟨_, rfl, rfl⟩ rfl rfl rfl ?_; intro w h; dsimp only [updG, setO] at h))) | ((with_reducible refine RunN.isBox ?_); (first | (refine h.newB run_boxA rfl ?_; intro bn w h; try dsimp only at h) | (refine h.drew.newB run_boxA rfl ?_; intro bn w h; try dsimp only at h))) | ((with_reducible refine RunN.isNew ?_); (first | (refine h.newB (NewC.run _) rfl ?_; intro bn w h) | (refine h.drew.newB (NewC.run _) rfl ?_; intro bn w h))))
    have h := h.bring 17 rfl
    dsimp only [delO] at h
    refine (kept_st h (ho _ (tl 18 h)) (by omega)).mono ?_
    rintro x w ⟨rfl, l', hl', h⟩
    have h := h.back 17
    dsimp only [insO] at h
    have h := h.drop 0
    dsimp only [delO] at h
    refine (num_ok _).mono ?_
    rintro x w' ⟨hw', rfl⟩
    subst hw'
    rw [SplitB_iff]
    refine ⟨fun hz => ?_, fun hz => ?_⟩
    · exact ⟨rfl, { p with lent := c, lb := l', d := d', r := r' }, rfl, rfl, ⟨{ (ok.q.mono (Nat.le_succ N)) with }, okd, hRO, hR, hlg'⟩, h⟩
    · rw [hxy] at hz; simp at hz
  · skip
    rw [SplitB_iff]
    refine ⟨fun hk2 => ?_, fun hk2 => ?_⟩
    · skip
      repeat (first | (with_reducible refine NilP.mk ?_) | ((with_reducible refine RunN.isLoad ?_); (first | refine h.loadB 0 0 ⟨_, rfl, rfl⟩ rfl rfl ?_ | refine h.loadB 1 0 ⟨_, rfl, rfl⟩ rfl rfl ?_ | refine h.drew.loadB 0 0 ⟨_, rfl, rfl⟩ rfl rfl ?_ | refine h.drew.loadB 1 0 ⟨_, rfl, rfl⟩ rfl rfl ?_)) | ((with_reducible refine ReadN.isLoad ?_); (first | refine h.readB 0 0 ⟨_, rfl, rfl⟩ rfl rfl ?_ | refine h.readB 1 0 ⟨_, rfl, rfl⟩ rfl rfl ?_ | refine h.drew.readB 0 0 ⟨_, rfl, rfl⟩ rfl rfl ?_ | refine h.drew.readB 1 0 ⟨_, rfl, rfl⟩ rfl rfl ?_)) | ((with_reducible refine StillV.isLoad ?_); (first | refine ⟨h.stillB 0 0 ⟨_, rfl, rfl⟩ rfl rfl, ?_⟩ | refine ⟨h.stillB 1 0 ⟨_, rfl, rfl⟩ rfl rfl, ?_⟩)) | ((with_reducible refine RunU.isStor ?_); (first | (refine h.storB 0 0 ⟨_, rfl, rfl⟩ rfl rfl rfl ?_; intro w h; dsimp only [updG, setO] at h) | (refine h.storB 1 0 ⟨_, rfl, rfl⟩ rfl rfl rfl ?_; intro w h; dsimp only [updG, setO] at h) | (refine h.drew.storB 0 0 ⟨_, rfl, rfl⟩ rfl rfl rfl ?_; intro w h; dsimp only [updG, setO] at h) | (refine h.drew.storB 1 0 ⟨_, rfl, rfl⟩ rfl rfl rfl ?_; intro w h; dsimp only [updG, setO] at h))) | ((with_reducible refine RunN.isBox ?_); (first | (refine h.newB run_boxA rfl ?_; intro bn w h; try dsimp only at h) | (refine h.drew.newB run_boxA rfl ?_; intro bn w h; try dsimp only at h))) | ((with_reducible refine RunN.isNew ?_); (first | (refine h.newB (NewC.run _) rfl ?_; intro bn w h) | (refine h.drew.newB (NewC.run _) rfl ?_; intro bn w h))))
      have h := h.drew.bring 2 rfl
      dsimp only [delO] at h
      refine (arm_st h ok.d o.n o.m hm).mono ?_
      rintro ⟨⟩ w ⟨d', hdb, hd', okd, h⟩
      have h := h.back 2
      dsimp only [insO] at h
      have eqd := qc_d (p := p) (d' := d') hdb
      have h : St w0 w ([.cel t3 59 (ovc o)] :: gs { p with d := d' } F) := by
        show St w0 w ([.cel t3 59 (ovc o)] :: gs' _ (({ p with d := d' } : Q).c) F)
        rw [eqd]; exact h
      repeat (first | (with_reducible refine NilP.mk ?_) | ((with_reducible refine RunN.isLoad ?_); (first | refine h.loadB 0 0 ⟨_, rfl, rfl⟩ rfl rfl ?_ | refine h.loadB 1 0 ⟨_, rfl, rfl⟩ rfl rfl ?_ | refine h.drew.loadB 0 0 ⟨_, rfl, rfl⟩ rfl rfl ?_ | refine h.drew.loadB 1 0 ⟨_, rfl, rfl⟩ rfl rfl ?_)) | ((with_reducible refine ReadN.isLoad ?_); (first | refine h.readB 0 0 ⟨_, rfl, rfl⟩ rfl rfl ?_ | refine h.readB 1 0 ⟨_, rfl, rfl⟩ rfl rfl ?_ | refine h.drew.readB 0 0 ⟨_, rfl, rfl⟩ rfl rfl ?_ | refine h.drew.readB 1 0 ⟨_, rfl, rfl⟩ rfl rfl ?_)) | ((with_reducible refine StillV.isLoad ?_); (first | refine ⟨h.stillB 0 0 ⟨_, rfl, rfl⟩ rfl rfl, ?_⟩ | refine ⟨h.stillB 1 0 ⟨_, rfl, rfl⟩ rfl rfl, ?_⟩)) | ((with_reducible refine RunU.isStor ?_); (first | (refine h.storB 0 0 ⟨_, rfl, rfl⟩ rfl rfl rfl ?_; intro w h; dsimp only [updG, setO] at h) | (refine h.storB 1 0 ⟨_, rfl, rfl⟩ rfl rfl rfl ?_; intro w h; dsimp only [updG, setO] at h) | (refine h.drew.storB 0 0 ⟨_, rfl, rfl⟩ rfl rfl rfl ?_; intro w h; dsimp only [updG, setO] at h) | (refine h.drew.storB 1 0 ⟨_, rfl, rfl⟩ rfl rfl rfl ?_; intro w h; dsimp only [updG, setO] at h))) | ((with_reducible refine RunN.isBox ?_); (first | (refine h.newB run_boxA rfl ?_; intro bn w h; try dsimp only at h) | (refine h.drew.newB run_boxA rfl ?_; intro bn w h; try dsimp only at h))) | ((with_reducible refine RunN.isNew ?_); (first | (refine h.newB (NewC.run _) rfl ?_; intro bn w h) | (refine h.drew.newB (NewC.run _) rfl ?_; intro bn w h))))
      have h := h.drew.bring 3 rfl
      dsimp only [delO] at h
      refine (rarm_st h o.n o.m).mono ?_
      rintro ⟨⟩ w h
      have h := h.back 3
      dsimp only [insO] at h
      have hrel := rel_arm ok.rel o.n o.m hd'
      generalize hr' : (if p.r.on then { p.r with left := max o.n (-1), torn := min (max o.m 0) 512 } else p.r) = r' at h hrel
      have hrb : r'.b = p.r.b := by rw [← hr']; split <;> rfl
      have hrl : r'.log.length = p.r.log.length := by rw [← hr']; split <;> rfl
      have hro : ROk r' := by
        rw [← hr']; split
        · exact ⟨ok.r.N1, ok.r.base5, ok.r.bl, ok.r.fst, ok.r.lg, by dsimp only; omega, by dsimp only; omega⟩
        · exact ok.r
      have eqr := qc_r (p := { p with d := d' }) (r' := r') hrb
      have h := h.drop 0
      dsimp only [delO] at h
      refine ⟨rfl, { p with d := d', r := r' }, rfl, rfl, ⟨{ (ok.q.mono (Nat.le_succ N)) with }, okd, hro, hrel, by dsimp only; omega⟩, ?_⟩
      show St w0 _ (gs' _ (({ ({ p with d := d' } : Q) with r := r' } : Q).c) F)
      rw [eqr]; exact h
    · skip
      rw [SplitB_iff]
      refine ⟨fun hk3 => ?_, fun hk3 => ?_⟩
      · skip
        repeat (first | (with_reducible refine NilP.mk ?_) | ((with_reducible refine RunN.isLoad ?_); (first | refine h.loadB 0 0 ⟨_, rfl, rfl⟩ rfl rfl ?_ | refine h.loadB 1 0 ⟨_, rfl, rfl⟩ rfl rfl ?_ | refine h.drew.loadB 0 0 ⟨_, rfl, rfl⟩ rfl rfl ?_ | refine h.drew.loadB 1 0 ⟨_, rfl, rfl⟩ rfl rfl ?_)) | ((with_reducible refine ReadN.isLoad ?_); (first | refine h.readB 0 0 ⟨_, rfl, rfl⟩ rfl rfl ?_ | refine h.readB 1 0 ⟨_, rfl, rfl⟩ rfl rfl ?_ | refine h.drew.readB 0 0 ⟨_, rfl, rfl⟩ rfl rfl ?_ | refine h.drew.readB 1 0 ⟨_, rfl, rfl⟩ rfl rfl ?_)) | ((with_reducible refine StillV.isLoad ?_); (first | refine ⟨h.stillB 0 0 ⟨_, rfl, rfl⟩ rfl rfl, ?_⟩ | refine ⟨h.stillB 1 0 ⟨_, rfl, rfl⟩ rfl rfl, ?_⟩)) | ((with_reducible refine RunU.isStor ?_); (first | (refine h.storB 0 0 ⟨_, rfl, rfl⟩ rfl rfl rfl ?_; intro w h; dsimp only [updG, setO] at h) | (refine h.storB 1 0 ⟨_, rfl, rfl⟩ rfl rfl rfl ?_; intro w h; dsimp only [updG, setO] at h) | (refine h.drew.storB 0 0 ⟨_, rfl, rfl⟩ rfl rfl rfl ?_; intro w h; dsimp only [updG, setO] at h) | (refine h.drew.storB 1 0 ⟨_, rfl, rfl⟩ rfl rfl rfl ?_; intro w h; dsimp only [updG, setO] at h))) | ((with_reducible refine RunN.isBox ?_); (first | (refine h.newB run_boxA rfl ?_; intro bn w h; try dsimp only at h) | (refine h.drew.newB run_boxA rfl ?_; intro bn w h; try dsimp only at h))) | ((with_reducible refine RunN.isNew ?_); (first | (refine h.newB (NewC.run _) rfl ?_; intro bn w h) | (refine h.drew.newB (NewC.run _) rfl ?_; intro bn w h))))
        have h := h.bring 2 rfl
        dsimp only [delO] at h
        refine (off_st h).mono ?_
        rintro ⟨⟩ w h
        have h := h.back 2
        dsimp only [insO] at h
        have h : St w0 _ ([.cel t3 59 (ovc o)] :: gs { p with d := { p.d with off := true, armed := false } } F) := h
        repeat (first | (with_reducible refine NilP.mk ?_) | ((with_reducible refine RunN.isLoad ?_); (first | refine h.loadB 0 0 ⟨_, rfl, rfl⟩ rfl rfl ?_ | refine h.loadB 1 0 ⟨_, rfl, rfl⟩ rfl rfl ?_ | refine h.drew.loadB 0 0 ⟨_, rfl, rfl⟩ rfl rfl ?_ | refine h.drew.loadB 1 0 ⟨_, rfl, rfl⟩ rfl rfl ?_)) | ((with_reducible refine ReadN.isLoad ?_); (first | refine h.readB 0 0 ⟨_, rfl, rfl⟩ rfl rfl ?_ | refine h.readB 1 0 ⟨_, rfl, rfl⟩ rfl rfl ?_ | refine h.drew.readB 0 0 ⟨_, rfl, rfl⟩ rfl rfl ?_ | refine h.drew.readB 1 0 ⟨_, rfl, rfl⟩ rfl rfl ?_)) | ((with_reducible refine StillV.isLoad ?_); (first | refine ⟨h.stillB 0 0 ⟨_, rfl, rfl⟩ rfl rfl, ?_⟩ | refine ⟨h.stillB 1 0 ⟨_, rfl, rfl⟩ rfl rfl, ?_⟩)) | ((with_reducible refine RunU.isStor ?_); (first | (refine h.storB 0 0 ⟨_, rfl, rfl⟩ rfl rfl rfl ?_; intro w h; dsimp only [updG, setO] at h) | (refine h.storB 1 0 ⟨_, rfl, rfl⟩ rfl rfl rfl ?_; intro w h; dsimp only [updG, setO] at h) | (refine h.drew.storB 0 0 ⟨_, rfl, rfl⟩ rfl rfl rfl ?_; intro w h; dsimp only [updG, setO] at h) | (refine h.drew.storB 1 0 ⟨_, rfl, rfl⟩ rfl rfl rfl ?_; intro w h; dsimp only [updG, setO] at h))) | ((with_reducible refine RunN.isBox ?_); (first | (refine h.newB run_boxA rfl ?_; intro bn w h; try dsimp only at h) | (refine h.drew.newB run_boxA rfl ?_; intro bn w h; try dsimp only at h))) | ((with_reducible refine RunN.isNew ?_); (first | (refine h.newB (NewC.run _) rfl ?_; intro bn w h) | (refine h.drew.newB (NewC.run _) rfl ?_; intro bn w h))))
        have h := h.bring 3 rfl
        dsimp only [delO] at h
        refine (roff_st h).mono ?_
        rintro ⟨⟩ w h
        have h := (h.back 3).drop 0
        dsimp only [insO, delO] at h
        refine ⟨rfl, { p with d := { p.d with off := true, armed := false }, r := { p.r with on := false, left := -1 } }, rfl, rfl, ⟨{ (ok.q.mono (Nat.le_succ N)) with }, ?_, ?_, rel_off ok.rel, by dsimp only; omega⟩, h⟩
        · exact ⟨ok.d.tr, ok.d.full, ok.d.small, ok.d.w0, ok.d.torn, fun h => by cases h⟩
        · exact ⟨ok.r.N1, ok.r.base5, ok.r.bl, ok.r.fst, ok.r.lg, by dsimp only; omega, ok.r.torn⟩
      · skip
        rw [SplitB_iff]
        refine ⟨fun hk4 => ?_, fun hk4 => ?_⟩
        · skip
          repeat (first | (with_reducible refine NilP.mk ?_) | ((with_reducible refine RunN.isLoad ?_); (first | refine h.loadB 0 0 ⟨_, rfl, rfl⟩ rfl rfl ?_ | refine h.loadB 1 0 ⟨_, rfl, rfl⟩ rfl rfl ?_ | refine h.drew.loadB 0 0 ⟨_, rfl, rfl⟩ rfl rfl ?_ | refine h.drew.loadB 1 0 ⟨_, rfl, rfl⟩ rfl rfl ?_)) | ((with_reducible refine ReadN.isLoad ?_); (first | refine h.readB 0 0 ⟨_, rfl, rfl⟩ rfl rfl ?_ | refine h.readB 1 0 ⟨_, rfl, rfl⟩ rfl rfl ?_ | refine h.drew.readB 0 0 ⟨_, rfl, rfl⟩ rfl rfl ?_ | refine h.drew.readB 1 0 ⟨_, rfl, rfl⟩ rfl rfl ?_)) | ((with_reducible refine StillV.isLoad ?_); (first | refine ⟨h.stillB 0 0 ⟨_, rfl, rfl⟩ rfl rfl, ?_⟩ | refine ⟨h.stillB 1 0 ⟨_, rfl, rfl⟩ rfl rfl, ?_⟩)) | ((with_reducible refine RunU.isStor ?_); (first | (refine h.storB 0 0 ⟨_, rfl, rfl⟩ rfl rfl rfl ?_; intro w h; dsimp only [updG, setO] at h) | (refine h.storB 1 0 ⟨_, rfl, rfl⟩ rfl rfl rfl ?_; intro w h; dsimp only [updG, setO] at h) | (refine h.drew.storB 0 0 ⟨_, rfl, rfl⟩ rfl rfl rfl ?_; intro w h; dsimp only [updG, setO] at h) | (refine h.drew.storB 1 0 ⟨_, rfl, rfl⟩ rfl rfl rfl ?_; intro w h; dsimp only [updG, setO] at h))) | ((with_reducible refine RunN.isBox ?_); (first | (refine h.newB run_boxA rfl ?_; intro bn w h; try dsimp only at h) | (refine h.drew.newB run_boxA rfl ?_; intro bn w h; try dsimp only at h))) | ((with_reducible refine RunN.isNew ?_); (first | (refine h.newB (NewC.run _) rfl ?_; intro bn w h) | (refine h.drew.newB (NewC.run _) rfl ?_; intro bn w h))))
          have h := h.bring 2 rfl
          dsimp only [delO] at h
          refine (on_st h).mono ?_
          rintro ⟨⟩ w h
          have h := h.back 2
          dsimp only [insO] at h
          have h : St w0 _ ([.cel t3 59 (ovc o)] :: gs { p with d := { p.d with off := false } } F) := h
          repeat (first | (with_reducible refine NilP.mk ?_) | ((with_reducible refine RunN.isLoad ?_); (first | refine h.loadB 0 0 ⟨_, rfl, rfl⟩ rfl rfl ?_ | refine h.loadB 1 0 ⟨_, rfl, rfl⟩ rfl rfl ?_ | refine h.drew.loadB 0 0 ⟨_, rfl, rfl⟩ rfl rfl ?_ | refine h.drew.loadB 1 0 ⟨_, rfl, rfl⟩ rfl rfl ?_)) | ((with_reducible refine ReadN.isLoad ?_); (first | refine h.readB 0 0 ⟨_, rfl, rfl⟩ rfl rfl ?_ | refine h.readB 1 0 ⟨_, rfl, rfl⟩ rfl rfl ?_ | refine h.drew.readB 0 0 ⟨_, rfl, rfl⟩ rfl rfl ?_ | refine h.drew.readB 1 0 ⟨_, rfl, rfl⟩ rfl rfl ?_)) | ((with_reducible refine StillV.isLoad ?_); (first | refine ⟨h.stillB 0 0 ⟨_, rfl, rfl⟩ rfl rfl, ?_⟩ | refine ⟨h.stillB 1 0 ⟨_, rfl, rfl⟩ rfl rfl, ?_⟩)) | ((with_reducible refine RunU.isStor ?_); (first | (refine h.storB 0 0 ⟨_, rfl, rfl⟩ rfl rfl rfl ?_; intro w h; dsimp only [updG, setO] at h) | (refine h.storB 1 0 ⟨_, rfl, rfl⟩ rfl rfl rfl ?_; intro w h; dsimp only [updG, setO] at h) | (refine h.drew.storB 0 0 ⟨_, rfl, rfl⟩ rfl rfl rfl ?_; intro w h; dsimp only [updG, setO] at h) | (refine h.drew.storB 1 0 ⟨_, rfl, rfl⟩ rfl rfl rfl ?_; intro w h; dsimp only [updG, setO] at h))) | ((with_reducible refine RunN.isBox ?_); (first | (refine h.newB run_boxA rfl ?_; intro bn w h; try dsimp only at h) | (refine h.drew.newB run_boxA rfl ?_; intro bn w h; try dsimp only at h))) | ((with_reducible refine RunN.isNew ?_); (first | (refine h.newB (NewC.run _) rfl ?_; intro bn w h) | (refine h.drew.newB (NewC.run _) rfl ?_; intro bn w h))))
          have h := h.bring 3 rfl
          dsimp only [delO] at h
          refine (ron_st h).mono ?_
          rintro ⟨⟩ w h
          have h := (h.back 3).drop 0
          dsimp only [insO, delO] at h
          refine ⟨rfl, { p with d := { p.d with off := false }, r := { p.r with on := true } }, rfl, rfl, ⟨{ (ok.q.mono (Nat.le_succ N)) with }, ?_, ?_, rel_on ok.rel, by dsimp only; omega⟩, h⟩
          · exact ⟨ok.d.tr, ok.d.full, ok.d.small, ok.d.w0, ok.d.torn, ok.d.after⟩
          · exact ⟨ok.r.N1, ok.r.base5, ok.r.bl, ok.r.fst, ok.r.lg, ok.r.left, ok.r.torn⟩
        · exact ⟨rfl, p, rfl, rfl, ok.mono (Nat.le_succ N), h.drop 0⟩
end Go.Proofs.Ytpdaoahamgegoaa
