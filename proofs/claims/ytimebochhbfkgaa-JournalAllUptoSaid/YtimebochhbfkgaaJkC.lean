/- The disk: writing, reading, the power. -/
import Derived.Test.YtimebochhbfkgaaJkB
namespace Go.Proofs.Ytimebochhbfkgaa
open Go Go.Fw Go.RowKit
set_option linter.unusedVariables false
set_option linter.unusedSimpArgs false
set_option maxRecDepth 4000
set_option maxHeartbeats 2000000
variable {w0 w : World} {F G : Grps} {d : D}

/-- What the copy into a sector leaves. -/
theorem put_st {n : Nat} {x : Nat × List UInt8} (h : St w0 w (dg { d with secs := d.secs.set n (some x) } :: F)) (hn : n < d.secs.length) (hx : x.2.length = 512) {p : Sl} {c : List UInt8} (hr : Rd w p 1 (bys c)) (hc : c.length ≤ 512) {K : Int → World → Prop}
    (hk : ∀ w', St w0 w' (dg { d with secs := d.secs.set n (some (x.1, c ++ x.2.drop c.length)) } :: F) → K (c.length : Nat) w') :
    RunN Try.prog (.int .i64) (V (Builtin.copy_ #[31, 31] 3 #[.slice (sesl x.1).a (sesl x.1).len (sesl x.1).cap, .slice p.a p.len p.cap])) w K := by
  have hpl := hr.bys_len
  have he : Has (dg { d with secs := d.secs.set n (some x) } :: F) 0 (n + 2) (.row 102 1 (sesl x.1) (bys x.2)) := ⟨_, rfl, by
    show nthO ((d.secs.set n (some x)).map sece) n = _
    rw [nthO_map sece _ (by simpa using hn)]; simp [sece]⟩
  have hm : Nat.min p.len 512 = c.length := by rw [hpl]; exact Nat.min_eq_left hc
  refine h.copyE 0 (n + 2) he (dl := 512) 0 (fun b o hb _ => by rw [Nat.zero_mul, Nat.add_zero]; exact hb) (by simp [sesl]) hr (bys_one _) ?_
  intro w' h
  rw [hm] at h ⊢
  refine hk w' ?_
  have e : (bys x.2).take (0 * 1) ++ (bys c).take (c.length * 1) ++ (bys x.2).drop ((0 + c.length) * 1) = bys (c ++ x.2.drop c.length) := by
    rw [Nat.mul_one, Nat.mul_one, Nat.zero_add, List.take_zero, List.nil_append, List.take_of_length_le (by simp), bys_append]
    simp [bys, List.map_drop]
  rw [e] at h
  dsimp only [updG, dg, setO] at h
  have e2 : setO ((d.secs.set n (some x)).map sece) n (Ent.row 102 1 (sesl x.1) (bys (c ++ x.2.drop c.length))) = (d.secs.set n (some (x.1, c ++ x.2.drop c.length))).map sece := by
    rw [setO_set, List.map_set, List.map_set, List.set_set]; rfl
  have e3 : (d.secs.set n (some x)).map secv = (d.secs.set n (some (x.1, c ++ x.2.drop c.length))).map secv := by
    rw [List.map_set, List.map_set]; rfl
  rw [e2, e3] at h
  exact h
theorem off_st (h : St w0 w (dg d :: F)) : CallK Try.prog (.tup .nilT) 50 #[.pointer d.p] w fun _ w' => St w0 w' (dg { d with off := true, armed := false } :: F) := by
  refine T50.calls ?_
  unfold T50
  repeat (first | (with_reducible refine NilP.mk ?_) | ((with_reducible refine RunN.isLoad ?_); (first | refine h.loadB 0 0 ⟨_, rfl, rfl⟩ rfl rfl ?_ | refine h.drew.loadB 0 0 ⟨_, rfl, rfl⟩ rfl rfl ?_)) | ((with_reducible refine ReadN.isLoad ?_); (first | refine h.readB 0 0 ⟨_, rfl, rfl⟩ rfl rfl ?_ | refine h.drew.readB 0 0 ⟨_, rfl, rfl⟩ rfl rfl ?_)) | ((with_reducible refine StillV.isLoad ?_); (first | refine ⟨h.stillB 0 0 ⟨_, rfl, rfl⟩ rfl rfl, ?_⟩)) | ((with_reducible refine RunU.isStor ?_); (first | (refine h.storB 0 0 ⟨_, rfl, rfl⟩ rfl rfl rfl ?_; intro w h; dsimp only [updG, setO] at h) | (refine h.drew.storB 0 0 ⟨_, rfl, rfl⟩ rfl rfl rfl ?_; intro w h; dsimp only [updG, setO] at h))) | ((with_reducible refine RunN.isBox ?_); (first | (refine h.newB run_boxA rfl ?_; intro bn w h; try dsimp only at h) | (refine h.drew.newB run_boxA rfl ?_; intro bn w h; try dsimp only at h))) | ((with_reducible refine RunN.isNew ?_); (first | (refine h.newB (NewC.run _) rfl ?_; intro bn w h) | (refine h.drew.newB (NewC.run _) rfl ?_; intro bn w h))))
  exact h
theorem on_st (h : St w0 w (dg d :: F)) : CallK Try.prog (.tup .nilT) 43 #[.pointer d.p] w fun _ w' => St w0 w' (dg { d with off := false } :: F) := by
  refine T43.calls ?_
  unfold T43
  repeat (first | (with_reducible refine NilP.mk ?_) | ((with_reducible refine RunN.isLoad ?_); (first | refine h.loadB 0 0 ⟨_, rfl, rfl⟩ rfl rfl ?_ | refine h.drew.loadB 0 0 ⟨_, rfl, rfl⟩ rfl rfl ?_)) | ((with_reducible refine ReadN.isLoad ?_); (first | refine h.readB 0 0 ⟨_, rfl, rfl⟩ rfl rfl ?_ | refine h.drew.readB 0 0 ⟨_, rfl, rfl⟩ rfl rfl ?_)) | ((with_reducible refine StillV.isLoad ?_); (first | refine ⟨h.stillB 0 0 ⟨_, rfl, rfl⟩ rfl rfl, ?_⟩)) | ((with_reducible refine RunU.isStor ?_); (first | (refine h.storB 0 0 ⟨_, rfl, rfl⟩ rfl rfl rfl ?_; intro w h; dsimp only [updG, setO] at h) | (refine h.drew.storB 0 0 ⟨_, rfl, rfl⟩ rfl rfl rfl ?_; intro w h; dsimp only [updG, setO] at h))) | ((with_reducible refine RunN.isBox ?_); (first | (refine h.newB run_boxA rfl ?_; intro bn w h; try dsimp only at h) | (refine h.drew.newB run_boxA rfl ?_; intro bn w h; try dsimp only at h))) | ((with_reducible refine RunN.isNew ?_); (first | (refine h.newB (NewC.run _) rfl ?_; intro bn w h) | (refine h.drew.newB (NewC.run _) rfl ?_; intro bn w h))))
  exact h
theorem ison_st (h : St w0 w (dg d :: F)) : CallK Try.prog .bool 33 #[.pointer d.p] w fun (r : Bool) w' => r = !d.off ∧ St w0 w' (dg d :: F) := by
  refine T33.calls ?_
  unfold T33
  repeat (first | (with_reducible refine NilP.mk ?_) | ((with_reducible refine RunN.isLoad ?_); (first | refine h.loadB 0 0 ⟨_, rfl, rfl⟩ rfl rfl ?_ | refine h.drew.loadB 0 0 ⟨_, rfl, rfl⟩ rfl rfl ?_)) | ((with_reducible refine ReadN.isLoad ?_); (first | refine h.readB 0 0 ⟨_, rfl, rfl⟩ rfl rfl ?_ | refine h.drew.readB 0 0 ⟨_, rfl, rfl⟩ rfl rfl ?_)) | ((with_reducible refine StillV.isLoad ?_); (first | refine ⟨h.stillB 0 0 ⟨_, rfl, rfl⟩ rfl rfl, ?_⟩)) | ((with_reducible refine RunU.isStor ?_); (first | (refine h.storB 0 0 ⟨_, rfl, rfl⟩ rfl rfl rfl ?_; intro w h; dsimp only [updG, setO] at h) | (refine h.drew.storB 0 0 ⟨_, rfl, rfl⟩ rfl rfl rfl ?_; intro w h; dsimp only [updG, setO] at h))) | ((with_reducible refine RunN.isBox ?_); (first | (refine h.newB run_boxA rfl ?_; intro bn w h; try dsimp only at h) | (refine h.drew.newB run_boxA rfl ?_; intro bn w h; try dsimp only at h))) | ((with_reducible refine RunN.isNew ?_); (first | (refine h.newB (NewC.run _) rfl ?_; intro bn w h) | (refine h.drew.newB (NewC.run _) rfl ?_; intro bn w h))))
  exact ⟨rfl, h⟩
theorem writes_st (h : St w0 w (dg d :: F)) : CallK Try.prog (.int .i64) 27 #[.pointer d.p] w fun (r : Int) w' => r = d.wr ∧ St w0 w' (dg d :: F) := by
  refine T27.calls ?_
  unfold T27
  repeat (first | (with_reducible refine NilP.mk ?_) | ((with_reducible refine RunN.isLoad ?_); (first | refine h.loadB 0 0 ⟨_, rfl, rfl⟩ rfl rfl ?_ | refine h.drew.loadB 0 0 ⟨_, rfl, rfl⟩ rfl rfl ?_)) | ((with_reducible refine ReadN.isLoad ?_); (first | refine h.readB 0 0 ⟨_, rfl, rfl⟩ rfl rfl ?_ | refine h.drew.readB 0 0 ⟨_, rfl, rfl⟩ rfl rfl ?_)) | ((with_reducible refine StillV.isLoad ?_); (first | refine ⟨h.stillB 0 0 ⟨_, rfl, rfl⟩ rfl rfl, ?_⟩)) | ((with_reducible refine RunU.isStor ?_); (first | (refine h.storB 0 0 ⟨_, rfl, rfl⟩ rfl rfl rfl ?_; intro w h; dsimp only [updG, setO] at h) | (refine h.drew.storB 0 0 ⟨_, rfl, rfl⟩ rfl rfl rfl ?_; intro w h; dsimp only [updG, setO] at h))) | ((with_reducible refine RunN.isBox ?_); (first | (refine h.newB run_boxA rfl ?_; intro bn w h; try dsimp only at h) | (refine h.drew.newB run_boxA rfl ?_; intro bn w h; try dsimp only at h))) | ((with_reducible refine RunN.isNew ?_); (first | (refine h.newB (NewC.run _) rfl ?_; intro bn w h) | (refine h.drew.newB (NewC.run _) rfl ?_; intro bn w h))))
  exact ⟨rfl, h⟩
theorem sectors_st (h : St w0 w (dg d :: F)) : CallK Try.prog (.int .i64) 39 #[.pointer d.p] w fun (r : Int) w' => r = (d.secs.length : Int) ∧ St w0 w' (dg d :: F) := by
  have hl := dg_len h
  refine T39.calls ?_
  unfold T39
  repeat (first | (with_reducible refine NilP.mk ?_) | ((with_reducible refine RunN.isLoad ?_); (first | refine h.loadB 0 0 ⟨_, rfl, rfl⟩ rfl rfl ?_ | refine h.drew.loadB 0 0 ⟨_, rfl, rfl⟩ rfl rfl ?_)) | ((with_reducible refine ReadN.isLoad ?_); (first | refine h.readB 0 0 ⟨_, rfl, rfl⟩ rfl rfl ?_ | refine h.drew.readB 0 0 ⟨_, rfl, rfl⟩ rfl rfl ?_)) | ((with_reducible refine StillV.isLoad ?_); (first | refine ⟨h.stillB 0 0 ⟨_, rfl, rfl⟩ rfl rfl, ?_⟩)) | ((with_reducible refine RunU.isStor ?_); (first | (refine h.storB 0 0 ⟨_, rfl, rfl⟩ rfl rfl rfl ?_; intro w h; dsimp only [updG, setO] at h) | (refine h.drew.storB 0 0 ⟨_, rfl, rfl⟩ rfl rfl rfl ?_; intro w h; dsimp only [updG, setO] at h))) | ((with_reducible refine RunN.isBox ?_); (first | (refine h.newB run_boxA rfl ?_; intro bn w h; try dsimp only at h) | (refine h.drew.newB run_boxA rfl ?_; intro bn w h; try dsimp only at h))) | ((with_reducible refine RunN.isNew ?_); (first | (refine h.newB (NewC.run _) rfl ?_; intro bn w h) | (refine h.drew.newB (NewC.run _) rfl ?_; intro bn w h))))
  exact ⟨by rw [hl], h⟩
theorem dcel_tr (d : D) (k : Nat) (x : Int) : setO (dcel d) (0 + 6 + k) (.int .i64 x) = dcel { d with tr := d.tr.set k x } := by
  rw [setO_set]
  unfold dcel
  rw [List.set_append, if_neg (by simp)]
  simp [List.map_set]
theorem write_st (h : St w0 w (dg d :: F)) (ok : DOk d) (hw : d.wr ≤ 4611686018427387904) {p : Sl} {c : List UInt8} (hp : SeesG w0 F p 1 (bys c)) (n : Int) :
    CallK Try.prog (.int .i64) 38 #[.pointer d.p, .int .i64 n, .slice p.a p.len p.cap] w fun (r : Int) w' =>
      r = (d.abs.write n c).1 ∧ ∃ d', d'.b = d.b ∧ d'.abs = (d.abs.write n c).2 ∧ DOk d' ∧ St w0 w' (dg d' :: F) := by
  have hl := dg_len h
  have hpr := hp _ (h.drop 0)
  have hpl := hpr.bys_len
  have hpc := hpr.2.2
  refine T38.calls ?_
  unfold T38
  refine (reach_st h n).mono ?_
  rintro r w ⟨rfl, h⟩
  rw [SplitB_iff]
  refine ⟨fun hz => ?_, fun hz => ?_⟩
  · have hz : d.abs.reach n ≠ 0 := by simpa using hz
    have e : d.abs.write n c = (d.abs.reach n, d.abs) := by simp only [A.write, if_pos hz]
    rw [e]
    exact ⟨rfl, d, rfl, rfl, ok, h⟩
  have hz : d.abs.reach n = 0 := by simpa using hz
  rw [SplitB_iff]
  refine ⟨fun hy => ?_, fun hy => ?_⟩
  · have hy : c.length ≠ 512 := by rw [hpl] at hy; intro e; rw [e] at hy; simp at hy
    have e : d.abs.write n c = (1, d.abs) := by simp only [A.write, if_neg (show ¬ d.abs.reach n ≠ 0 from fun h => h hz), if_pos hy]
    rw [e]
    exact ⟨rfl, d, rfl, rfl, ok, h⟩
  have hy : c.length = 512 := by
    rw [hpl] at hy
    have : (c.length : Int) = 512 := by simpa using hy
    omega
  have e : d.abs.write n c = d.abs.wrote n c := by simp only [A.write, if_neg (show ¬ d.abs.reach n ≠ 0 from fun h => h hz), if_neg (show ¬ c.length ≠ 512 from fun h => h hy)]
  rw [e]
  have hn : 0 ≤ n ∧ n < d.secs.length := by
    have e2 : d.abs.ims.length = d.secs.length := by simp [D.abs]
    unfold A.reach at hz
    rw [e2] at hz
    split at hz
    · cases hz
    · split at hz
      · assumption
      · cases hz
  obtain ⟨m, rfl⟩ : ∃ m : Nat, n = (m : Int) := ⟨n.toNat, by omega⟩
  have hm : m < d.secs.length := by omega
  have hwr := ok.w0
  have htr := ok.tr
  repeat (first | (with_reducible refine NilP.mk ?_) | ((with_reducible refine RunN.isLoad ?_); (first | refine h.loadB 0 0 ⟨_, rfl, rfl⟩ rfl rfl ?_ | refine h.drew.loadB 0 0 ⟨_, rfl, rfl⟩ rfl rfl ?_)) | ((with_reducible refine ReadN.isLoad ?_); (first | refine h.readB 0 0 ⟨_, rfl, rfl⟩ rfl rfl ?_ | refine h.drew.readB 0 0 ⟨_, rfl, rfl⟩ rfl rfl ?_)) | ((with_reducible refine StillV.isLoad ?_); (first | refine ⟨h.stillB 0 0 ⟨_, rfl, rfl⟩ rfl rfl, ?_⟩)) | ((with_reducible refine RunU.isStor ?_); (first | (refine h.storB 0 0 ⟨_, rfl, rfl⟩ rfl rfl rfl ?_; intro w h; dsimp only [updG, setO] at h) | (refine h.drew.storB 0 0 ⟨_, rfl, rfl⟩ rfl rfl rfl ?_; intro w h; dsimp only [updG, setO] at h))) | ((with_reducible refine RunN.isBox ?_); (first | (refine h.newB run_boxA rfl ?_; intro bn w h; try dsimp only at h) | (refine h.drew.newB run_boxA rfl ?_; intro bn w h; try dsimp only at h))) | ((with_reducible refine RunN.isNew ?_); (first | (refine h.newB (NewC.run _) rfl ?_; intro bn w h) | (refine h.drew.newB (NewC.run _) rfl ?_; intro bn w h))))
  refine ReadN.arr rfl (d.wr.toNat % 64) ?_ (by omega) ?_
  · rw [Int.tmod_eq_emod_of_nonneg hwr]; omega
  refine h.drew.storB 0 0 ⟨_, rfl, rfl⟩ (j := 0 + 6 + d.wr.toNat % 64) rfl (by rw [Nat.blt_eq]; simp [dcel, htr]; omega) rfl ?_
  intro w h
  dsimp only [updG, setO, dg] at h
  rw [dcel_tr] at h
  repeat (first | (with_reducible refine NilP.mk ?_) | ((with_reducible refine RunN.isLoad ?_); (first | refine h.loadB 0 0 ⟨_, rfl, rfl⟩ rfl rfl ?_ | refine h.drew.loadB 0 0 ⟨_, rfl, rfl⟩ rfl rfl ?_)) | ((with_reducible refine ReadN.isLoad ?_); (first | refine h.readB 0 0 ⟨_, rfl, rfl⟩ rfl rfl ?_ | refine h.drew.readB 0 0 ⟨_, rfl, rfl⟩ rfl rfl ?_)) | ((with_reducible refine StillV.isLoad ?_); (first | refine ⟨h.stillB 0 0 ⟨_, rfl, rfl⟩ rfl rfl, ?_⟩)) | ((with_reducible refine RunU.isStor ?_); (first | (refine h.storB 0 0 ⟨_, rfl, rfl⟩ rfl rfl rfl ?_; intro w h; dsimp only [updG, setO] at h) | (refine h.drew.storB 0 0 ⟨_, rfl, rfl⟩ rfl rfl rfl ?_; intro w h; dsimp only [updG, setO] at h))) | ((with_reducible refine RunN.isBox ?_); (first | (refine h.newB run_boxA rfl ?_; intro bn w h; try dsimp only at h) | (refine h.drew.newB run_boxA rfl ?_; intro bn w h; try dsimp only at h))) | ((with_reducible refine RunN.isNew ?_); (first | (refine h.newB (NewC.run _) rfl ?_; intro bn w h) | (refine h.drew.newB (NewC.run _) rfl ?_; intro bn w h))))
  rw [wr (x := d.wr + 1) (by omega)] at h
  have h : St w0 w (dg { d with tr := d.tr.set (d.wr.toNat % 64) (m : Int), wr := d.wr + 1 } :: F) := h
  generalize hd1 : ({ d with tr := d.tr.set (d.wr.toNat % 64) (m : Int), wr := d.wr + 1 } : D) = d1 at h
  have hb1 : d1.b = d.b := by rw [← hd1]
  have hs1 : d1.secs = d.secs := by rw [← hd1]
  have ok1 : DOk d1 := by
    rw [← hd1]
    exact ⟨by simp [htr], ok.full, ok.small, by dsimp only; omega, ok.torn, ok.after⟩
  have hab : d.abs.wrote m c = (if d1.armed = true ∧ d1.after = 0 then ((200 : Int), ({ d1.abs with ims := d1.abs.ims.set m (c.take d1.torn.toNat ++ (d1.abs.ims.getD m []).drop d1.torn.toNat), off := true, armed := false } : A))
      else (0, { d1.abs with ims := d1.abs.ims.set m c, after := if d1.armed then d1.after - 1 else d1.after })) := by
    rw [← hd1]; simp only [A.wrote, D.abs, Int.toNat_natCast]; rfl
  have hp1 : d1.p = d.p := by rw [← hd1]
  rw [hab, ← hb1, ← hp1]
  have hm1 : m < d1.secs.length := by rw [hs1]; exact hm
  have hcl := cont_len ok1 hm1
  have hcl0 := hy
  clear hab hd1 hz hy e ok hwr htr
  refine JoinX.mk (fun j w' => j.1 = decide (d1.armed = true ∧ d1.after = 0) ∧ St w0 w' (dg d1 :: F)) ?_ ?_
  · rintro ⟨_, ⟨⟩⟩ w ⟨hj, h⟩
    dsimp only at hj h ⊢
    subst hj
    rw [SplitB_iff]
    refine ⟨fun hy => ?_, fun hy => ?_⟩
    · have hy := of_decide_eq_true hy
      rw [if_pos hy]
      have ht := ok1.torn
      repeat (first | (with_reducible refine NilP.mk ?_) | ((with_reducible refine RunN.isLoad ?_); (first | refine h.loadB 0 0 ⟨_, rfl, rfl⟩ rfl rfl ?_ | refine h.drew.loadB 0 0 ⟨_, rfl, rfl⟩ rfl rfl ?_)) | ((with_reducible refine ReadN.isLoad ?_); (first | refine h.readB 0 0 ⟨_, rfl, rfl⟩ rfl rfl ?_ | refine h.drew.readB 0 0 ⟨_, rfl, rfl⟩ rfl rfl ?_)) | ((with_reducible refine StillV.isLoad ?_); (first | refine ⟨h.stillB 0 0 ⟨_, rfl, rfl⟩ rfl rfl, ?_⟩)) | ((with_reducible refine RunU.isStor ?_); (first | (refine h.storB 0 0 ⟨_, rfl, rfl⟩ rfl rfl rfl ?_; intro w h; dsimp only [updG, setO] at h) | (refine h.drew.storB 0 0 ⟨_, rfl, rfl⟩ rfl rfl rfl ?_; intro w h; dsimp only [updG, setO] at h))) | ((with_reducible refine RunN.isBox ?_); (first | (refine h.newB run_boxA rfl ?_; intro bn w h; try dsimp only at h) | (refine h.drew.newB run_boxA rfl ?_; intro bn w h; try dsimp only at h))) | ((with_reducible refine RunN.isNew ?_); (first | (refine h.newB (NewC.run _) rfl ?_; intro bn w h) | (refine h.drew.newB (NewC.run _) rfl ?_; intro bn w h))))
      refine ReadN.sH (s := p) d1.torn.toNat (Int.toNat_of_nonneg ht.1).symm (by omega) ?_
      refine (own_st h.drew hm1).mono ?_
      rintro r w ⟨x, rfl, hx, h⟩
      refine ⟨StillV.sH (s := p) d1.torn.toNat (Int.toNat_of_nonneg ht.1).symm (by omega), ?_⟩
      refine ⟨h.stillB 0 0 ⟨_, rfl, rfl⟩ rfl rfl, ?_⟩
      have hrd := (hp _ (h.drop 0)).pre (hi := d1.torn.toNat) (by omega)
      have et : (bys c).take (d1.torn.toNat * 1) = bys (c.take d1.torn.toNat) := by rw [Nat.mul_one]; simp [bys, List.map_take]
      rw [et] at hrd
      refine put_st h hm1 (by rw [hx]; exact hcl) hrd (by simp; omega) ?_
      intro w h
      refine (off_st h).mono ?_
      rintro r w h
      refine ⟨rfl, _, ?_, ?_, ?_, h⟩
      · rfl
      · simp only [D.abs, List.map_set, A.mk.injEq, and_true, true_and]
        congr 1
        simp only [cont, List.getD_eq_getElem?_getD, List.getElem?_map, List.getElem?_eq_getElem hm1, Option.map_some, Option.getD_some, hx]
        rw [List.length_take, Nat.min_eq_left (by omega)]
      · refine ⟨ok1.tr, fun y hy => ?_, by simpa using ok1.small, ok1.w0, ok1.torn, fun h => by cases h⟩
        dsimp only at hy
        rcases List.mem_or_eq_of_mem_set hy with hy | hy
        · exact ok1.full y hy
        · cases hy
          simp only [List.length_append, List.length_take, List.length_drop, hx, hcl]; omega
    · have hy := of_decide_eq_false hy
      rw [if_neg hy]
      refine JoinX.mk (fun _ w' => St w0 w' (dg { d1 with after := if d1.armed then d1.after - 1 else d1.after } :: F)) ?_ ?_
      · rintro ⟨⟩ w h
        have hd2 : ∃ d2 : D, d2 = { d1 with after := if d1.armed then d1.after - 1 else d1.after } := ⟨_, rfl⟩
        refine (own_st h hm1).mono ?_
        rintro r w ⟨x, rfl, hx, h⟩
        refine put_st h hm1 (by rw [hx]; exact hcl) (hp _ (h.drop 0)) (by omega) ?_
        intro w h
        refine ⟨rfl, _, ?_, ?_, ?_, h⟩
        · rfl
        · simp only [D.abs, List.map_set, A.mk.injEq, and_true, true_and]
          congr 1
          simp only [cont]
          rw [List.drop_of_length_le (by rw [hx, hcl]; omega), List.append_nil]
        · refine ⟨ok1.tr, fun y hy => ?_, by simpa using ok1.small, ok1.w0, ok1.torn, fun ha => ?_⟩
          · dsimp only at hy
            rcases List.mem_or_eq_of_mem_set hy with hy | hy
            · exact ok1.full y hy
            · cases hy
              simp only [List.length_append, List.length_drop, hx, hcl]; omega
          · dsimp only at ha ⊢
            have := ok1.after ha
            rw [if_pos ha]
            have h0 : d1.after ≠ 0 := fun e => hy ⟨ha, e⟩
            omega
      · intro k hk
        repeat (first | (with_reducible refine NilP.mk ?_) | ((with_reducible refine RunN.isLoad ?_); (first | refine h.loadB 0 0 ⟨_, rfl, rfl⟩ rfl rfl ?_ | refine h.drew.loadB 0 0 ⟨_, rfl, rfl⟩ rfl rfl ?_)) | ((with_reducible refine ReadN.isLoad ?_); (first | refine h.readB 0 0 ⟨_, rfl, rfl⟩ rfl rfl ?_ | refine h.drew.readB 0 0 ⟨_, rfl, rfl⟩ rfl rfl ?_)) | ((with_reducible refine StillV.isLoad ?_); (first | refine ⟨h.stillB 0 0 ⟨_, rfl, rfl⟩ rfl rfl, ?_⟩)) | ((with_reducible refine RunU.isStor ?_); (first | (refine h.storB 0 0 ⟨_, rfl, rfl⟩ rfl rfl rfl ?_; intro w h; dsimp only [updG, setO] at h) | (refine h.drew.storB 0 0 ⟨_, rfl, rfl⟩ rfl rfl rfl ?_; intro w h; dsimp only [updG, setO] at h))) | ((with_reducible refine RunN.isBox ?_); (first | (refine h.newB run_boxA rfl ?_; intro bn w h; try dsimp only at h) | (refine h.drew.newB run_boxA rfl ?_; intro bn w h; try dsimp only at h))) | ((with_reducible refine RunN.isNew ?_); (first | (refine h.newB (NewC.run _) rfl ?_; intro bn w h) | (refine h.drew.newB (NewC.run _) rfl ?_; intro bn w h))))
        rw [SplitB_iff]
        refine ⟨fun ha => ?_, fun ha => ?_⟩
        · skip
          repeat (first | (with_reducible refine NilP.mk ?_) | ((with_reducible refine RunN.isLoad ?_); (first | refine h.loadB 0 0 ⟨_, rfl, rfl⟩ rfl rfl ?_ | refine h.drew.loadB 0 0 ⟨_, rfl, rfl⟩ rfl rfl ?_)) | ((with_reducible refine ReadN.isLoad ?_); (first | refine h.readB 0 0 ⟨_, rfl, rfl⟩ rfl rfl ?_ | refine h.drew.readB 0 0 ⟨_, rfl, rfl⟩ rfl rfl ?_)) | ((with_reducible refine StillV.isLoad ?_); (first | refine ⟨h.stillB 0 0 ⟨_, rfl, rfl⟩ rfl rfl, ?_⟩)) | ((with_reducible refine RunU.isStor ?_); (first | (refine h.storB 0 0 ⟨_, rfl, rfl⟩ rfl rfl rfl ?_; intro w h; dsimp only [updG, setO] at h) | (refine h.drew.storB 0 0 ⟨_, rfl, rfl⟩ rfl rfl rfl ?_; intro w h; dsimp only [updG, setO] at h))) | ((with_reducible refine RunN.isBox ?_); (first | (refine h.newB run_boxA rfl ?_; intro bn w h; try dsimp only at h) | (refine h.drew.newB run_boxA rfl ?_; intro bn w h; try dsimp only at h))) | ((with_reducible refine RunN.isNew ?_); (first | (refine h.newB (NewC.run _) rfl ?_; intro bn w h) | (refine h.drew.newB (NewC.run _) rfl ?_; intro bn w h))))
          refine hk _ _ ?_
          have := ok1.after ha
          rw [wr (by omega)] at h
          rw [if_pos ha]; exact h
        · refine hk _ _ ?_
          rw [if_neg (by rw [ha]; simp)]; exact h
  · intro k hk
    repeat (first | (with_reducible refine NilP.mk ?_) | ((with_reducible refine RunN.isLoad ?_); (first | refine h.loadB 0 0 ⟨_, rfl, rfl⟩ rfl rfl ?_ | refine h.drew.loadB 0 0 ⟨_, rfl, rfl⟩ rfl rfl ?_)) | ((with_reducible refine ReadN.isLoad ?_); (first | refine h.readB 0 0 ⟨_, rfl, rfl⟩ rfl rfl ?_ | refine h.drew.readB 0 0 ⟨_, rfl, rfl⟩ rfl rfl ?_)) | ((with_reducible refine StillV.isLoad ?_); (first | refine ⟨h.stillB 0 0 ⟨_, rfl, rfl⟩ rfl rfl, ?_⟩)) | ((with_reducible refine RunU.isStor ?_); (first | (refine h.storB 0 0 ⟨_, rfl, rfl⟩ rfl rfl rfl ?_; intro w h; dsimp only [updG, setO] at h) | (refine h.drew.storB 0 0 ⟨_, rfl, rfl⟩ rfl rfl rfl ?_; intro w h; dsimp only [updG, setO] at h))) | ((with_reducible refine RunN.isBox ?_); (first | (refine h.newB run_boxA rfl ?_; intro bn w h; try dsimp only at h) | (refine h.drew.newB run_boxA rfl ?_; intro bn w h; try dsimp only at h))) | ((with_reducible refine RunN.isNew ?_); (first | (refine h.newB (NewC.run _) rfl ?_; intro bn w h) | (refine h.drew.newB (NewC.run _) rfl ?_; intro bn w h))))
    rw [SplitB_iff]
    refine ⟨fun ha => ?_, fun ha => ?_⟩
    · skip
      repeat (first | (with_reducible refine NilP.mk ?_) | ((with_reducible refine RunN.isLoad ?_); (first | refine h.loadB 0 0 ⟨_, rfl, rfl⟩ rfl rfl ?_ | refine h.drew.loadB 0 0 ⟨_, rfl, rfl⟩ rfl rfl ?_)) | ((with_reducible refine ReadN.isLoad ?_); (first | refine h.readB 0 0 ⟨_, rfl, rfl⟩ rfl rfl ?_ | refine h.drew.readB 0 0 ⟨_, rfl, rfl⟩ rfl rfl ?_)) | ((with_reducible refine StillV.isLoad ?_); (first | refine ⟨h.stillB 0 0 ⟨_, rfl, rfl⟩ rfl rfl, ?_⟩)) | ((with_reducible refine RunU.isStor ?_); (first | (refine h.storB 0 0 ⟨_, rfl, rfl⟩ rfl rfl rfl ?_; intro w h; dsimp only [updG, setO] at h) | (refine h.drew.storB 0 0 ⟨_, rfl, rfl⟩ rfl rfl rfl ?_; intro w h; dsimp only [updG, setO] at h))) | ((with_reducible refine RunN.isBox ?_); (first | (refine h.newB run_boxA rfl ?_; intro bn w h; try dsimp only at h) | (refine h.drew.newB run_boxA rfl ?_; intro bn w h; try dsimp only at h))) | ((with_reducible refine RunN.isNew ?_); (first | (refine h.newB (NewC.run _) rfl ?_; intro bn w h) | (refine h.drew.newB (NewC.run _) rfl ?_; intro bn w h))))
      refine hk _ _ ⟨?_, h⟩
      dsimp only
      rw [Bool.eq_iff_iff]; simp [ha]
    · refine hk _ _ ⟨?_, h⟩
      simp [ha]
end Go.Proofs.Ytimebochhbfkgaa
