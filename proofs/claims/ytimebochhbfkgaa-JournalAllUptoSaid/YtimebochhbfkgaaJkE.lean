/- The disk of an image; what is spoilt. -/
import Derived.Test.YtimebochhbfkgaaJkD
namespace Go.Proofs.Ytimebochhbfkgaa
open Go Go.Fw Go.RowKit
set_option linter.unusedVariables false
set_option linter.unusedSimpArgs false
set_option maxRecDepth 4000
set_option maxHeartbeats 2000000
variable {w0 w : World} {F G : Grps} {d : D}

theorem lsl_set (l : List Bs) (i : Nat) (x : Bs) : lsl (l.set i x) = (lsl l).set i (.slice x.1.a x.1.len x.1.cap) := by simp [lsl, List.map_set]
theorem A.write_ok {a : A} (ho : a.off = false) (ha : a.armed = false) {n : Nat} (hn : n < a.ims.length) {c : List UInt8} (hc : c.length = 512) :
    a.write n c = (0, { a with tr := a.tr.set (a.wr.toNat % 64) n, wr := a.wr + 1, ims := a.ims.set n c }) := by
  have h1 : a.reach n = 0 := by simp [A.reach, ho, hn]
  unfold A.write
  rw [if_neg (fun h => h h1), if_neg (fun h => h hc)]
  unfold A.wrote
  rw [if_neg (by rw [ha]; simp)]
  simp [ha]
theorem A.write_off {a : A} (ho : a.off = true) (n : Int) (c : List UInt8) : a.write n c = (200, a) := by
  have h1 : a.reach n = 200 := by simp [A.reach, ho]
  unfold A.write
  rw [if_pos (by rw [h1]; decide), h1]
@[simp] theorem abs_off (d : D) : d.abs.off = d.off := rfl
@[simp] theorem abs_armed (d : D) : d.abs.armed = d.armed := rfl
@[simp] theorem abs_wr (d : D) : d.abs.wr = d.wr := rfl
@[simp] theorem abs_len (d : D) : d.abs.ims.length = d.secs.length := by simp [D.abs]
theorem ims_at {n : Nat} (hn : n < d.secs.length) {want : List Bs} (hw : want.map (·.2) = d.abs.ims) (hn2 : n < want.length) : cont d.secs[n] = want[n].2 := by
  have := congrArg (fun l => l[n]?) hw
  simp [D.abs, hn, hn2] at this
  exact this.symm
def zer (n : Nat) : List (List UInt8) := List.replicate n (List.replicate 512 0)
theorem fresh_ims (b : Nat) (s : Sl) (n : Nat) : (fresh b s n).abs.ims = zer n := by simp [fresh, D.abs, cont, zer]

/-- What the copy of a longer row into a sector leaves. -/
theorem put_long {n : Nat} {x : Nat × List UInt8} (h : St w0 w (dg { d with secs := d.secs.set n (some x) } :: F)) (hn : n < d.secs.length) (hx : x.2.length = 512) {p : Sl} {c : List UInt8} (hr : Rd w p 1 (bys c)) (hc : 512 ≤ c.length) {K : Int → World → Prop}
    (hk : ∀ w', St w0 w' (dg { d with secs := d.secs.set n (some (x.1, c.take 512)) } :: F) → K 512 w') :
    RunN Try.prog (.int .i64) (V (Builtin.copy_ #[31, 31] 3 #[.slice (sesl x.1).a (sesl x.1).len (sesl x.1).cap, .slice p.a p.len p.cap])) w K := by
  have hpl := hr.bys_len
  have he : Has (dg { d with secs := d.secs.set n (some x) } :: F) 0 (n + 2) (.row 102 1 (sesl x.1) (bys x.2)) := ⟨_, rfl, by
    show nthO ((d.secs.set n (some x)).map sece) n = _
    rw [nthO_map sece _ (by simpa using hn)]; simp [sece]⟩
  have hm : Nat.min p.len 512 = 512 := by rw [hpl]; exact Nat.min_eq_right hc
  refine h.copyE 0 (n + 2) he (dl := 512) 0 (fun b o hb _ => by rw [Nat.zero_mul, Nat.add_zero]; exact hb) (by simp [sesl]) hr (bys_one _) ?_
  intro w' h
  rw [hm] at h ⊢
  refine hk w' ?_
  have e : (bys x.2).take (0 * 1) ++ (bys c).take (512 * 1) ++ (bys x.2).drop ((0 + 512) * 1) = bys (c.take 512) := by
    rw [Nat.zero_mul, Nat.mul_one, List.take_zero, List.nil_append, List.drop_of_length_le (by rw [bys_length]; omega), List.append_nil]
    simp [bys, List.map_take]
  rw [e] at h
  dsimp only [updG, dg, setO] at h
  have e2 : setO ((d.secs.set n (some x)).map sece) n (Ent.row 102 1 (sesl x.1) (bys (c.take 512))) = (d.secs.set n (some (x.1, c.take 512))).map sece := by
    rw [setO_set, List.map_set, List.map_set, List.set_set]; rfl
  have e3 : (d.secs.set n (some x)).map secv = (d.secs.set n (some (x.1, c.take 512))).map secv := by
    rw [List.map_set, List.map_set]; rfl
  rw [e2, e3] at h
  exact h
theorem set_app (a : List (List UInt8)) (n : Nat) (x : List UInt8) : (a ++ zer (n + 1)).set a.length x = (a ++ [x]) ++ zer n := by
  rw [List.set_append, if_neg (by omega)]
  simp [zer, List.replicate_succ]
theorem from_st (h : St w0 w F) {p : Sl} {ls : List (List UInt8)} (hp : SeesG w0 F p 1 (bys ls.flatten)) (h5 : ∀ x ∈ ls, x.length = 512) (h1 : 1 ≤ ls.length) (h2 : ls.length ≤ 65536) : CallK Try.prog (.tup (.cons .ptr (.cons (.int .i64) .nilT))) 45 #[.slice p.a p.len p.cap] w fun (r : Option Addr × Int × Unit) w' =>
    ∃ d, r = (d.p, 0, ()) ∧ DOk d ∧ d.abs = { (fresh d.b d.s ls.length).abs with ims := ls } ∧ St w0 w' (dg d :: F) := by
  have hpl := (hp _ h).bys_len
  rw [len_flat h5] at hpl
  refine T45.calls ?_
  unfold T45
  rw [hpl]
  have e0 : Int.tmod ((512 * ls.length : Nat) : Int) 512 = 0 := by rw [Int.tmod_eq_emod_of_nonneg (by omega)]; omega
  have e1 : Int.tdiv ((512 * ls.length : Nat) : Int) 512 = (ls.length : Int) := by rw [Int.tdiv_eq_ediv_of_nonneg (by omega)]; omega
  rw [e0, e1, wr (x := (ls.length : Int)) (by omega), SplitB_iff]
  refine ⟨(fun hz => by simp at hz), fun _ => ?_⟩
  refine (new_st h h1 h2).mono ?_
  rintro r w ⟨b, s, rfl, h⟩
  rw [SplitB_iff]
  refine ⟨(fun hz => by simp at hz), fun _ => ?_⟩
  have hl := dg_len h
  repeat (first | (with_reducible refine NilP.mk ?_) | ((with_reducible refine RunN.isLoad ?_); (first | refine h.loadB 0 0 ⟨_, rfl, rfl⟩ rfl rfl ?_ | refine h.drew.loadB 0 0 ⟨_, rfl, rfl⟩ rfl rfl ?_)) | ((with_reducible refine ReadN.isLoad ?_); (first | refine h.readB 0 0 ⟨_, rfl, rfl⟩ rfl rfl ?_ | refine h.drew.readB 0 0 ⟨_, rfl, rfl⟩ rfl rfl ?_)) | ((with_reducible refine StillV.isLoad ?_); (first | refine ⟨h.stillB 0 0 ⟨_, rfl, rfl⟩ rfl rfl, ?_⟩)) | ((with_reducible refine RunU.isStor ?_); (first | (refine h.storB 0 0 ⟨_, rfl, rfl⟩ rfl rfl rfl ?_; intro w h; dsimp only [updG, setO] at h) | (refine h.drew.storB 0 0 ⟨_, rfl, rfl⟩ rfl rfl rfl ?_; intro w h; dsimp only [updG, setO] at h))) | ((with_reducible refine RunN.isBox ?_); (first | (refine h.newB run_boxA rfl ?_; intro bn w h; try dsimp only at h) | (refine h.drew.newB run_boxA rfl ?_; intro bn w h; try dsimp only at h))) | ((with_reducible refine RunN.isNew ?_); (first | (refine h.newB (NewC.run _) rfl ?_; intro bn w h) | (refine h.drew.newB (NewC.run _) rfl ?_; intro bn w h))))
  have hsl : (fresh b s ls.length).s.len = ls.length := by rw [hl]; simp [fresh]
  refine LoopX.mk (fun st w' => ∃ (k : Nat) (d : D), k ≤ ls.length ∧ st.2.1 = (k : Int) ∧ SeesG w0 F st.1 1 (bys (ls.drop k).flatten) ∧ d.b = b ∧ d.s = s ∧ DOk d ∧ d.abs = { (fresh b s ls.length).abs with ims := ls.take k ++ zer (ls.length - k) } ∧ St w0 w' (dg d :: F)) (fun st => ls.length - st.2.1.toNat)
    ⟨0, fresh b s ls.length, by omega, rfl, by simpa using hp, rfl, rfl, fresh_ok _ _ h2, by rw [List.take_zero, List.nil_append, Nat.sub_zero, ← fresh_ims b s], h⟩ ?_
  clear h
  rintro ⟨q, _, ⟨⟩⟩ w ⟨k, d, hk, rfl, hq, hb, hs, ok, hd, h⟩ K hK
  dsimp only at h hK hq ⊢
  have hdl : d.secs.length = ls.length := by
    have := congrArg (fun a => a.ims.length) hd
    simp [zer] at this; omega
  rw [hsl, SplitB_iff]
  refine ⟨fun hc => ?_, fun hc => ?_⟩
  · have hc : k < ls.length := by have := of_decide_eq_true hc; omega
    have hqr := hq _ (h.drop 0)
    have hql := hqr.bys_len
    have hdl5 : (ls.drop k).flatten.length = 512 * (ls.length - k) := by rw [len_flat fun x hx => h5 x (List.mem_of_mem_drop hx), List.length_drop]
    rw [hdl5] at hql
    have hfl : (ls.drop k).flatten = ls[k] ++ (ls.drop (k + 1)).flatten := by rw [List.drop_eq_getElem_cons hc, List.flatten_cons]
    have hk5 := h5 _ (List.getElem_mem hc)
    rw [← hb]
    refine (own_st h (n := k) (by omega)).mono ?_
    rintro r w ⟨x, rfl, hx, h⟩
    have hcl := cont_len ok (n := k) (by omega)
    refine put_long h (by omega) (by rw [hx]; exact hcl) (hq _ (h.drop 0)) (by rw [hdl5]; omega) ?_
    intro w h
    refine RunN.sL (s := q) 512 rfl (by omega) ?_
    have et : (ls.drop k).flatten.take 512 = ls[k] := by rw [hfl, List.take_append_of_le_length (by omega), List.take_of_length_le (by omega)]
    have ed : (bys (ls.drop k).flatten).drop (512 * 1) = bys (ls.drop (k + 1)).flatten := by
      rw [hfl, bys_append, List.drop_append_of_le_length (by simp; omega), List.drop_of_length_le (by simp; omega), List.nil_append]
    rw [et] at h
    refine hK _ _ ⟨k + 1, _, by omega, by dsimp only; rw [wr (by omega)]; omega, fun w h => ?_, ?_, ?_, ?_, ?_, h⟩ (by dsimp only; rw [wr (by omega)]; omega)
    · have := (hq w h).suf (lo := 512) (by omega)
      rw [ed] at this; exact this
    · exact hb
    · exact hs
    · refine ⟨ok.tr, fun y hy => ?_, by simpa using ok.small, ok.w0, ok.torn, ok.after⟩
      dsimp only at hy
      rcases List.mem_or_eq_of_mem_set hy with hy | hy
      · exact ok.full y hy
      · cases hy; exact hk5
    · have e3 : ({ d with secs := d.secs.set k (some (x.1, ls[k])) } : D).abs = { d.abs with ims := d.abs.ims.set k ls[k] } := by
        simp [D.abs, List.map_set, cont]
      rw [e3, hd]
      dsimp only
      congr 1
      have e4 : ls.length - k = (ls.length - (k + 1)) + 1 := by omega
      have e5 : (ls.take k).length = k := by simp; omega
      have := set_app (ls.take k) (ls.length - (k + 1)) ls[k]
      rw [e5, ← e4] at this
      rw [this, ← List.take_succ_eq_append_getElem hc]
  · have hc : k = ls.length := by have := of_decide_eq_false hc; omega
    refine ⟨d, by rw [← hb], ok, ?_, h⟩
    rw [hd, hb, hs, hc, List.take_of_length_le (Nat.le_refl _), Nat.sub_self]
    simp [zer]
end Go.Proofs.Ytimebochhbfkgaa
