/- The shelf of answers: what is lent, kept, and stands. -/
import Derived.Test.YtaocddmmgefeoaaDoorFsB
namespace Go.Proofs.YtaocddmmgefeoaaDoor
open Go Go.Fw Go.RowKit Go.Frm
set_option linter.unusedVariables false
set_option linter.unusedSimpArgs false
set_option maxRecDepth 4000
set_option maxHeartbeats 2000000
variable {w0 w : World} {F : Grps} {n : Nat}

structure Sh where
  Q : Nat
  sl : Sl
  ps : List (Bs × Bs)
  gg : List (List Ent)
  sh : Sl
  mark : Nat
  lent : Sl
  lb : List UInt8
  sf : Sl
  fs : List Bs
  sw : Sl
def Ls (ps : List (Bs × Bs)) : List Bs := ps.flatMap fun p => [p.1, p.2]
theorem Ls_len (ps : List (Bs × Bs)) : (Ls ps).length = 2 * ps.length := by
  induction ps with
  | nil => rfl
  | cons x r ih => simp only [Ls, List.flatMap_cons, List.length_append, List.length_cons] at ih ⊢; rw [ih]; simp; omega
theorem Ls_snoc (ps : List (Bs × Bs)) (x : Bs × Bs) : Ls (ps ++ [x]) = Ls ps ++ [x.1, x.2] := by simp [Ls]
@[reducible] def Sh.cel (s : Sh) : Ent := .cel s.Q 28 [.slice s.sl.a s.sl.len s.sl.cap, .slice s.sh.a s.sh.len s.sh.cap, .int .i64 (s.mark : Int), .slice s.lent.a s.lent.len s.lent.cap, .slice s.sf.a s.sf.len s.sf.cap, .slice s.sw.a s.sw.len s.sw.cap]
@[reducible] def Sh.gs' (s : Sh) (c : Ent) (F : Grps) : Grps :=
  [c] :: [.row 22 1 s.sl (lsl (Ls s.ps))] :: s.gg.flatten :: [.row 9 1 s.sh (lst (Ls s.ps))] :: [.row 5 1 s.lent (bys s.lb)] :: [.row 22 1 s.sf (lsl s.fs)] :: s.fs.map (brw 5) :: [.row 9 1 s.sw (lst s.fs)] :: F
@[reducible] def Sh.gs (s : Sh) (F : Grps) : Grps := s.gs' s.cel F
structure Sh.Ok (s : Sh) (n : Nat) : Prop where
  gl : s.gg.length = s.ps.length
  far : ∀ k (h1 : k < s.ps.length) (h2 : k < s.gg.length), Far 5 s.ps[k].1 s.ps[k].2 s.gg[k]
  p4 : s.ps.length ≤ 4
  mrk : s.mark ≤ n
  fl : s.fs.length ≤ n
  fsl : ∀ x ∈ s.fs, x.2.length ≤ 131072
theorem sh_F {s : Sh} {c : Ent} (h : St w0 w (s.gs' c F)) : St w0 w F := (((((((h.drop 0).drop 0).drop 0).drop 0).drop 0).drop 0).drop 0).drop 0
variable {s : Sh}
theorem sh_sl {c : Ent} (h : St w0 w (s.gs' c F)) : s.sl.len = 2 * s.ps.length := by have := (h.rd (k := 1) (i := 0) ⟨_, rfl, rfl⟩).1; rw [lsl_len, Ls_len] at this; omega
theorem sh_sh {c : Ent} (h : St w0 w (s.gs' c F)) : s.sh.len = 2 * s.ps.length := by have := (h.rd (k := 3) (i := 0) ⟨_, rfl, rfl⟩).1; rw [lst_len, Ls_len] at this; omega
theorem sh_lent {c : Ent} (h : St w0 w (s.gs' c F)) : s.lent.len = s.lb.length := by have := (h.rd (k := 4) (i := 0) ⟨_, rfl, rfl⟩).1; rw [bys_length] at this; omega
theorem sh_sf {c : Ent} (h : St w0 w (s.gs' c F)) : s.sf.len = s.fs.length := by have := (h.rd (k := 5) (i := 0) ⟨_, rfl, rfl⟩).1; rw [lsl_len] at this; omega
theorem sh_sw {c : Ent} (h : St w0 w (s.gs' c F)) : s.sw.len = s.fs.length := by have := (h.rd (k := 7) (i := 0) ⟨_, rfl, rfl⟩).1; rw [lst_len] at this; omega
theorem sh_reads {c : Ent} (h : St w0 w (s.gs' c F)) (ok : s.Ok n) : ∀ x ∈ Ls s.ps, Rd w x.1 1 (bys x.2) := by
  intro x hx
  obtain ⟨p, hp, hx⟩ := List.mem_flatMap.1 hx
  obtain ⟨k, hk, rfl⟩ := List.getElem_of_mem hp
  have hg : k < s.gg.length := by rw [ok.gl]; exact hk
  have := (ok.far k hk hg).reads h (k := 2) (gs := s.gg.flatten) rfl fun e he => List.mem_flatten.2 ⟨_, List.getElem_mem hg, he⟩
  simp only [List.mem_cons, List.not_mem_nil, or_false] at hx
  rcases hx with rfl | rfl
  · exact this.2
  · exact this.1
theorem str_ro {w : World} {p : Sl} {l : List UInt8} (hr : Rd w p 1 (bys l)) {K : ByteArray → Prop} (h : K ⟨l.toArray⟩) : ReadN Tryd.prog .str (V (convert 22 9 (.slice p.a p.len p.cap))) w K := ReadN.toStr str22 hr h

theorem stands_st (h : St w0 w (s.gs F)) (ok : s.Ok n) : CallK Tryd.prog .bool 25 #[.pointer (some ⟨s.Q, 0, none⟩)] w fun (r : Bool) w' => r = true ∧ St w0 w' (s.gs F) := by
  refine T25.calls ?_
  unfold T25
  have h1 := sh_sl h
  have h2 := sh_sh h
  have hL := Ls_len s.ps
  have h4 := ok.p4
  refine LoopX.mk (fun st w' => ∃ i : Nat, i ≤ (Ls s.ps).length ∧ st.1 = (i : Int) ∧ St w0 w' (s.gs F)) (fun st => (Ls s.ps).length - st.1.toNat) ⟨0, Nat.zero_le _, rfl, h⟩ ?_
  clear h
  rintro ⟨_, ⟨⟩⟩ w ⟨i, hi, rfl, h⟩ K hK
  dsimp only at h hK ⊢
  repeat (first | (with_reducible refine NilP.mk ?_) | ((with_reducible refine RunN.isLoad ?_); (first | refine h.loadB 0 0 ⟨_, rfl, rfl⟩ rfl rfl ?_ | refine h.drew.loadB 0 0 ⟨_, rfl, rfl⟩ rfl rfl ?_)) | ((with_reducible refine ReadN.isLoad ?_); (first | refine h.readB 0 0 ⟨_, rfl, rfl⟩ rfl rfl ?_ | refine h.drew.readB 0 0 ⟨_, rfl, rfl⟩ rfl rfl ?_)) | ((with_reducible refine StillV.isLoad ?_); (first | refine ⟨h.stillB 0 0 ⟨_, rfl, rfl⟩ rfl rfl, ?_⟩)) | ((with_reducible refine RunU.isStor ?_); (first | (refine h.storB 0 0 ⟨_, rfl, rfl⟩ rfl rfl rfl ?_; intro w h; dsimp only [updG, setO] at h) | (refine h.drew.storB 0 0 ⟨_, rfl, rfl⟩ rfl rfl rfl ?_; intro w h; dsimp only [updG, setO] at h))) | ((with_reducible refine RunN.isBox ?_); (first | (refine h.newB run_boxA rfl ?_; intro bn w h; try dsimp only at h) | (refine h.drew.newB run_boxA rfl ?_; intro bn w h; try dsimp only at h))) | ((with_reducible refine RunN.isNew ?_); (first | (refine h.newB (NewC.run _) rfl ?_; intro bn w h) | (refine h.drew.newB (NewC.run _) rfl ?_; intro bn w h))))
  rw [SplitB_iff]
  refine ⟨fun hc => ?_, fun hc => ?_⟩
  · have hc : i < (Ls s.ps).length := by have := of_decide_eq_true hc; omega
    repeat (first | (with_reducible refine NilP.mk ?_) | ((with_reducible refine RunN.isLoad ?_); (first | refine h.loadB 0 0 ⟨_, rfl, rfl⟩ rfl rfl ?_ | refine h.drew.loadB 0 0 ⟨_, rfl, rfl⟩ rfl rfl ?_)) | ((with_reducible refine ReadN.isLoad ?_); (first | refine h.readB 0 0 ⟨_, rfl, rfl⟩ rfl rfl ?_ | refine h.drew.readB 0 0 ⟨_, rfl, rfl⟩ rfl rfl ?_)) | ((with_reducible refine StillV.isLoad ?_); (first | refine ⟨h.stillB 0 0 ⟨_, rfl, rfl⟩ rfl rfl, ?_⟩)) | ((with_reducible refine RunU.isStor ?_); (first | (refine h.storB 0 0 ⟨_, rfl, rfl⟩ rfl rfl rfl ?_; intro w h; dsimp only [updG, setO] at h) | (refine h.drew.storB 0 0 ⟨_, rfl, rfl⟩ rfl rfl rfl ?_; intro w h; dsimp only [updG, setO] at h))) | ((with_reducible refine RunN.isBox ?_); (first | (refine h.newB run_boxA rfl ?_; intro bn w h; try dsimp only at h) | (refine h.drew.newB run_boxA rfl ?_; intro bn w h; try dsimp only at h))) | ((with_reducible refine RunN.isNew ?_); (first | (refine h.newB (NewC.run _) rfl ?_; intro bn w h) | (refine h.drew.newB (NewC.run _) rfl ?_; intro bn w h))))
    refine (h.drew.rd (k := 1) (i := 0) ⟨_, rfl, rfl⟩).idxR i rfl (by omega) ?_
    intro b o hb
    refine (h.drew.rd (k := 1) (i := 0) ⟨_, rfl, rfl⟩).elR hb (i * 1) rfl (kd := .sl) (x := (Ls s.ps)[i].1) (by rw [Nat.mul_one]; exact lsl_at hc) ?_
    refine str_ro (sh_reads h.drew ok _ (List.getElem_mem _)) ?_
    repeat (first | (with_reducible refine NilP.mk ?_) | ((with_reducible refine RunN.isLoad ?_); (first | refine h.loadB 0 0 ⟨_, rfl, rfl⟩ rfl rfl ?_ | refine h.drew.loadB 0 0 ⟨_, rfl, rfl⟩ rfl rfl ?_)) | ((with_reducible refine ReadN.isLoad ?_); (first | refine h.readB 0 0 ⟨_, rfl, rfl⟩ rfl rfl ?_ | refine h.drew.readB 0 0 ⟨_, rfl, rfl⟩ rfl rfl ?_)) | ((with_reducible refine StillV.isLoad ?_); (first | refine ⟨h.stillB 0 0 ⟨_, rfl, rfl⟩ rfl rfl, ?_⟩)) | ((with_reducible refine RunU.isStor ?_); (first | (refine h.storB 0 0 ⟨_, rfl, rfl⟩ rfl rfl rfl ?_; intro w h; dsimp only [updG, setO] at h) | (refine h.drew.storB 0 0 ⟨_, rfl, rfl⟩ rfl rfl rfl ?_; intro w h; dsimp only [updG, setO] at h))) | ((with_reducible refine RunN.isBox ?_); (first | (refine h.newB run_boxA rfl ?_; intro bn w h; try dsimp only at h) | (refine h.drew.newB run_boxA rfl ?_; intro bn w h; try dsimp only at h))) | ((with_reducible refine RunN.isNew ?_); (first | (refine h.newB (NewC.run _) rfl ?_; intro bn w h) | (refine h.drew.newB (NewC.run _) rfl ?_; intro bn w h))))
    refine (h.drew.rd (k := 3) (i := 0) ⟨_, rfl, rfl⟩).idxR i rfl (by omega) ?_
    intro b o hb
    refine (h.drew.rd (k := 3) (i := 0) ⟨_, rfl, rfl⟩).elR hb (i * 1) rfl (kd := .str) (x := ⟨(Ls s.ps)[i].2.toArray⟩) (by rw [Nat.mul_one]; exact lst_at hc) ?_
    rw [SplitB_iff]
    refine ⟨fun hz => ?_, fun hz => ?_⟩
    · simp at hz
    · exact hK _ _ ⟨i + 1, hc, by dsimp only; rw [wr (by omega)]; omega, h.drew⟩ (by dsimp only; rw [wr (by omega)]; omega)
  · exact ⟨rfl, h⟩

def mk (i : Nat) : UInt8 := by8 (167 + (i : Int))
def mks : List UInt8 := (List.range 40).map mk
theorem mks_len : mks.length = 40 := by simp [mks]
theorem zero5 : ((Tryd.prog.info? 5).bind fun i => i.zero.map (·.cells)) = some #[Value.int .u8 0] := by kernel_rfl
theorem rep_bys (n : Nat) : List.replicate n (Value.int .u8 0) = bys (List.replicate n 0) := by simp [bys, u8v]
theorem lend_st (h : St w0 w (s.gs F)) {p : Sl} {l : List UInt8} (hp : SeesG w0 F p 1 (bys l)) (hl : l.length ≤ 65536) :
    CallK Tryd.prog .sl 23 #[.pointer (some ⟨s.Q, 0, none⟩), .slice p.a p.len p.cap] w fun (r : Sl) w' => St w0 w' (({ s with lent := r, lb := l ++ mks } : Sh).gs F) := by
  refine T23.calls ?_
  unfold T23
  have hpl := (hp _ (sh_F h)).bys_len
  have h0 := sh_lent h
  repeat (first | (with_reducible refine NilP.mk ?_) | ((with_reducible refine RunN.isLoad ?_); (first | refine h.loadB 0 0 ⟨_, rfl, rfl⟩ rfl rfl ?_ | refine h.drew.loadB 0 0 ⟨_, rfl, rfl⟩ rfl rfl ?_)) | ((with_reducible refine ReadN.isLoad ?_); (first | refine h.readB 0 0 ⟨_, rfl, rfl⟩ rfl rfl ?_ | refine h.drew.readB 0 0 ⟨_, rfl, rfl⟩ rfl rfl ?_)) | ((with_reducible refine StillV.isLoad ?_); (first | refine ⟨h.stillB 0 0 ⟨_, rfl, rfl⟩ rfl rfl, ?_⟩)) | ((with_reducible refine RunU.isStor ?_); (first | (refine h.storB 0 0 ⟨_, rfl, rfl⟩ rfl rfl rfl ?_; intro w h; dsimp only [updG, setO] at h) | (refine h.drew.storB 0 0 ⟨_, rfl, rfl⟩ rfl rfl rfl ?_; intro w h; dsimp only [updG, setO] at h))) | ((with_reducible refine RunN.isBox ?_); (first | (refine h.newB run_boxA rfl ?_; intro bn w h; try dsimp only at h) | (refine h.drew.newB run_boxA rfl ?_; intro bn w h; try dsimp only at h))) | ((with_reducible refine RunN.isNew ?_); (first | (refine h.newB (NewC.run _) rfl ?_; intro bn w h) | (refine h.drew.newB (NewC.run _) rfl ?_; intro bn w h))))
  refine JoinX.mk (fun j w' => ∃ l0 : List UInt8, l0.length = l.length + 40 ∧ St w0 w' (({ s with lent := j.1, lb := l0 } : Sh).gs' s.cel F)) ?_ ?_
  rotate_left
  · intro k1 hk1
    rw [SplitB_iff]
    refine ⟨fun hc => ?_, fun hc => ?_⟩
    · refine h.makeN (Value.int .u8 0) zero5 rfl (l.length + 40) (by rw [wr (by omega)]; omega) (by rw [wr (by omega)]; omega) (by omega) (by omega) ?_
      intro s' w hs1 hs2 h
      rw [rep_bys] at h
      exact hk1 _ _ ⟨_, by simp, (h.drop 5).back 4⟩
    · have hc : s.lent.len = l.length + 40 := by
        have : (s.lent.len : Int) = IntKind.i64.wrap ((p.len : Int) + 40) := by simpa using hc
        rw [wr (by omega)] at this; omega
      exact hk1 _ _ ⟨s.lb, by omega, h⟩
  rintro ⟨c, ⟨⟩⟩ w ⟨l0, hl0, h⟩
  dsimp only at h ⊢
  have hcl := sh_lent h
  dsimp only at hcl
  refine h.copy 4 0 ⟨_, rfl, rfl⟩ 0 (fun b o hb _ => by rw [hb]; simp) (by dsimp only; omega) (hp _ (sh_F h)) (bys_one _) ?_
  intro w h
  have hmin : Nat.min p.len c.len = l.length := (Nat.min_eq_left (by omega)).trans hpl
  rw [hmin] at h
  have e : (bys l0).take (0 * 1) ++ (bys l).take (l.length * 1) ++ (bys l0).drop ((0 + l.length) * 1) = bys (l ++ l0.drop l.length) := by
    rw [Nat.zero_mul, List.take_zero, List.nil_append, Nat.mul_one, List.take_of_length_le (by simp), Nat.zero_add, Nat.mul_one, bys_append]
    simp [bys, List.map_drop]
  rw [e] at h
  dsimp only [updG, setO] at h
  refine LoopX.mk (fun st w' => ∃ (i : Nat) (l1 : List UInt8), i ≤ 40 ∧ st.1 = (i : Int) ∧ l1.length = l.length + 40 ∧ l1.take l.length = l ∧ (∀ j, j < i → l1[l.length + j]? = some (mk j)) ∧ St w0 w' (({ s with lent := c, lb := l1 } : Sh).gs' s.cel F)) (fun st => 40 - st.1.toNat)
    ⟨0, l ++ l0.drop l.length, by omega, rfl, by simp; omega, by simp, fun j hj => by omega, h⟩ ?_
  clear h
  rintro ⟨_, ⟨⟩⟩ w ⟨i, l1, hi, rfl, hl1, htk, hm, h⟩ K hK
  dsimp only at h hK ⊢
  rw [SplitB_iff]
  refine ⟨fun hc => ?_, fun hc => ?_⟩
  · have hc : i < 40 := by have := of_decide_eq_true hc; omega
    refine (h.rd (k := 4) (i := 0) ⟨_, rfl, rfl⟩).idxK (l.length + i) (by rw [wr (by omega)]; omega) (by dsimp only; omega) ?_
    intro b o hb
    have e1 : IntKind.i64.wrap (167 + (i : Int)) = 167 + (i : Int) := wr (by omega)
    rw [e1, by8_v]
    refine h.storR 4 0 ⟨_, rfl, rfl⟩ hb (l.length + i) (by rw [Nat.mul_one]) (by rw [bys_length]; dsimp only; omega) rfl ?_
    intro w h
    rw [Go.Fw.bys_set] at h
    refine hK _ _ ⟨i + 1, l1.set (l.length + i) (mk i), by omega, by dsimp only; rw [wr (by omega)]; omega, by simp; omega, ?_, ?_, h⟩ (by dsimp only; rw [wr (by omega)]; omega)
    · rw [List.take_set_of_le (by omega)]; exact htk
    · intro j hj
      rw [List.getElem?_set]
      by_cases hji : l.length + i = l.length + j
      · have : i = j := by omega
        subst this
        rw [if_pos rfl, if_pos (by omega)]
      · rw [if_neg hji]; exact hm j (by omega)
  · have hc : i = 40 := by have := of_decide_eq_false hc; omega
    subst hc
    have hfin : l1 = l ++ mks := by
      refine List.ext_getElem? fun k => ?_
      rcases Nat.lt_or_ge k l.length with hk | hk
      · rw [List.getElem?_append_left hk]
        conv => rhs; rw [← htk]
        rw [List.getElem?_take, if_pos hk]
      · rw [List.getElem?_append_right hk]
        rcases Nat.lt_or_ge k (l.length + 40) with hk2 | hk2
        · have := hm (k - l.length) (by omega)
          rw [show l.length + (k - l.length) = k by omega] at this
          rw [this]
          simp [mks, show k - l.length < 40 by omega]
        · rw [List.getElem?_eq_none (by omega), List.getElem?_eq_none (by rw [mks_len]; omega)]
    subst hfin
    repeat (first | (with_reducible refine NilP.mk ?_) | ((with_reducible refine RunN.isLoad ?_); (first | refine h.loadB 0 0 ⟨_, rfl, rfl⟩ rfl rfl ?_ | refine h.drew.loadB 0 0 ⟨_, rfl, rfl⟩ rfl rfl ?_)) | ((with_reducible refine ReadN.isLoad ?_); (first | refine h.readB 0 0 ⟨_, rfl, rfl⟩ rfl rfl ?_ | refine h.drew.readB 0 0 ⟨_, rfl, rfl⟩ rfl rfl ?_)) | ((with_reducible refine StillV.isLoad ?_); (first | refine ⟨h.stillB 0 0 ⟨_, rfl, rfl⟩ rfl rfl, ?_⟩)) | ((with_reducible refine RunU.isStor ?_); (first | (refine h.storB 0 0 ⟨_, rfl, rfl⟩ rfl rfl rfl ?_; intro w h; dsimp only [updG, setO] at h) | (refine h.drew.storB 0 0 ⟨_, rfl, rfl⟩ rfl rfl rfl ?_; intro w h; dsimp only [updG, setO] at h))) | ((with_reducible refine RunN.isBox ?_); (first | (refine h.newB run_boxA rfl ?_; intro bn w h; try dsimp only at h) | (refine h.drew.newB run_boxA rfl ?_; intro bn w h; try dsimp only at h))) | ((with_reducible refine RunN.isNew ?_); (first | (refine h.newB (NewC.run _) rfl ?_; intro bn w h) | (refine h.drew.newB (NewC.run _) rfl ?_; intro bn w h))))
    exact h

theorem kept_st (h : St w0 w (s.gs F)) {p : Sl} {l : List UInt8} (hlb : s.lb = l ++ mks) (hp : Rd w p 1 (bys l)) (hl : l.length ≤ 65536) :
    CallK Tryd.prog .bool 24 #[.slice s.lent.a s.lent.len s.lent.cap, .slice p.a p.len p.cap] w fun (r : Bool) w' => r = true ∧ ∃ l', St w0 w' (({ s with lb := l' } : Sh).gs F) := by
  refine T24.calls ?_
  unfold T24
  have hpl := hp.bys_len
  have h0 := sh_lent h
  have hmk := mks_len
  have hl2 : s.lb.length = l.length + 40 := by rw [hlb, List.length_append, hmk]
  have hcap := (h.rd (k := 4) (i := 0) ⟨_, rfl, rfl⟩).2.2
  refine JoinX.mk (fun j w' => j.1 = true ∧ St w0 w' (s.gs F)) ?_ ?_
  rotate_left
  · intro k1 hk1
    rw [SplitB_iff]
    refine ⟨fun hc => ?_, fun hc => ?_⟩
    · refine RunN.sH l.length (by omega) (by omega) ?_
      have hpre := (h.rd (k := 4) (i := 0) ⟨_, rfl, rfl⟩).pre (hi := l.length) (by omega)
      have e : (bys s.lb).take (l.length * 1) = bys l := by rw [hlb, bys_append, Nat.mul_one, List.take_append_of_le_length (by simp), List.take_of_length_le (by simp)]
      rw [e] at hpre
      refine (same_ok hpre hp).mono ?_
      rintro r w ⟨rfl, rfl⟩
      exact hk1 _ _ ⟨by simp, h⟩
    · rw [wr (by omega)] at hc
      simp at hc; omega
  rintro ⟨_, ⟨⟩⟩ w ⟨hj, h⟩
  dsimp only at hj h ⊢
  subst hj
  refine LoopX.mk (fun st w' => ∃ i : Nat, l.length ≤ i ∧ i ≤ l.length + 40 ∧ st.2.1 = (i : Int) ∧ st.1 = true ∧ St w0 w' (s.gs F)) (fun st => l.length + 40 - st.2.1.toNat) ⟨l.length, Nat.le_refl _, by omega, by dsimp only; omega, rfl, h⟩ ?_
  clear h hp
  rintro ⟨_, _, ⟨⟩⟩ w ⟨i, hi1, hi2, rfl, rfl, h⟩ K hK
  dsimp only at h hK ⊢
  rw [SplitB_iff]
  refine ⟨fun hc => ?_, fun hc => ?_⟩
  · have hc : i < l.length + 40 := by have := of_decide_eq_true hc; omega
    refine JoinX.mk (fun j w' => j.1 = true ∧ St w0 w' (s.gs F)) ?_ ?_
    · rintro ⟨_, ⟨⟩⟩ w ⟨hj, h⟩
      dsimp only at hj h ⊢
      exact hK _ _ ⟨i + 1, by omega, by omega, by dsimp only; rw [wr (by omega)]; omega, hj, h⟩ (by dsimp only; rw [wr (by omega)]; omega)
    · intro k5 hk5
      rw [SplitB_iff]
      refine ⟨fun hz => ?_, fun hz => ?_⟩
      · refine (h.rd (k := 4) (i := 0) ⟨_, rfl, rfl⟩).idxK i rfl (by omega) ?_
        intro b o hb
        have hg : (bys s.lb)[i]? = some (u8v (mk (i - l.length))) := by
          rw [hlb, bys_append, List.getElem?_append_right (by simp; omega), bys_length, bys_get (by rw [hmk]; omega)]
          simp [mks]
        refine (h.rd (k := 4) (i := 0) ⟨_, rfl, rfl⟩).el hb (i * 1) rfl (kd := .int .u8) (x := ((mk (i - l.length)).toNat : Int)) (by rw [Nat.mul_one]; exact hg) ?_
        refine hk5 _ _ ⟨?_, h⟩
        have e1 : IntKind.i64.wrap (IntKind.i64.wrap (167 + (i : Int)) - (p.len : Int)) = 167 + ((i - l.length : Nat) : Int) := by
          rw [wr (x := 167 + (i : Int)) (by omega), wr (by omega)]; omega
        rw [e1, mk, by8_n]; simp
      · cases hz
  · have hc : i = l.length + 40 := by have := of_decide_eq_false hc; omega
    clear hK K
    refine LoopX.mk (fun st w' => ∃ (i : Nat) (l1 : List UInt8), i ≤ l1.length ∧ l1.length = l.length + 40 ∧ st.1 = (i : Int) ∧ St w0 w' (({ s with lb := l1 } : Sh).gs F)) (fun st => l.length + 40 - st.1.toNat) ⟨0, s.lb, Nat.zero_le _, hl2, rfl, h⟩ ?_
    clear h
    rintro ⟨_, ⟨⟩⟩ w ⟨i, l1, hi, hl1, rfl, h⟩ K hK
    dsimp only at h hK ⊢
    rw [SplitB_iff]
    refine ⟨fun hc => ?_, fun hc => ?_⟩
    · have hc : i < l1.length := by have := of_decide_eq_true hc; omega
      refine (h.rd (k := 4) (i := 0) ⟨_, rfl, rfl⟩).idxK i rfl (by dsimp only; omega) ?_
      intro b o hb
      rw [by8_v]
      refine h.storR 4 0 ⟨_, rfl, rfl⟩ hb i (by rw [Nat.mul_one]) (by simpa using hc) rfl ?_
      intro w h
      rw [Go.Fw.bys_set] at h
      exact hK _ _ ⟨i + 1, l1.set i (by8 (IntKind.i64.wrap (91 + (i : Int)))), by simp; omega, by simp; omega, by dsimp only; rw [wr (by omega)]; omega, h⟩ (by dsimp only; rw [wr (by omega)]; omega)
    · exact ⟨rfl, l1, h⟩
end Go.Proofs.YtaocddmmgefeoaaDoor
