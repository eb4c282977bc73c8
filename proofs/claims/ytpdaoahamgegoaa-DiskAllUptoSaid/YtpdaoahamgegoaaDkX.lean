/- What was answered and left alone: it is as it was, and none is seen in another one. -/
import Derived.Test.YtpdaoahamgegoaaDkS
import Derived.Test.YtpdaoahamgegoaaFwX
namespace Go.Proofs.Ytpdaoahamgegoaa
open Go Go.Fw Go.RowKit
set_option linter.unusedVariables false
set_option linter.unusedSimpArgs false
set_option maxRecDepth 4000
set_option maxHeartbeats 8000000
variable {w0 w : World} {F : Grps} {N : Nat} {p : Q}

def sb (i : Nat) : UInt8 := by8 ((i : Int) + 1)
def xb (i : Nat) : UInt8 := by8 ((i : Int) + 130)
theorem sb_v {i : Nat} (h : i ≤ 1000000) : Value.int .u8 (IntKind.u8.wrap (IntKind.i64.wrap ((i : Int) + 1))) = u8v (sb i) ∧ IntKind.u8.wrap (IntKind.i64.wrap ((i : Int) + 1)) = ((sb i).toNat : Int) := by
  rw [wr (x := (i : Int) + 1) (by omega)]; exact ⟨by8_v _, (by8_n _).symm⟩
theorem xb_v {i : Nat} (h : i ≤ 1000000) : Value.int .u8 (IntKind.u8.wrap (IntKind.i64.wrap ((i : Int) + 130))) = u8v (xb i) ∧ IntKind.u8.wrap (IntKind.i64.wrap ((i : Int) + 130)) = ((xb i).toNat : Int) := by
  rw [wr (x := (i : Int) + 130) (by omega)]; exact ⟨by8_v _, (by8_n _).symm⟩
def sbI (i : Nat) : Int := -1 - (i : Int)
def xbI (i : Nat) : Int := -1000000 - (i : Int)
theorem sbI_v {i : Nat} (h : i ≤ 1000000) : IntKind.i64.wrap ((-1) - (i : Int)) = sbI i := wr (by omega)
theorem xbI_v {i : Nat} (h : i ≤ 1000000) : IntKind.i64.wrap ((-1000000) - (i : Int)) = xbI i := wr (by omega)
theorem lsi_map (d : List Is) : lsi d = (d.map (·.1)).map slv := by simp [lsi]
theorem setO_irw (l : List Is) (i : Nat) (x : Is) : setO (l.map irw) i (irw x) = (l.set i x).map irw := by rw [setO_set, List.map_set]

theorem lin_app (a b : List Int) : lin (a ++ b) = lin a ++ lin b := by simp [lin]
theorem apart_st (h : St w0 w (gs p F)) (ok : QOk N p) : CallK Try.prog .bool 35 #[.pointer (some ⟨p.b, 2, none⟩)] w fun (r : Bool) w' => r = true ∧ St w0 w' F := by
  refine T35.calls ?_
  unfold T35
  have hsf := q_sl h
  have hsw := q_sw h
  have hsn := q_sn h
  have hso := q_so h
  have hfn := ok.l100
  have hle := ok.ll
  have hnn := ok.n100
  have hnl := ok.nl
  have hol : p.os.length = p.ns.length := by have := congrArg List.length ok.ol; simpa using this
  -- as they were?
  refine LoopX.mk (fun st w' => ∃ i : Nat, i ≤ p.ls.length ∧ st.1 = (i : Int) ∧ St w0 w' (gs p F)) (fun st => p.ls.length - st.1.toNat) ⟨0, Nat.zero_le _, rfl, h⟩ ?_
  clear h
  rintro ⟨_, ⟨⟩⟩ w ⟨i, hi, rfl, h⟩ K hK
  dsimp only at h hK ⊢
  repeat (first | (with_reducible refine NilP.mk ?_) | ((with_reducible refine RunN.isLoad ?_); (first | refine h.loadB 0 0 ⟨_, rfl, rfl⟩ rfl rfl ?_ | refine h.drew.loadB 0 0 ⟨_, rfl, rfl⟩ rfl rfl ?_)) | ((with_reducible refine ReadN.isLoad ?_); (first | refine h.readB 0 0 ⟨_, rfl, rfl⟩ rfl rfl ?_ | refine h.drew.readB 0 0 ⟨_, rfl, rfl⟩ rfl rfl ?_)) | ((with_reducible refine StillV.isLoad ?_); (first | refine ⟨h.stillB 0 0 ⟨_, rfl, rfl⟩ rfl rfl, ?_⟩)) | ((with_reducible refine RunU.isStor ?_); (first | (refine h.storB 0 0 ⟨_, rfl, rfl⟩ rfl rfl rfl ?_; intro w h; dsimp only [updG, setO] at h) | (refine h.drew.storB 0 0 ⟨_, rfl, rfl⟩ rfl rfl rfl ?_; intro w h; dsimp only [updG, setO] at h))) | ((with_reducible refine RunN.isBox ?_); (first | (refine h.newB run_boxA rfl ?_; intro bn w h; try dsimp only at h) | (refine h.drew.newB run_boxA rfl ?_; intro bn w h; try dsimp only at h))) | ((with_reducible refine RunN.isNew ?_); (first | (refine h.newB (NewC.run _) rfl ?_; intro bn w h) | (refine h.drew.newB (NewC.run _) rfl ?_; intro bn w h))))
  rw [SplitB_iff]
  refine ⟨fun hc => ?_, fun hc => ?_⟩
  · have hc : i < p.ls.length := by have := of_decide_eq_true hc; omega
    repeat (first | (with_reducible refine NilP.mk ?_) | ((with_reducible refine RunN.isLoad ?_); (first | refine h.loadB 0 0 ⟨_, rfl, rfl⟩ rfl rfl ?_ | refine h.drew.loadB 0 0 ⟨_, rfl, rfl⟩ rfl rfl ?_)) | ((with_reducible refine ReadN.isLoad ?_); (first | refine h.readB 0 0 ⟨_, rfl, rfl⟩ rfl rfl ?_ | refine h.drew.readB 0 0 ⟨_, rfl, rfl⟩ rfl rfl ?_)) | ((with_reducible refine StillV.isLoad ?_); (first | refine ⟨h.stillB 0 0 ⟨_, rfl, rfl⟩ rfl rfl, ?_⟩)) | ((with_reducible refine RunU.isStor ?_); (first | (refine h.storB 0 0 ⟨_, rfl, rfl⟩ rfl rfl rfl ?_; intro w h; dsimp only [updG, setO] at h) | (refine h.drew.storB 0 0 ⟨_, rfl, rfl⟩ rfl rfl rfl ?_; intro w h; dsimp only [updG, setO] at h))) | ((with_reducible refine RunN.isBox ?_); (first | (refine h.newB run_boxA rfl ?_; intro bn w h; try dsimp only at h) | (refine h.drew.newB run_boxA rfl ?_; intro bn w h; try dsimp only at h))) | ((with_reducible refine RunN.isNew ?_); (first | (refine h.newB (NewC.run _) rfl ?_; intro bn w h) | (refine h.drew.newB (NewC.run _) rfl ?_; intro bn w h))))
    refine (h.drew.rd (k := 9) (i := 0) ⟨_, rfl, rfl⟩).idxR i rfl (by omega) ?_
    intro b o hb
    refine (h.drew.rd (k := 9) (i := 0) ⟨_, rfl, rfl⟩).elR hb (i * 1) rfl (kd := .sl) (x := p.ls[i].1) (by rw [Nat.mul_one]; exact lsl_at hc) ?_
    refine str_ro (h.drew.rd (k := 10) (i := i) ⟨_, rfl, brw_at hc⟩) ?_
    repeat (first | (with_reducible refine NilP.mk ?_) | ((with_reducible refine RunN.isLoad ?_); (first | refine h.loadB 0 0 ⟨_, rfl, rfl⟩ rfl rfl ?_ | refine h.drew.loadB 0 0 ⟨_, rfl, rfl⟩ rfl rfl ?_)) | ((with_reducible refine ReadN.isLoad ?_); (first | refine h.readB 0 0 ⟨_, rfl, rfl⟩ rfl rfl ?_ | refine h.drew.readB 0 0 ⟨_, rfl, rfl⟩ rfl rfl ?_)) | ((with_reducible refine StillV.isLoad ?_); (first | refine ⟨h.stillB 0 0 ⟨_, rfl, rfl⟩ rfl rfl, ?_⟩)) | ((with_reducible refine RunU.isStor ?_); (first | (refine h.storB 0 0 ⟨_, rfl, rfl⟩ rfl rfl rfl ?_; intro w h; dsimp only [updG, setO] at h) | (refine h.drew.storB 0 0 ⟨_, rfl, rfl⟩ rfl rfl rfl ?_; intro w h; dsimp only [updG, setO] at h))) | ((with_reducible refine RunN.isBox ?_); (first | (refine h.newB run_boxA rfl ?_; intro bn w h; try dsimp only at h) | (refine h.drew.newB run_boxA rfl ?_; intro bn w h; try dsimp only at h))) | ((with_reducible refine RunN.isNew ?_); (first | (refine h.newB (NewC.run _) rfl ?_; intro bn w h) | (refine h.drew.newB (NewC.run _) rfl ?_; intro bn w h))))
    refine (h.drew.rd (k := 11) (i := 0) ⟨_, rfl, rfl⟩).idxR i rfl (by omega) ?_
    intro b o hb
    refine (h.drew.rd (k := 11) (i := 0) ⟨_, rfl, rfl⟩).elR hb (i * 1) rfl (kd := .str) (x := ⟨p.ls[i].2.toArray⟩) (by rw [Nat.mul_one]; exact lst_at hc) ?_
    rw [SplitB_iff]
    refine ⟨fun hz => ?_, fun hz => ?_⟩
    · simp at hz
    · exact hK _ _ ⟨i + 1, hc, by dsimp only; rw [wr (by omega)]; omega, h.drew⟩ (by dsimp only; rw [wr (by omega)]; omega)
  clear hK hc hi i K
  have h := (((((((((h.drop 16).drop 11).drop 1).drop 1).drop 1).drop 1).drop 1).drop 1).drop 1).drop 1
  dsimp only [delO] at h
  obtain ⟨H, hH⟩ : ∃ H : Grps, H = [.row 44 1 p.sn (lsi p.ns)] :: p.ns.map irw :: [.row 44 1 p.so (lsi p.os)] :: p.os.map irw :: F := ⟨_, rfl⟩
  rw [← hH] at h
  -- signed
  refine LoopX.mk (fun st w' => ∃ (i : Nat) (ds : List Bs), i ≤ p.ls.length ∧ st.1 = (i : Int) ∧ ds.map (·.1) = p.ls.map (·.1) ∧ (∀ k (hk : k < ds.length), ds[k].2.length ≤ 4194304) ∧ (∀ k (hk : k < ds.length), k < i → ds[k].2 = List.replicate ds[k].2.length (sb k)) ∧
    St w0 w' ([p.c] :: [.row 30 1 p.sl (lsl ds)] :: ds.map (brw 5) :: H)) (fun st => p.ls.length - st.1.toNat) ⟨0, p.ls, Nat.zero_le _, rfl, rfl, fun k hk => hle _ (List.getElem_mem _), fun k _ h0 => by omega, h⟩ ?_
  clear h
  rintro ⟨_, ⟨⟩⟩ w ⟨i, ds, hi, rfl, hds, hlen, hsg, h⟩ K hK
  dsimp only at h hK ⊢
  have hdl : ds.length = p.ls.length := by have := congrArg List.length hds; simpa using this
  repeat (first | (with_reducible refine NilP.mk ?_) | ((with_reducible refine RunN.isLoad ?_); (first | refine h.loadB 0 0 ⟨_, rfl, rfl⟩ rfl rfl ?_ | refine h.drew.loadB 0 0 ⟨_, rfl, rfl⟩ rfl rfl ?_)) | ((with_reducible refine ReadN.isLoad ?_); (first | refine h.readB 0 0 ⟨_, rfl, rfl⟩ rfl rfl ?_ | refine h.drew.readB 0 0 ⟨_, rfl, rfl⟩ rfl rfl ?_)) | ((with_reducible refine StillV.isLoad ?_); (first | refine ⟨h.stillB 0 0 ⟨_, rfl, rfl⟩ rfl rfl, ?_⟩)) | ((with_reducible refine RunU.isStor ?_); (first | (refine h.storB 0 0 ⟨_, rfl, rfl⟩ rfl rfl rfl ?_; intro w h; dsimp only [updG, setO] at h) | (refine h.drew.storB 0 0 ⟨_, rfl, rfl⟩ rfl rfl rfl ?_; intro w h; dsimp only [updG, setO] at h))) | ((with_reducible refine RunN.isBox ?_); (first | (refine h.newB run_boxA rfl ?_; intro bn w h; try dsimp only at h) | (refine h.drew.newB run_boxA rfl ?_; intro bn w h; try dsimp only at h))) | ((with_reducible refine RunN.isNew ?_); (first | (refine h.newB (NewC.run _) rfl ?_; intro bn w h) | (refine h.drew.newB (NewC.run _) rfl ?_; intro bn w h))))
  rw [SplitB_iff]
  refine ⟨fun hc => ?_, fun hc => ?_⟩
  · have hc : i < ds.length := by have := of_decide_eq_true hc; omega
    have hli := hlen i hc
    refine LoopX.mk (fun st w' => ∃ (j : Nat) (l : List UInt8), j ≤ l.length ∧ l.length = ds[i].2.length ∧ st.1 = (j : Int) ∧ (∀ k, k < j → l[k]? = some (sb i)) ∧ St w0 w' ([p.c] :: [.row 30 1 p.sl (lsl ds)] :: (ds.set i (ds[i].1, l)).map (brw 5) :: H)) (fun st => ds[i].2.length - st.1.toNat)
      ⟨0, ds[i].2, Nat.zero_le _, rfl, rfl, fun k hk => by omega, by rw [show ((ds[i].1, ds[i].2) : Bs) = ds[i] from rfl, List.set_getElem_self]; exact h⟩ ?_
    clear h
    rintro ⟨_, ⟨⟩⟩ w ⟨j, l, hj, hl, rfl, hlj, h⟩ K2 hK2
    dsimp only at h hK2 ⊢
    have hil : i < (ds.set i (ds[i].1, l)).length := by simpa using hc
    have hrow := brw_at (E := 5) hil
    rw [List.getElem_set_self] at hrow
    dsimp only at hrow
    have hxl := (h.rd (k := 2) (i := i) ⟨_, rfl, hrow⟩).bys_len
    repeat (first | (with_reducible refine NilP.mk ?_) | ((with_reducible refine RunN.isLoad ?_); (first | refine h.loadB 0 0 ⟨_, rfl, rfl⟩ rfl rfl ?_ | refine h.drew.loadB 0 0 ⟨_, rfl, rfl⟩ rfl rfl ?_)) | ((with_reducible refine ReadN.isLoad ?_); (first | refine h.readB 0 0 ⟨_, rfl, rfl⟩ rfl rfl ?_ | refine h.drew.readB 0 0 ⟨_, rfl, rfl⟩ rfl rfl ?_)) | ((with_reducible refine StillV.isLoad ?_); (first | refine ⟨h.stillB 0 0 ⟨_, rfl, rfl⟩ rfl rfl, ?_⟩)) | ((with_reducible refine RunU.isStor ?_); (first | (refine h.storB 0 0 ⟨_, rfl, rfl⟩ rfl rfl rfl ?_; intro w h; dsimp only [updG, setO] at h) | (refine h.drew.storB 0 0 ⟨_, rfl, rfl⟩ rfl rfl rfl ?_; intro w h; dsimp only [updG, setO] at h))) | ((with_reducible refine RunN.isBox ?_); (first | (refine h.newB run_boxA rfl ?_; intro bn w h; try dsimp only at h) | (refine h.drew.newB run_boxA rfl ?_; intro bn w h; try dsimp only at h))) | ((with_reducible refine RunN.isNew ?_); (first | (refine h.newB (NewC.run _) rfl ?_; intro bn w h) | (refine h.drew.newB (NewC.run _) rfl ?_; intro bn w h))))
    refine (h.rd (k := 1) (i := 0) ⟨_, rfl, rfl⟩).idxK i rfl (by omega) ?_
    intro b o hb
    refine (h.rd (k := 1) (i := 0) ⟨_, rfl, rfl⟩).el hb (i * 1) rfl (kd := .sl) (x := ds[i].1) (by rw [Nat.mul_one]; exact lsl_at hc) ?_
    rw [SplitB_iff]
    refine ⟨fun hd => ?_, fun hd => ?_⟩
    · have hd : j < l.length := by have := of_decide_eq_true hd; omega
      repeat (first | (with_reducible refine NilP.mk ?_) | ((with_reducible refine RunN.isLoad ?_); (first | refine h.loadB 0 0 ⟨_, rfl, rfl⟩ rfl rfl ?_ | refine h.drew.loadB 0 0 ⟨_, rfl, rfl⟩ rfl rfl ?_)) | ((with_reducible refine ReadN.isLoad ?_); (first | refine h.readB 0 0 ⟨_, rfl, rfl⟩ rfl rfl ?_ | refine h.drew.readB 0 0 ⟨_, rfl, rfl⟩ rfl rfl ?_)) | ((with_reducible refine StillV.isLoad ?_); (first | refine ⟨h.stillB 0 0 ⟨_, rfl, rfl⟩ rfl rfl, ?_⟩)) | ((with_reducible refine RunU.isStor ?_); (first | (refine h.storB 0 0 ⟨_, rfl, rfl⟩ rfl rfl rfl ?_; intro w h; dsimp only [updG, setO] at h) | (refine h.drew.storB 0 0 ⟨_, rfl, rfl⟩ rfl rfl rfl ?_; intro w h; dsimp only [updG, setO] at h))) | ((with_reducible refine RunN.isBox ?_); (first | (refine h.newB run_boxA rfl ?_; intro bn w h; try dsimp only at h) | (refine h.drew.newB run_boxA rfl ?_; intro bn w h; try dsimp only at h))) | ((with_reducible refine RunN.isNew ?_); (first | (refine h.newB (NewC.run _) rfl ?_; intro bn w h) | (refine h.drew.newB (NewC.run _) rfl ?_; intro bn w h))))
      refine (h.rd (k := 1) (i := 0) ⟨_, rfl, rfl⟩).idxK i rfl (by omega) ?_
      intro b1 o1 hb1
      refine (h.rd (k := 1) (i := 0) ⟨_, rfl, rfl⟩).el hb1 (i * 1) rfl (kd := .sl) (x := ds[i].1) (by rw [Nat.mul_one]; exact lsl_at hc) ?_
      refine (h.rd (k := 2) (i := i) ⟨_, rfl, hrow⟩).idxK j rfl (by omega) ?_
      intro b2 o2 hb2
      rw [(sb_v (i := i) (by omega)).1]
      refine h.storR 2 i ⟨_, rfl, hrow⟩ hb2 j (by rw [Nat.mul_one]) (by simpa using hd) rfl ?_
      intro w h
      rw [Go.Fw.bys_set] at h
      dsimp only [updG] at h
      have e := setO_brw 5 (ds.set i (ds[i].1, l)) i (ds[i].1, l.set j (sb i))
      simp only [brw, List.set_set] at e
      have h : St w0 w ([p.c] :: [.row 30 1 p.sl (lsl ds)] :: (ds.set i (ds[i].1, l.set j (sb i))).map (brw 5) :: H) := by
        rw [show (List.map (brw 5) (ds.set i (ds[i].1, l.set j (sb i)))) = _ from e.symm]; exact h
      refine hK2 _ _ ⟨j + 1, l.set j (sb i), by simp; omega, by simpa using hl, by dsimp only; rw [wr (by omega)]; omega, ?_, h⟩ (by dsimp only; rw [wr (by omega)]; omega)
      intro k hk
      rw [List.getElem?_set]
      by_cases hkj : j = k
      · subst hkj; simp [hd]
      · rw [if_neg hkj]; exact hlj k (by omega)
    · have hd : j = l.length := by have := of_decide_eq_false hd; omega
      subst hd
      have hll : l = List.replicate l.length (sb i) := by
        refine List.ext_getElem? fun k => ?_
        rcases Nat.lt_or_ge k l.length with hk | hk
        · rw [hlj k hk]; simp [hk]
        · rw [List.getElem?_eq_none hk, List.getElem?_eq_none (by simp; omega)]
      have hmap : (ds.set i (ds[i].1, l)).map (·.1) = ds.map (·.1) := by
        refine List.ext_getElem (by simp) fun k h1 h2 => ?_
        simp only [List.getElem_map, List.getElem_set]
        split
        · rename_i hik; subst hik; rfl
        · rfl
      refine hK _ _ ⟨i + 1, ds.set i (ds[i].1, l), by omega, by dsimp only; rw [wr (by omega)]; omega, hmap.trans hds, ?_, ?_, ?_⟩ (by dsimp only; rw [wr (by omega)]; omega)
      · intro k hk
        rw [List.getElem_set]
        split
        · dsimp only; omega
        · exact hlen k (by simpa using hk)
      · intro k hk hki
        rw [List.getElem_set]
        split
        · rename_i hik; subst hik; exact hll
        · exact hsg k (by simpa using hk) (by omega)
      · rw [lsl_map, hmap, ← lsl_map]; exact h
  have hc : i = ds.length := by have := of_decide_eq_false hc; omega
  clear hK K
  subst hc
  have hsg : ∀ k (hk : k < ds.length), ds[k].2 = List.replicate ds[k].2.length (sb k) := fun k hk => hsg k hk hk
  have hsl : ∀ k (hk : k < ds.length), ds[k].1.len = ds[k].2.length ∧ ds[k].1.len ≤ ds[k].1.cap := fun k hk => by
    have hr := h.rd (k := 2) (i := k) ⟨_, rfl, brw_at hk⟩
    exact ⟨hr.bys_len, hr.2.2⟩
  have h := ((St.empty.2 (h.nilrow 30 1)).bring 2 rfl)
  dsimp only [delO] at h
  -- each grows
  refine LoopX.mk (fun st w' => ∃ (i : Nat) (gd : List (List Ent)) (fd : List Bs), i ≤ ds.length ∧ st.2.1 = (i : Int) ∧ fd.length = i ∧ gd.length = i ∧ (∀ k (h1 : k < ds.length) (h2 : k < fd.length) (h3 : k < gd.length), Far 5 ds[k] fd[k] gd[k] ∧ fd[k].2 = ds[k].2 ++ List.replicate 600 (xb k)) ∧
    St w0 w' ([p.c] :: gd.flatten :: [.row 30 1 st.1 (lsl fd)] :: [.row 30 1 p.sl (lsl ds)] :: (ds.drop i).map (brw 5) :: H)) (fun st => ds.length - st.2.1.toNat)
    ⟨0, [], [], Nat.zero_le _, rfl, rfl, rfl, fun k _ h2 => by simp at h2, h⟩ ?_
  clear h
  rintro ⟨far, _, ⟨⟩⟩ w ⟨i, gd, fd, hi, rfl, hfl, hgl, hF, h⟩ K hK
  dsimp only at h hK ⊢
  have hfarl := (h.rd (k := 2) (i := 0) ⟨_, rfl, rfl⟩).1
  rw [lsl_len] at hfarl
  repeat (first | (with_reducible refine NilP.mk ?_) | ((with_reducible refine RunN.isLoad ?_); (first | refine h.loadB 0 0 ⟨_, rfl, rfl⟩ rfl rfl ?_ | refine h.drew.loadB 0 0 ⟨_, rfl, rfl⟩ rfl rfl ?_)) | ((with_reducible refine ReadN.isLoad ?_); (first | refine h.readB 0 0 ⟨_, rfl, rfl⟩ rfl rfl ?_ | refine h.drew.readB 0 0 ⟨_, rfl, rfl⟩ rfl rfl ?_)) | ((with_reducible refine StillV.isLoad ?_); (first | refine ⟨h.stillB 0 0 ⟨_, rfl, rfl⟩ rfl rfl, ?_⟩)) | ((with_reducible refine RunU.isStor ?_); (first | (refine h.storB 0 0 ⟨_, rfl, rfl⟩ rfl rfl rfl ?_; intro w h; dsimp only [updG, setO] at h) | (refine h.drew.storB 0 0 ⟨_, rfl, rfl⟩ rfl rfl rfl ?_; intro w h; dsimp only [updG, setO] at h))) | ((with_reducible refine RunN.isBox ?_); (first | (refine h.newB run_boxA rfl ?_; intro bn w h; try dsimp only at h) | (refine h.drew.newB run_boxA rfl ?_; intro bn w h; try dsimp only at h))) | ((with_reducible refine RunN.isNew ?_); (first | (refine h.newB (NewC.run _) rfl ?_; intro bn w h) | (refine h.drew.newB (NewC.run _) rfl ?_; intro bn w h))))
  rw [SplitB_iff]
  refine ⟨fun hc => ?_, fun hc => ?_⟩
  · have hc : i < ds.length := by have := of_decide_eq_true hc; omega
    repeat (first | (with_reducible refine NilP.mk ?_) | ((with_reducible refine RunN.isLoad ?_); (first | refine h.loadB 0 0 ⟨_, rfl, rfl⟩ rfl rfl ?_ | refine h.drew.loadB 0 0 ⟨_, rfl, rfl⟩ rfl rfl ?_)) | ((with_reducible refine ReadN.isLoad ?_); (first | refine h.readB 0 0 ⟨_, rfl, rfl⟩ rfl rfl ?_ | refine h.drew.readB 0 0 ⟨_, rfl, rfl⟩ rfl rfl ?_)) | ((with_reducible refine StillV.isLoad ?_); (first | refine ⟨h.stillB 0 0 ⟨_, rfl, rfl⟩ rfl rfl, ?_⟩)) | ((with_reducible refine RunU.isStor ?_); (first | (refine h.storB 0 0 ⟨_, rfl, rfl⟩ rfl rfl rfl ?_; intro w h; dsimp only [updG, setO] at h) | (refine h.drew.storB 0 0 ⟨_, rfl, rfl⟩ rfl rfl rfl ?_; intro w h; dsimp only [updG, setO] at h))) | ((with_reducible refine RunN.isBox ?_); (first | (refine h.newB run_boxA rfl ?_; intro bn w h; try dsimp only at h) | (refine h.drew.newB run_boxA rfl ?_; intro bn w h; try dsimp only at h))) | ((with_reducible refine RunN.isNew ?_); (first | (refine h.newB (NewC.run _) rfl ?_; intro bn w h) | (refine h.drew.newB (NewC.run _) rfl ?_; intro bn w h))))
    refine (h.rd (k := 3) (i := 0) ⟨_, rfl, rfl⟩).idxK i rfl (by omega) ?_
    intro b o hb
    refine (h.rd (k := 3) (i := 0) ⟨_, rfl, rfl⟩).el hb (i * 1) rfl (kd := .sl) (x := ds[i].1) (by rw [Nat.mul_one]; exact lsl_at hc) ?_
    rw [List.drop_eq_getElem_cons hc, List.map_cons] at h
    have h := St.one.1 (h.bring 4 rfl)
    dsimp only [delO] at h
    refine LoopX.mk (fun st w' => ∃ e : List UInt8, e.length ≤ 600 ∧ st.2.1 = (e.length : Int) ∧ e = List.replicate e.length (xb i) ∧ Grow 5 w0 w' ds[i].1 ds[i].2 st.1 e ((ds.drop (i + 1)).map (brw 5) :: [p.c] :: gd.flatten :: [.row 30 1 far (lsl fd)] :: [.row 30 1 p.sl (lsl ds)] :: H)) (fun st => 600 - st.2.1.toNat) ⟨[], by simp, rfl, rfl, Grow.start h⟩ ?_
    clear h
    rintro ⟨g, _, ⟨⟩⟩ w ⟨e, hel, rfl, hex, hg⟩ K2 hK2
    dsimp only at hg hK2 ⊢
    have hli := hlen i hc
    rw [SplitB_iff]
    refine ⟨fun hd => ?_, fun hd => ?_⟩
    · have hd : e.length < 600 := by have := of_decide_eq_true hd; omega
      refine Grow.app bs30 hg _ _ (xb_v (i := i) (by omega)).1 (by omega) ?_
      intro d' w hg
      refine hK2 _ _ ⟨e ++ [xb i], by simp; omega, by dsimp only; rw [wr (by omega)]; simp, ?_, hg⟩ (by dsimp only; rw [wr (by omega)]; omega)
      rw [List.length_append, List.length_singleton, List.replicate_succ', ← hex]
    · have hd : e.length = 600 := by have := of_decide_eq_false hd; omega
      rw [hd] at hex
      subst hex
      obtain ⟨gg, hgg, h⟩ := hg.far (hsl i hc).2
      clear hg
      refine h.newS 1 (bs29 _ _ rfl) rfl rfl rfl ?_
      intro s4 w h1 h2 h3 h
      refine h.app 5 0 ⟨_, rfl, rfl⟩ (h.rd (k := 0) (i := 0) ⟨_, rfl, rfl⟩) one_slice (by simp only [maxLen]; omega) (by omega) ?_
      intro s5 w h5 h
      dsimp only [updG, setO] at h
      have h := h.drop 0
      dsimp only [delO] at h
      rw [← lsl_snoc fd (g, ds[i].2 ++ List.replicate 600 (xb i))] at h
      have h := (St.two.2 (h.bring 3 rfl))
      dsimp only [delO] at h
      have e1 : gd.flatten ++ gg = (gd ++ [gg]).flatten := by simp
      rw [e1] at h
      have h := ((h.bring 1 rfl).back 4).bring 1 rfl
      dsimp only [delO, insO] at h
      refine hK _ _ ⟨i + 1, gd ++ [gg], fd ++ [(g, ds[i].2 ++ List.replicate 600 (xb i))], hc, by dsimp only; rw [wr (by omega)]; omega, by simp [hfl], by simp [hgl], ?_, h⟩ (by dsimp only; rw [wr (by omega)]; omega)
      intro k k1 k2 k3
      rcases Nat.lt_or_ge k i with hlt | hge
      · rw [List.getElem_append_left (by omega), List.getElem_append_left (by omega)]
        exact hF k k1 (by omega) (by omega)
      · have : k = i := by simp at k2; omega
        subst this
        rw [List.getElem_append_right (by omega), List.getElem_append_right (by omega)]
        simp only [hfl, hgl, Nat.sub_self, List.getElem_cons_zero]
        exact ⟨hgg, trivial⟩
  have hc : i = ds.length := by have := of_decide_eq_false hc; omega
  clear hK K
  subst hc
  -- none is seen in another one
  refine LoopX.mk (fun st w' => ∃ i : Nat, i ≤ ds.length ∧ st.1 = (i : Int) ∧ St w0 w' ([p.c] :: gd.flatten :: [.row 30 1 far (lsl fd)] :: [.row 30 1 p.sl (lsl ds)] :: (ds.drop ds.length).map (brw 5) :: H)) (fun st => ds.length - st.1.toNat) ⟨0, Nat.zero_le _, rfl, h⟩ ?_
  clear h
  rintro ⟨_, ⟨⟩⟩ w ⟨i, hi, rfl, h⟩ K hK
  dsimp only at h hK ⊢
  rw [SplitB_iff]
  refine ⟨fun hc => ?_, fun hc => ?_⟩
  · have hc : i < ds.length := by have := of_decide_eq_true hc; omega
    have hfi : i < fd.length := by omega
    have hgi : i < gd.length := by omega
    obtain ⟨hF, hFe⟩ := hF i hc hfi hgi
    have hsi := hsl i hc
    have hsgi := hsg i hc
    have hli := hlen i hc
    have hgm : ∀ e ∈ gd[i], e ∈ gd.flatten := fun e he => List.mem_flatten.2 ⟨_, List.getElem_mem _, he⟩
    have hyl : fd[i].2.length = ds[i].2.length + 600 := by rw [hFe]; simp
    have hx1 : ∀ j, j < ds[i].2.length → (bys ds[i].2)[j]? = some (u8v (sb i)) := by
      intro j hj
      have e : ds[i].2[j]? = some (sb i) := by rw [hsgi]; simp [hj]
      simp only [bys, List.getElem?_map, e]; rfl
    have hy1 : ∀ j, j < ds[i].2.length → (bys fd[i].2)[j]? = some (u8v (sb i)) := by
      intro j hj
      rw [hFe, bys_append, List.getElem?_append_left (by simpa using hj)]
      exact hx1 j hj
    have hy2 : ∀ j, ds[i].2.length ≤ j → j < ds[i].2.length + 600 → (bys fd[i].2)[j]? = some (u8v (xb i)) := by
      intro j hj hj2
      rw [hFe, bys_append, List.getElem?_append_right (by simpa using hj), bys_length, bys_get (by rw [List.length_replicate]; omega), List.getElem_replicate]
    repeat (first | (with_reducible refine NilP.mk ?_) | ((with_reducible refine RunN.isLoad ?_); (first | refine h.loadB 0 0 ⟨_, rfl, rfl⟩ rfl rfl ?_ | refine h.drew.loadB 0 0 ⟨_, rfl, rfl⟩ rfl rfl ?_)) | ((with_reducible refine ReadN.isLoad ?_); (first | refine h.readB 0 0 ⟨_, rfl, rfl⟩ rfl rfl ?_ | refine h.drew.readB 0 0 ⟨_, rfl, rfl⟩ rfl rfl ?_)) | ((with_reducible refine StillV.isLoad ?_); (first | refine ⟨h.stillB 0 0 ⟨_, rfl, rfl⟩ rfl rfl, ?_⟩)) | ((with_reducible refine RunU.isStor ?_); (first | (refine h.storB 0 0 ⟨_, rfl, rfl⟩ rfl rfl rfl ?_; intro w h; dsimp only [updG, setO] at h) | (refine h.drew.storB 0 0 ⟨_, rfl, rfl⟩ rfl rfl rfl ?_; intro w h; dsimp only [updG, setO] at h))) | ((with_reducible refine RunN.isBox ?_); (first | (refine h.newB run_boxA rfl ?_; intro bn w h; try dsimp only at h) | (refine h.drew.newB run_boxA rfl ?_; intro bn w h; try dsimp only at h))) | ((with_reducible refine RunN.isNew ?_); (first | (refine h.newB (NewC.run _) rfl ?_; intro bn w h) | (refine h.drew.newB (NewC.run _) rfl ?_; intro bn w h))))
    refine (h.rd (k := 3) (i := 0) ⟨_, rfl, rfl⟩).idxK i rfl (by omega) ?_
    intro b o hb
    refine (h.rd (k := 3) (i := 0) ⟨_, rfl, rfl⟩).el hb (i * 1) rfl (kd := .sl) (x := ds[i].1) (by rw [Nat.mul_one]; exact lsl_at hc) ?_
    refine LoopX.mk (fun st w' => ∃ j : Nat, j ≤ fd[i].2.length ∧ st.1 = (j : Int) ∧ St w0 w' ([p.c] :: gd.flatten :: [.row 30 1 far (lsl fd)] :: [.row 30 1 p.sl (lsl ds)] :: (ds.drop ds.length).map (brw 5) :: H)) (fun st => fd[i].2.length - st.1.toNat) ⟨0, Nat.zero_le _, rfl, h⟩ ?_
    clear h
    rintro ⟨_, ⟨⟩⟩ w ⟨j, hj, rfl, h⟩ K2 hK2
    dsimp only at h hK2 ⊢
    refine (h.rd (k := 2) (i := 0) ⟨_, rfl, rfl⟩).idxK i rfl (by omega) ?_
    intro b3 o3 hb3
    refine (h.rd (k := 2) (i := 0) ⟨_, rfl, rfl⟩).el hb3 (i * 1) rfl (kd := .sl) (x := fd[i].1) (by rw [Nat.mul_one]; exact lsl_at hfi) ?_
    have hfl3 := hF.2.2.1
    obtain ⟨hry, hrx⟩ := hF.reads h (k := 1) (gs := gd.flatten) rfl hgm
    rw [SplitB_iff]
    refine ⟨fun hd => ?_, fun hd => ?_⟩
    · have hd : j < fd[i].2.length := by have := of_decide_eq_true hd; omega
      refine JoinX.mk (fun jj w' => jj.1 = false ∧ St w0 w' ([p.c] :: gd.flatten :: [.row 30 1 far (lsl fd)] :: [.row 30 1 p.sl (lsl ds)] :: (ds.drop ds.length).map (brw 5) :: H)) ?_ ?_
      · rintro ⟨_, ⟨⟩⟩ w ⟨hjj, h⟩
        dsimp only at hjj h ⊢
        subst hjj
        rw [SplitB_iff]
        refine ⟨fun hz => ?_, fun hz => ?_⟩
        · simp at hz
        · exact hK2 _ _ ⟨j + 1, hd, by dsimp only; rw [wr (by omega)]; omega, h⟩ (by dsimp only; rw [wr (by omega)]; omega)
      · intro k15 hk15
        rw [SplitB_iff]
        refine ⟨fun hjn => ?_, fun hjn => ?_⟩
        · have hjn : j < ds[i].2.length := by have := of_decide_eq_true hjn; omega
          repeat (first | (with_reducible refine NilP.mk ?_) | ((with_reducible refine RunN.isLoad ?_); (first | refine h.loadB 0 0 ⟨_, rfl, rfl⟩ rfl rfl ?_ | refine h.drew.loadB 0 0 ⟨_, rfl, rfl⟩ rfl rfl ?_)) | ((with_reducible refine ReadN.isLoad ?_); (first | refine h.readB 0 0 ⟨_, rfl, rfl⟩ rfl rfl ?_ | refine h.drew.readB 0 0 ⟨_, rfl, rfl⟩ rfl rfl ?_)) | ((with_reducible refine StillV.isLoad ?_); (first | refine ⟨h.stillB 0 0 ⟨_, rfl, rfl⟩ rfl rfl, ?_⟩)) | ((with_reducible refine RunU.isStor ?_); (first | (refine h.storB 0 0 ⟨_, rfl, rfl⟩ rfl rfl rfl ?_; intro w h; dsimp only [updG, setO] at h) | (refine h.drew.storB 0 0 ⟨_, rfl, rfl⟩ rfl rfl rfl ?_; intro w h; dsimp only [updG, setO] at h))) | ((with_reducible refine RunN.isBox ?_); (first | (refine h.newB run_boxA rfl ?_; intro bn w h; try dsimp only at h) | (refine h.drew.newB run_boxA rfl ?_; intro bn w h; try dsimp only at h))) | ((with_reducible refine RunN.isNew ?_); (first | (refine h.newB (NewC.run _) rfl ?_; intro bn w h) | (refine h.drew.newB (NewC.run _) rfl ?_; intro bn w h))))
          refine (h.rd (k := 3) (i := 0) ⟨_, rfl, rfl⟩).idxK i rfl (by omega) ?_
          intro b4 o4 hb4
          refine (h.rd (k := 3) (i := 0) ⟨_, rfl, rfl⟩).el hb4 (i * 1) rfl (kd := .sl) (x := ds[i].1) (by rw [Nat.mul_one]; exact lsl_at hc) ?_
          refine hrx.idxK j rfl (by omega) ?_
          intro b5 o5 hb5
          refine hrx.el hb5 (j * 1) rfl (kd := .int .u8) (x := ((sb i).toNat : Int)) (by rw [Nat.mul_one]; exact hx1 j hjn) ?_
          rw [(sb_v (i := i) (by omega)).2]
          rw [SplitB_iff]
          refine ⟨fun hz => ?_, fun hz => ?_⟩
          · simp at hz
          · refine (h.rd (k := 2) (i := 0) ⟨_, rfl, rfl⟩).idxK i rfl (by omega) ?_
            intro b6 o6 hb6
            refine (h.rd (k := 2) (i := 0) ⟨_, rfl, rfl⟩).el hb6 (i * 1) rfl (kd := .sl) (x := fd[i].1) (by rw [Nat.mul_one]; exact lsl_at hfi) ?_
            refine hry.idxK j rfl (by omega) ?_
            intro b7 o7 hb7
            refine hry.el hb7 (j * 1) rfl (kd := .int .u8) (x := ((sb i).toNat : Int)) (by rw [Nat.mul_one]; exact hy1 j hjn) ?_
            rw [SplitB_iff]
            refine ⟨fun hz2 => ?_, fun hz2 => ?_⟩
            · simp at hz2
            · skip
              rw [SplitB_iff]
              refine ⟨fun hz3 => ?_, fun hz3 => ?_⟩
              · have := of_decide_eq_true hz3; omega
              · exact hk15 _ _ ⟨rfl, h⟩
        · have hjn : ds[i].2.length ≤ j := by have := of_decide_eq_false hjn; omega
          rw [SplitB_iff]
          refine ⟨fun hz3 => ?_, fun hz3 => ?_⟩
          · have hyj := hy2 j hjn (by omega)
            refine (h.rd (k := 2) (i := 0) ⟨_, rfl, rfl⟩).idxK i rfl (by omega) ?_
            intro b6 o6 hb6
            refine (h.rd (k := 2) (i := 0) ⟨_, rfl, rfl⟩).el hb6 (i * 1) rfl (kd := .sl) (x := fd[i].1) (by rw [Nat.mul_one]; exact lsl_at hfi) ?_
            refine hry.idxK j rfl (by omega) ?_
            intro b7 o7 hb7
            refine hry.el hb7 (j * 1) rfl (kd := .int .u8) (x := ((xb i).toNat : Int)) (by rw [Nat.mul_one]; exact hyj) ?_
            refine hk15 _ _ ⟨?_, h⟩
            dsimp only
            rw [(xb_v (i := i) (by omega)).2]
            simp
          · have := of_decide_eq_false hz3; omega
    · exact hK _ _ ⟨i + 1, hc, by dsimp only; rw [wr (by omega)]; omega, h⟩ (by dsimp only; rw [wr (by omega)]; omega)
  · skip
    rw [hH] at h
    have h := (((h.drop 1).drop 1).drop 1).drop 1
    dsimp only [delO] at h
    clear hlen hsg hsl hF hfl hgl hdl hds
    refine LoopX.mk (fun st w' => ∃ i : Nat, i ≤ p.ns.length ∧ st.1 = (i : Int) ∧ St w0 w' ([p.c] :: [.row 44 1 p.sn (lsi p.ns)] :: p.ns.map irw :: [.row 44 1 p.so (lsi p.os)] :: p.os.map irw :: F)) (fun st => p.ns.length - st.1.toNat) ⟨0, Nat.zero_le _, rfl, h⟩ ?_
    clear h
    rintro ⟨_, ⟨⟩⟩ w ⟨i, hi, rfl, h⟩ K hK
    dsimp only at h hK ⊢
    repeat (first | (with_reducible refine NilP.mk ?_) | ((with_reducible refine RunN.isLoad ?_); (first | refine h.loadB 0 0 ⟨_, rfl, rfl⟩ rfl rfl ?_ | refine h.drew.loadB 0 0 ⟨_, rfl, rfl⟩ rfl rfl ?_)) | ((with_reducible refine ReadN.isLoad ?_); (first | refine h.readB 0 0 ⟨_, rfl, rfl⟩ rfl rfl ?_ | refine h.drew.readB 0 0 ⟨_, rfl, rfl⟩ rfl rfl ?_)) | ((with_reducible refine StillV.isLoad ?_); (first | refine ⟨h.stillB 0 0 ⟨_, rfl, rfl⟩ rfl rfl, ?_⟩)) | ((with_reducible refine RunU.isStor ?_); (first | (refine h.storB 0 0 ⟨_, rfl, rfl⟩ rfl rfl rfl ?_; intro w h; dsimp only [updG, setO] at h) | (refine h.drew.storB 0 0 ⟨_, rfl, rfl⟩ rfl rfl rfl ?_; intro w h; dsimp only [updG, setO] at h))) | ((with_reducible refine RunN.isBox ?_); (first | (refine h.newB run_boxA rfl ?_; intro bn w h; try dsimp only at h) | (refine h.drew.newB run_boxA rfl ?_; intro bn w h; try dsimp only at h))) | ((with_reducible refine RunN.isNew ?_); (first | (refine h.newB (NewC.run _) rfl ?_; intro bn w h) | (refine h.drew.newB (NewC.run _) rfl ?_; intro bn w h))))
    rw [SplitB_iff]
    refine ⟨fun hc => ?_, fun hc => ?_⟩
    · have hc : i < p.ns.length := by have := of_decide_eq_true hc; omega
      have hco : i < p.os.length := by omega
      have hv : p.os[i].2 = p.ns[i].2 := by
        have := congrArg (fun l => l[i]?) ok.ol
        simpa [hc, hco] using this
      have hn64 := hnl _ (List.getElem_mem hc)
      refine LoopX.mk (fun st w' => ∃ j : Nat, j ≤ p.ns[i].2.length ∧ st.1 = (j : Int) ∧ St w0 w' ([p.c] :: [.row 44 1 p.sn (lsi p.ns)] :: p.ns.map irw :: [.row 44 1 p.so (lsi p.os)] :: p.os.map irw :: F)) (fun st => p.ns[i].2.length - st.1.toNat) ⟨0, Nat.zero_le _, rfl, h⟩ ?_
      clear h
      rintro ⟨_, ⟨⟩⟩ w ⟨j, hj, rfl, h⟩ K2 hK2
      dsimp only at h hK2 ⊢
      have hil := (h.rd (k := 2) (i := i) ⟨_, rfl, irw_at hc⟩).1
      rw [lin_len, Nat.mul_one] at hil
      have hol2 := (h.rd (k := 4) (i := i) ⟨_, rfl, irw_at hco⟩).1
      rw [lin_len, Nat.mul_one, hv] at hol2
      repeat (first | (with_reducible refine NilP.mk ?_) | ((with_reducible refine RunN.isLoad ?_); (first | refine h.loadB 0 0 ⟨_, rfl, rfl⟩ rfl rfl ?_ | refine h.drew.loadB 0 0 ⟨_, rfl, rfl⟩ rfl rfl ?_)) | ((with_reducible refine ReadN.isLoad ?_); (first | refine h.readB 0 0 ⟨_, rfl, rfl⟩ rfl rfl ?_ | refine h.drew.readB 0 0 ⟨_, rfl, rfl⟩ rfl rfl ?_)) | ((with_reducible refine StillV.isLoad ?_); (first | refine ⟨h.stillB 0 0 ⟨_, rfl, rfl⟩ rfl rfl, ?_⟩)) | ((with_reducible refine RunU.isStor ?_); (first | (refine h.storB 0 0 ⟨_, rfl, rfl⟩ rfl rfl rfl ?_; intro w h; dsimp only [updG, setO] at h) | (refine h.drew.storB 0 0 ⟨_, rfl, rfl⟩ rfl rfl rfl ?_; intro w h; dsimp only [updG, setO] at h))) | ((with_reducible refine RunN.isBox ?_); (first | (refine h.newB run_boxA rfl ?_; intro bn w h; try dsimp only at h) | (refine h.drew.newB run_boxA rfl ?_; intro bn w h; try dsimp only at h))) | ((with_reducible refine RunN.isNew ?_); (first | (refine h.newB (NewC.run _) rfl ?_; intro bn w h) | (refine h.drew.newB (NewC.run _) rfl ?_; intro bn w h))))
      refine (h.rd (k := 1) (i := 0) ⟨_, rfl, rfl⟩).idxK i rfl (by omega) ?_
      intro b o hb
      refine (h.rd (k := 1) (i := 0) ⟨_, rfl, rfl⟩).el hb (i * 1) rfl (kd := .sl) (x := p.ns[i].1) (by rw [Nat.mul_one]; exact lsi_at hc) ?_
      rw [SplitB_iff]
      refine ⟨fun hd => ?_, fun hd => ?_⟩
      · have hd : j < p.ns[i].2.length := by have := of_decide_eq_true hd; omega
        have h := h.drew
        repeat (first | (with_reducible refine NilP.mk ?_) | ((with_reducible refine RunN.isLoad ?_); (first | refine h.loadB 0 0 ⟨_, rfl, rfl⟩ rfl rfl ?_ | refine h.drew.loadB 0 0 ⟨_, rfl, rfl⟩ rfl rfl ?_)) | ((with_reducible refine ReadN.isLoad ?_); (first | refine h.readB 0 0 ⟨_, rfl, rfl⟩ rfl rfl ?_ | refine h.drew.readB 0 0 ⟨_, rfl, rfl⟩ rfl rfl ?_)) | ((with_reducible refine StillV.isLoad ?_); (first | refine ⟨h.stillB 0 0 ⟨_, rfl, rfl⟩ rfl rfl, ?_⟩)) | ((with_reducible refine RunU.isStor ?_); (first | (refine h.storB 0 0 ⟨_, rfl, rfl⟩ rfl rfl rfl ?_; intro w h; dsimp only [updG, setO] at h) | (refine h.drew.storB 0 0 ⟨_, rfl, rfl⟩ rfl rfl rfl ?_; intro w h; dsimp only [updG, setO] at h))) | ((with_reducible refine RunN.isBox ?_); (first | (refine h.newB run_boxA rfl ?_; intro bn w h; try dsimp only at h) | (refine h.drew.newB run_boxA rfl ?_; intro bn w h; try dsimp only at h))) | ((with_reducible refine RunN.isNew ?_); (first | (refine h.newB (NewC.run _) rfl ?_; intro bn w h) | (refine h.drew.newB (NewC.run _) rfl ?_; intro bn w h))))
        refine (h.rd (k := 1) (i := 0) ⟨_, rfl, rfl⟩).idxR i rfl (by omega) ?_
        intro b1 o1 hb1
        refine (h.rd (k := 1) (i := 0) ⟨_, rfl, rfl⟩).elR hb1 (i * 1) rfl (kd := .sl) (x := p.ns[i].1) (by rw [Nat.mul_one]; exact lsi_at hc) ?_
        refine (h.rd (k := 2) (i := i) ⟨_, rfl, irw_at hc⟩).idxR j rfl (by omega) ?_
        intro b2 o2 hb2
        refine (h.rd (k := 2) (i := i) ⟨_, rfl, irw_at hc⟩).elR hb2 (j * 1) rfl (kd := .int .i64) (x := p.ns[i].2[j]) (by rw [Nat.mul_one]; exact lin_at hd) ?_
        repeat (first | (with_reducible refine NilP.mk ?_) | ((with_reducible refine RunN.isLoad ?_); (first | refine h.loadB 0 0 ⟨_, rfl, rfl⟩ rfl rfl ?_ | refine h.drew.loadB 0 0 ⟨_, rfl, rfl⟩ rfl rfl ?_)) | ((with_reducible refine ReadN.isLoad ?_); (first | refine h.readB 0 0 ⟨_, rfl, rfl⟩ rfl rfl ?_ | refine h.drew.readB 0 0 ⟨_, rfl, rfl⟩ rfl rfl ?_)) | ((with_reducible refine StillV.isLoad ?_); (first | refine ⟨h.stillB 0 0 ⟨_, rfl, rfl⟩ rfl rfl, ?_⟩)) | ((with_reducible refine RunU.isStor ?_); (first | (refine h.storB 0 0 ⟨_, rfl, rfl⟩ rfl rfl rfl ?_; intro w h; dsimp only [updG, setO] at h) | (refine h.drew.storB 0 0 ⟨_, rfl, rfl⟩ rfl rfl rfl ?_; intro w h; dsimp only [updG, setO] at h))) | ((with_reducible refine RunN.isBox ?_); (first | (refine h.newB run_boxA rfl ?_; intro bn w h; try dsimp only at h) | (refine h.drew.newB run_boxA rfl ?_; intro bn w h; try dsimp only at h))) | ((with_reducible refine RunN.isNew ?_); (first | (refine h.newB (NewC.run _) rfl ?_; intro bn w h) | (refine h.drew.newB (NewC.run _) rfl ?_; intro bn w h))))
        refine (h.rd (k := 3) (i := 0) ⟨_, rfl, rfl⟩).idxR i rfl (by omega) ?_
        intro b3 o3 hb3
        refine (h.rd (k := 3) (i := 0) ⟨_, rfl, rfl⟩).elR hb3 (i * 1) rfl (kd := .sl) (x := p.os[i].1) (by rw [Nat.mul_one]; exact lsi_at hco) ?_
        refine (h.rd (k := 4) (i := i) ⟨_, rfl, irw_at hco⟩).idxR j rfl (by omega) ?_
        intro b4 o4 hb4
        refine (h.rd (k := 4) (i := i) ⟨_, rfl, irw_at hco⟩).elR hb4 (j * 1) rfl (kd := .int .i64) (x := p.ns[i].2[j]) (by rw [Nat.mul_one, hv]; exact lin_at hd) ?_
        rw [SplitB_iff]
        refine ⟨fun hz => ?_, fun hz => ?_⟩
        · simp at hz
        · exact hK2 _ _ ⟨j + 1, hd, by dsimp only; rw [wr (by omega)]; omega, h⟩ (by dsimp only; rw [wr (by omega)]; omega)
      · exact hK _ _ ⟨i + 1, hc, by dsimp only; rw [wr (by omega)]; omega, h⟩ (by dsimp only; rw [wr (by omega)]; omega)
    clear hK hc hi i K
    have h := (h.drop 3).drop 3
    dsimp only [delO] at h
    have hle := hnl
    have hsf := hsn
    have hfn := hnn
    -- signed
    refine LoopX.mk (fun st w' => ∃ (i : Nat) (ds : List Is), i ≤ p.ns.length ∧ st.1 = (i : Int) ∧ ds.map (·.1) = p.ns.map (·.1) ∧ (∀ k (hk : k < ds.length), ds[k].2.length ≤ 64) ∧ (∀ k (hk : k < ds.length), k < i → ds[k].2 = List.replicate ds[k].2.length (sbI k)) ∧
      St w0 w' ([p.c] :: [.row 44 1 p.sn (lsi ds)] :: ds.map (irw) :: F)) (fun st => p.ns.length - st.1.toNat) ⟨0, p.ns, Nat.zero_le _, rfl, rfl, fun k hk => hle _ (List.getElem_mem _), fun k _ h0 => by omega, h⟩ ?_
    clear h
    rintro ⟨_, ⟨⟩⟩ w ⟨i, ds, hi, rfl, hds, hlen, hsg, h⟩ K hK
    dsimp only at h hK ⊢
    have hdl : ds.length = p.ns.length := by have := congrArg List.length hds; simpa using this
    repeat (first | (with_reducible refine NilP.mk ?_) | ((with_reducible refine RunN.isLoad ?_); (first | refine h.loadB 0 0 ⟨_, rfl, rfl⟩ rfl rfl ?_ | refine h.drew.loadB 0 0 ⟨_, rfl, rfl⟩ rfl rfl ?_)) | ((with_reducible refine ReadN.isLoad ?_); (first | refine h.readB 0 0 ⟨_, rfl, rfl⟩ rfl rfl ?_ | refine h.drew.readB 0 0 ⟨_, rfl, rfl⟩ rfl rfl ?_)) | ((with_reducible refine StillV.isLoad ?_); (first | refine ⟨h.stillB 0 0 ⟨_, rfl, rfl⟩ rfl rfl, ?_⟩)) | ((with_reducible refine RunU.isStor ?_); (first | (refine h.storB 0 0 ⟨_, rfl, rfl⟩ rfl rfl rfl ?_; intro w h; dsimp only [updG, setO] at h) | (refine h.drew.storB 0 0 ⟨_, rfl, rfl⟩ rfl rfl rfl ?_; intro w h; dsimp only [updG, setO] at h))) | ((with_reducible refine RunN.isBox ?_); (first | (refine h.newB run_boxA rfl ?_; intro bn w h; try dsimp only at h) | (refine h.drew.newB run_boxA rfl ?_; intro bn w h; try dsimp only at h))) | ((with_reducible refine RunN.isNew ?_); (first | (refine h.newB (NewC.run _) rfl ?_; intro bn w h) | (refine h.drew.newB (NewC.run _) rfl ?_; intro bn w h))))
    rw [SplitB_iff]
    refine ⟨fun hc => ?_, fun hc => ?_⟩
    · have hc : i < ds.length := by have := of_decide_eq_true hc; omega
      have hli := hlen i hc
      refine LoopX.mk (fun st w' => ∃ (j : Nat) (l : List Int), j ≤ l.length ∧ l.length = ds[i].2.length ∧ st.1 = (j : Int) ∧ (∀ k, k < j → l[k]? = some (sbI i)) ∧ St w0 w' ([p.c] :: [.row 44 1 p.sn (lsi ds)] :: (ds.set i (ds[i].1, l)).map (irw) :: F)) (fun st => ds[i].2.length - st.1.toNat)
        ⟨0, ds[i].2, Nat.zero_le _, rfl, rfl, fun k hk => by omega, by rw [show ((ds[i].1, ds[i].2) : Is) = ds[i] from rfl, List.set_getElem_self]; exact h⟩ ?_
      clear h
      rintro ⟨_, ⟨⟩⟩ w ⟨j, l, hj, hl, rfl, hlj, h⟩ K2 hK2
      dsimp only at h hK2 ⊢
      have hil : i < (ds.set i (ds[i].1, l)).length := by simpa using hc
      have hrow := irw_at hil
      rw [List.getElem_set_self] at hrow
      dsimp only at hrow
      have hxl : ds[i].1.len = l.length := by have := (h.rd (k := 2) (i := i) ⟨_, rfl, hrow⟩).1; rw [lin_len] at this; omega
      repeat (first | (with_reducible refine NilP.mk ?_) | ((with_reducible refine RunN.isLoad ?_); (first | refine h.loadB 0 0 ⟨_, rfl, rfl⟩ rfl rfl ?_ | refine h.drew.loadB 0 0 ⟨_, rfl, rfl⟩ rfl rfl ?_)) | ((with_reducible refine ReadN.isLoad ?_); (first | refine h.readB 0 0 ⟨_, rfl, rfl⟩ rfl rfl ?_ | refine h.drew.readB 0 0 ⟨_, rfl, rfl⟩ rfl rfl ?_)) | ((with_reducible refine StillV.isLoad ?_); (first | refine ⟨h.stillB 0 0 ⟨_, rfl, rfl⟩ rfl rfl, ?_⟩)) | ((with_reducible refine RunU.isStor ?_); (first | (refine h.storB 0 0 ⟨_, rfl, rfl⟩ rfl rfl rfl ?_; intro w h; dsimp only [updG, setO] at h) | (refine h.drew.storB 0 0 ⟨_, rfl, rfl⟩ rfl rfl rfl ?_; intro w h; dsimp only [updG, setO] at h))) | ((with_reducible refine RunN.isBox ?_); (first | (refine h.newB run_boxA rfl ?_; intro bn w h; try dsimp only at h) | (refine h.drew.newB run_boxA rfl ?_; intro bn w h; try dsimp only at h))) | ((with_reducible refine RunN.isNew ?_); (first | (refine h.newB (NewC.run _) rfl ?_; intro bn w h) | (refine h.drew.newB (NewC.run _) rfl ?_; intro bn w h))))
      refine (h.rd (k := 1) (i := 0) ⟨_, rfl, rfl⟩).idxK i rfl (by omega) ?_
      intro b o hb
      refine (h.rd (k := 1) (i := 0) ⟨_, rfl, rfl⟩).el hb (i * 1) rfl (kd := .sl) (x := ds[i].1) (by rw [Nat.mul_one]; exact lsi_at hc) ?_
      rw [SplitB_iff]
      refine ⟨fun hd => ?_, fun hd => ?_⟩
      · have hd : j < l.length := by have := of_decide_eq_true hd; omega
        repeat (first | (with_reducible refine NilP.mk ?_) | ((with_reducible refine RunN.isLoad ?_); (first | refine h.loadB 0 0 ⟨_, rfl, rfl⟩ rfl rfl ?_ | refine h.drew.loadB 0 0 ⟨_, rfl, rfl⟩ rfl rfl ?_)) | ((with_reducible refine ReadN.isLoad ?_); (first | refine h.readB 0 0 ⟨_, rfl, rfl⟩ rfl rfl ?_ | refine h.drew.readB 0 0 ⟨_, rfl, rfl⟩ rfl rfl ?_)) | ((with_reducible refine StillV.isLoad ?_); (first | refine ⟨h.stillB 0 0 ⟨_, rfl, rfl⟩ rfl rfl, ?_⟩)) | ((with_reducible refine RunU.isStor ?_); (first | (refine h.storB 0 0 ⟨_, rfl, rfl⟩ rfl rfl rfl ?_; intro w h; dsimp only [updG, setO] at h) | (refine h.drew.storB 0 0 ⟨_, rfl, rfl⟩ rfl rfl rfl ?_; intro w h; dsimp only [updG, setO] at h))) | ((with_reducible refine RunN.isBox ?_); (first | (refine h.newB run_boxA rfl ?_; intro bn w h; try dsimp only at h) | (refine h.drew.newB run_boxA rfl ?_; intro bn w h; try dsimp only at h))) | ((with_reducible refine RunN.isNew ?_); (first | (refine h.newB (NewC.run _) rfl ?_; intro bn w h) | (refine h.drew.newB (NewC.run _) rfl ?_; intro bn w h))))
        refine (h.rd (k := 1) (i := 0) ⟨_, rfl, rfl⟩).idxK i rfl (by omega) ?_
        intro b1 o1 hb1
        refine (h.rd (k := 1) (i := 0) ⟨_, rfl, rfl⟩).el hb1 (i * 1) rfl (kd := .sl) (x := ds[i].1) (by rw [Nat.mul_one]; exact lsi_at hc) ?_
        refine (h.rd (k := 2) (i := i) ⟨_, rfl, hrow⟩).idxK j rfl (by omega) ?_
        intro b2 o2 hb2
        rw [sbI_v (i := i) (by omega)]
        refine h.storR 2 i ⟨_, rfl, hrow⟩ hb2 j (by rw [Nat.mul_one]) (by rw [lin_len]; exact hd) rfl ?_
        intro w h
        rw [lin_set] at h
        dsimp only [updG] at h
        have e := setO_irw (ds.set i (ds[i].1, l)) i (ds[i].1, l.set j (sbI i))
        simp only [irw, List.set_set] at e
        have h : St w0 w ([p.c] :: [.row 44 1 p.sn (lsi ds)] :: (ds.set i (ds[i].1, l.set j (sbI i))).map (irw) :: F) := by
          rw [show (List.map (irw) (ds.set i (ds[i].1, l.set j (sbI i)))) = _ from e.symm]; exact h
        refine hK2 _ _ ⟨j + 1, l.set j (sbI i), by simp; omega, by simpa using hl, by dsimp only; rw [wr (by omega)]; omega, ?_, h⟩ (by dsimp only; rw [wr (by omega)]; omega)
        intro k hk
        rw [List.getElem?_set]
        by_cases hkj : j = k
        · subst hkj; simp [hd]
        · rw [if_neg hkj]; exact hlj k (by omega)
      · have hd : j = l.length := by have := of_decide_eq_false hd; omega
        subst hd
        have hll : l = List.replicate l.length (sbI i) := by
          refine List.ext_getElem? fun k => ?_
          rcases Nat.lt_or_ge k l.length with hk | hk
          · rw [hlj k hk]; simp [hk]
          · rw [List.getElem?_eq_none hk, List.getElem?_eq_none (by simp; omega)]
        have hmap : (ds.set i (ds[i].1, l)).map (·.1) = ds.map (·.1) := by
          refine List.ext_getElem (by simp) fun k h1 h2 => ?_
          simp only [List.getElem_map, List.getElem_set]
          split
          · rename_i hik; subst hik; rfl
          · rfl
        refine hK _ _ ⟨i + 1, ds.set i (ds[i].1, l), by omega, by dsimp only; rw [wr (by omega)]; omega, hmap.trans hds, ?_, ?_, ?_⟩ (by dsimp only; rw [wr (by omega)]; omega)
        · intro k hk
          rw [List.getElem_set]
          split
          · dsimp only; omega
          · exact hlen k (by simpa using hk)
        · intro k hk hki
          rw [List.getElem_set]
          split
          · rename_i hik; subst hik; exact hll
          · exact hsg k (by simpa using hk) (by omega)
        · rw [lsi_map, hmap, ← lsi_map]; exact h
    have hc : i = ds.length := by have := of_decide_eq_false hc; omega
    clear hK K
    subst hc
    have hsg : ∀ k (hk : k < ds.length), ds[k].2 = List.replicate ds[k].2.length (sbI k) := fun k hk => hsg k hk hk
    have hsl : ∀ k (hk : k < ds.length), ds[k].1.len = ds[k].2.length ∧ ds[k].1.len ≤ ds[k].1.cap := fun k hk => by
      have hr := h.rd (k := 2) (i := k) ⟨_, rfl, irw_at hk⟩
      exact ⟨by have := hr.1; rw [lin_len] at this; omega, hr.2.2⟩
    have h := ((St.empty.2 (h.nilrow 44 1)).bring 2 rfl)
    dsimp only [delO] at h
    -- each grows
    refine LoopX.mk (fun st w' => ∃ (i : Nat) (gd : List (List Ent)) (fd : List Is), i ≤ ds.length ∧ st.2.1 = (i : Int) ∧ fd.length = i ∧ gd.length = i ∧ (∀ k (h1 : k < ds.length) (h2 : k < fd.length) (h3 : k < gd.length), FarV 3 (ds[k].1, lin ds[k].2) (fd[k].1, lin fd[k].2) gd[k] ∧ fd[k].2 = ds[k].2 ++ List.replicate 100 (xbI k)) ∧
      St w0 w' ([p.c] :: gd.flatten :: [.row 44 1 st.1 (lsi fd)] :: [.row 44 1 p.sn (lsi ds)] :: (ds.drop i).map (irw) :: F)) (fun st => ds.length - st.2.1.toNat)
      ⟨0, [], [], Nat.zero_le _, rfl, rfl, rfl, fun k _ h2 => by simp at h2, h⟩ ?_
    clear h
    rintro ⟨far, _, ⟨⟩⟩ w ⟨i, gd, fd, hi, rfl, hfl, hgl, hF, h⟩ K hK
    dsimp only at h hK ⊢
    have hfarl := (h.rd (k := 2) (i := 0) ⟨_, rfl, rfl⟩).1
    rw [lsi_len] at hfarl
    repeat (first | (with_reducible refine NilP.mk ?_) | ((with_reducible refine RunN.isLoad ?_); (first | refine h.loadB 0 0 ⟨_, rfl, rfl⟩ rfl rfl ?_ | refine h.drew.loadB 0 0 ⟨_, rfl, rfl⟩ rfl rfl ?_)) | ((with_reducible refine ReadN.isLoad ?_); (first | refine h.readB 0 0 ⟨_, rfl, rfl⟩ rfl rfl ?_ | refine h.drew.readB 0 0 ⟨_, rfl, rfl⟩ rfl rfl ?_)) | ((with_reducible refine StillV.isLoad ?_); (first | refine ⟨h.stillB 0 0 ⟨_, rfl, rfl⟩ rfl rfl, ?_⟩)) | ((with_reducible refine RunU.isStor ?_); (first | (refine h.storB 0 0 ⟨_, rfl, rfl⟩ rfl rfl rfl ?_; intro w h; dsimp only [updG, setO] at h) | (refine h.drew.storB 0 0 ⟨_, rfl, rfl⟩ rfl rfl rfl ?_; intro w h; dsimp only [updG, setO] at h))) | ((with_reducible refine RunN.isBox ?_); (first | (refine h.newB run_boxA rfl ?_; intro bn w h; try dsimp only at h) | (refine h.drew.newB run_boxA rfl ?_; intro bn w h; try dsimp only at h))) | ((with_reducible refine RunN.isNew ?_); (first | (refine h.newB (NewC.run _) rfl ?_; intro bn w h) | (refine h.drew.newB (NewC.run _) rfl ?_; intro bn w h))))
    rw [SplitB_iff]
    refine ⟨fun hc => ?_, fun hc => ?_⟩
    · have hc : i < ds.length := by have := of_decide_eq_true hc; omega
      repeat (first | (with_reducible refine NilP.mk ?_) | ((with_reducible refine RunN.isLoad ?_); (first | refine h.loadB 0 0 ⟨_, rfl, rfl⟩ rfl rfl ?_ | refine h.drew.loadB 0 0 ⟨_, rfl, rfl⟩ rfl rfl ?_)) | ((with_reducible refine ReadN.isLoad ?_); (first | refine h.readB 0 0 ⟨_, rfl, rfl⟩ rfl rfl ?_ | refine h.drew.readB 0 0 ⟨_, rfl, rfl⟩ rfl rfl ?_)) | ((with_reducible refine StillV.isLoad ?_); (first | refine ⟨h.stillB 0 0 ⟨_, rfl, rfl⟩ rfl rfl, ?_⟩)) | ((with_reducible refine RunU.isStor ?_); (first | (refine h.storB 0 0 ⟨_, rfl, rfl⟩ rfl rfl rfl ?_; intro w h; dsimp only [updG, setO] at h) | (refine h.drew.storB 0 0 ⟨_, rfl, rfl⟩ rfl rfl rfl ?_; intro w h; dsimp only [updG, setO] at h))) | ((with_reducible refine RunN.isBox ?_); (first | (refine h.newB run_boxA rfl ?_; intro bn w h; try dsimp only at h) | (refine h.drew.newB run_boxA rfl ?_; intro bn w h; try dsimp only at h))) | ((with_reducible refine RunN.isNew ?_); (first | (refine h.newB (NewC.run _) rfl ?_; intro bn w h) | (refine h.drew.newB (NewC.run _) rfl ?_; intro bn w h))))
      refine (h.rd (k := 3) (i := 0) ⟨_, rfl, rfl⟩).idxK i rfl (by omega) ?_
      intro b o hb
      refine (h.rd (k := 3) (i := 0) ⟨_, rfl, rfl⟩).el hb (i * 1) rfl (kd := .sl) (x := ds[i].1) (by rw [Nat.mul_one]; exact lsi_at hc) ?_
      rw [List.drop_eq_getElem_cons hc, List.map_cons] at h
      have h := St.one.1 (h.bring 4 rfl)
      dsimp only [delO] at h
      refine LoopX.mk (fun st w' => ∃ e : List Int, e.length ≤ 100 ∧ st.2.1 = (e.length : Int) ∧ e = List.replicate e.length (xbI i) ∧ GrowV 3 w0 w' ds[i].1 (lin ds[i].2) st.1 (lin e) ((ds.drop (i + 1)).map (irw) :: [p.c] :: gd.flatten :: [.row 44 1 far (lsi fd)] :: [.row 44 1 p.sn (lsi ds)] :: F)) (fun st => 100 - st.2.1.toNat) ⟨[], by simp, rfl, rfl, GrowV.start h⟩ ?_
      clear h
      rintro ⟨g, _, ⟨⟩⟩ w ⟨e, hel, rfl, hex, hg⟩ K2 hK2
      dsimp only at hg hK2 ⊢
      have hli := hlen i hc
      rw [SplitB_iff]
      refine ⟨fun hd => ?_, fun hd => ?_⟩
      · have hd : e.length < 100 := by have := of_decide_eq_true hd; omega
        rw [xbI_v (i := i) (by omega)]
        refine GrowV.app (by_ := 8) (.int .i64 (xbI i)) rfl (fun w => bs44 w _) hg (by rw [lin_len, lin_len]; omega) (by rw [lin_len, lin_len]; omega) ?_
        intro d' w hg
        rw [← lin_snoc] at hg
        refine hK2 _ _ ⟨e ++ [xbI i], by simp; omega, by dsimp only; rw [wr (by omega)]; simp, ?_, hg⟩ (by dsimp only; rw [wr (by omega)]; omega)
        rw [List.length_append, List.length_singleton, List.replicate_succ', ← hex]
      · have hd : e.length = 100 := by have := of_decide_eq_false hd; omega
        rw [hd] at hex
        subst hex
        obtain ⟨gg, hgg, h⟩ := hg.far (hsl i hc).2
        rw [← lin_app] at hgg
        clear hg
        refine h.newS 1 (bs63 _ _) rfl rfl rfl ?_
        intro s4 w h1 h2 h3 h
        refine h.app 5 0 ⟨_, rfl, rfl⟩ (h.rd (k := 0) (i := 0) ⟨_, rfl, rfl⟩) one_slice (by simp only [maxLen]; omega) (by omega) ?_
        intro s5 w h5 h
        dsimp only [updG, setO] at h
        have h := h.drop 0
        dsimp only [delO] at h
        rw [← lsi_snoc fd (g, ds[i].2 ++ List.replicate 100 (xbI i))] at h
        have h := (St.two.2 (h.bring 3 rfl))
        dsimp only [delO] at h
        have e1 : gd.flatten ++ gg = (gd ++ [gg]).flatten := by simp
        rw [e1] at h
        have h := ((h.bring 1 rfl).back 4).bring 1 rfl
        dsimp only [delO, insO] at h
        refine hK _ _ ⟨i + 1, gd ++ [gg], fd ++ [(g, ds[i].2 ++ List.replicate 100 (xbI i))], hc, by dsimp only; rw [wr (by omega)]; omega, by simp [hfl], by simp [hgl], ?_, h⟩ (by dsimp only; rw [wr (by omega)]; omega)
        intro k k1 k2 k3
        rcases Nat.lt_or_ge k i with hlt | hge
        · rw [List.getElem_append_left (by omega), List.getElem_append_left (by omega)]
          exact hF k k1 (by omega) (by omega)
        · have : k = i := by simp at k2; omega
          subst this
          rw [List.getElem_append_right (by omega), List.getElem_append_right (by omega)]
          simp only [hfl, hgl, Nat.sub_self, List.getElem_cons_zero]
          exact ⟨hgg, trivial⟩
    have hc : i = ds.length := by have := of_decide_eq_false hc; omega
    clear hK K
    subst hc
    -- none is seen in another one
    refine LoopX.mk (fun st w' => ∃ i : Nat, i ≤ ds.length ∧ st.1 = (i : Int) ∧ St w0 w' ([p.c] :: gd.flatten :: [.row 44 1 far (lsi fd)] :: [.row 44 1 p.sn (lsi ds)] :: (ds.drop ds.length).map (irw) :: F)) (fun st => ds.length - st.1.toNat) ⟨0, Nat.zero_le _, rfl, h⟩ ?_
    clear h
    rintro ⟨_, ⟨⟩⟩ w ⟨i, hi, rfl, h⟩ K hK
    dsimp only at h hK ⊢
    rw [SplitB_iff]
    refine ⟨fun hc => ?_, fun hc => ?_⟩
    · have hc : i < ds.length := by have := of_decide_eq_true hc; omega
      have hfi : i < fd.length := by omega
      have hgi : i < gd.length := by omega
      obtain ⟨hF, hFe⟩ := hF i hc hfi hgi
      have hsi := hsl i hc
      have hsgi := hsg i hc
      have hli := hlen i hc
      have hgm : ∀ e ∈ gd[i], e ∈ gd.flatten := fun e he => List.mem_flatten.2 ⟨_, List.getElem_mem _, he⟩
      have hyl : fd[i].2.length = ds[i].2.length + 100 := by rw [hFe]; simp
      have hx1 : ∀ j, j < ds[i].2.length → (lin ds[i].2)[j]? = some (Value.int .i64 (sbI i)) := by
        intro j hj
        have e : ds[i].2[j]? = some (sbI i) := by rw [hsgi]; simp [hj]
        simp only [lin, List.getElem?_map, e]; rfl
      have hy1 : ∀ j, j < ds[i].2.length → (lin fd[i].2)[j]? = some (Value.int .i64 (sbI i)) := by
        intro j hj
        rw [hFe, lin_app, List.getElem?_append_left (by rw [lin_len]; exact hj)]
        exact hx1 j hj
      have hy2 : ∀ j, ds[i].2.length ≤ j → j < ds[i].2.length + 100 → (lin fd[i].2)[j]? = some (Value.int .i64 (xbI i)) := by
        intro j hj hj2
        rw [hFe, lin_app, List.getElem?_append_right (by rw [lin_len]; exact hj), lin_len, lin_at (by rw [List.length_replicate]; omega), List.getElem_replicate]
      repeat (first | (with_reducible refine NilP.mk ?_) | ((with_reducible refine RunN.isLoad ?_); (first | refine h.loadB 0 0 ⟨_, rfl, rfl⟩ rfl rfl ?_ | refine h.drew.loadB 0 0 ⟨_, rfl, rfl⟩ rfl rfl ?_)) | ((with_reducible refine ReadN.isLoad ?_); (first | refine h.readB 0 0 ⟨_, rfl, rfl⟩ rfl rfl ?_ | refine h.drew.readB 0 0 ⟨_, rfl, rfl⟩ rfl rfl ?_)) | ((with_reducible refine StillV.isLoad ?_); (first | refine ⟨h.stillB 0 0 ⟨_, rfl, rfl⟩ rfl rfl, ?_⟩)) | ((with_reducible refine RunU.isStor ?_); (first | (refine h.storB 0 0 ⟨_, rfl, rfl⟩ rfl rfl rfl ?_; intro w h; dsimp only [updG, setO] at h) | (refine h.drew.storB 0 0 ⟨_, rfl, rfl⟩ rfl rfl rfl ?_; intro w h; dsimp only [updG, setO] at h))) | ((with_reducible refine RunN.isBox ?_); (first | (refine h.newB run_boxA rfl ?_; intro bn w h; try dsimp only at h) | (refine h.drew.newB run_boxA rfl ?_; intro bn w h; try dsimp only at h))) | ((with_reducible refine RunN.isNew ?_); (first | (refine h.newB (NewC.run _) rfl ?_; intro bn w h) | (refine h.drew.newB (NewC.run _) rfl ?_; intro bn w h))))
      refine (h.rd (k := 3) (i := 0) ⟨_, rfl, rfl⟩).idxK i rfl (by omega) ?_
      intro b o hb
      refine (h.rd (k := 3) (i := 0) ⟨_, rfl, rfl⟩).el hb (i * 1) rfl (kd := .sl) (x := ds[i].1) (by rw [Nat.mul_one]; exact lsi_at hc) ?_
      refine LoopX.mk (fun st w' => ∃ j : Nat, j ≤ fd[i].2.length ∧ st.1 = (j : Int) ∧ St w0 w' ([p.c] :: gd.flatten :: [.row 44 1 far (lsi fd)] :: [.row 44 1 p.sn (lsi ds)] :: (ds.drop ds.length).map (irw) :: F)) (fun st => fd[i].2.length - st.1.toNat) ⟨0, Nat.zero_le _, rfl, h⟩ ?_
      clear h
      rintro ⟨_, ⟨⟩⟩ w ⟨j, hj, rfl, h⟩ K2 hK2
      dsimp only at h hK2 ⊢
      refine (h.rd (k := 2) (i := 0) ⟨_, rfl, rfl⟩).idxK i rfl (by omega) ?_
      intro b3 o3 hb3
      refine (h.rd (k := 2) (i := 0) ⟨_, rfl, rfl⟩).el hb3 (i * 1) rfl (kd := .sl) (x := fd[i].1) (by rw [Nat.mul_one]; exact lsi_at hfi) ?_
      have hfl3 : fd[i].1.len = fd[i].2.length := by have := hF.2.2.1; dsimp only at this; rw [lin_len] at this; exact this
      obtain ⟨hry, hrx⟩ := hF.reads h (k := 1) (gs := gd.flatten) rfl hgm
      dsimp only at hry hrx
      rw [SplitB_iff]
      refine ⟨fun hd => ?_, fun hd => ?_⟩
      · have hd : j < fd[i].2.length := by have := of_decide_eq_true hd; omega
        refine JoinX.mk (fun jj w' => jj.1 = false ∧ St w0 w' ([p.c] :: gd.flatten :: [.row 44 1 far (lsi fd)] :: [.row 44 1 p.sn (lsi ds)] :: (ds.drop ds.length).map (irw) :: F)) ?_ ?_
        · rintro ⟨_, ⟨⟩⟩ w ⟨hjj, h⟩
          dsimp only at hjj h ⊢
          subst hjj
          rw [SplitB_iff]
          refine ⟨fun hz => ?_, fun hz => ?_⟩
          · simp at hz
          · exact hK2 _ _ ⟨j + 1, hd, by dsimp only; rw [wr (by omega)]; omega, h⟩ (by dsimp only; rw [wr (by omega)]; omega)
        · intro k15 hk15
          rw [SplitB_iff]
          refine ⟨fun hjn => ?_, fun hjn => ?_⟩
          · have hjn : j < ds[i].2.length := by have := of_decide_eq_true hjn; omega
            repeat (first | (with_reducible refine NilP.mk ?_) | ((with_reducible refine RunN.isLoad ?_); (first | refine h.loadB 0 0 ⟨_, rfl, rfl⟩ rfl rfl ?_ | refine h.drew.loadB 0 0 ⟨_, rfl, rfl⟩ rfl rfl ?_)) | ((with_reducible refine ReadN.isLoad ?_); (first | refine h.readB 0 0 ⟨_, rfl, rfl⟩ rfl rfl ?_ | refine h.drew.readB 0 0 ⟨_, rfl, rfl⟩ rfl rfl ?_)) | ((with_reducible refine StillV.isLoad ?_); (first | refine ⟨h.stillB 0 0 ⟨_, rfl, rfl⟩ rfl rfl, ?_⟩)) | ((with_reducible refine RunU.isStor ?_); (first | (refine h.storB 0 0 ⟨_, rfl, rfl⟩ rfl rfl rfl ?_; intro w h; dsimp only [updG, setO] at h) | (refine h.drew.storB 0 0 ⟨_, rfl, rfl⟩ rfl rfl rfl ?_; intro w h; dsimp only [updG, setO] at h))) | ((with_reducible refine RunN.isBox ?_); (first | (refine h.newB run_boxA rfl ?_; intro bn w h; try dsimp only at h) | (refine h.drew.newB run_boxA rfl ?_; intro bn w h; try dsimp only at h))) | ((with_reducible refine RunN.isNew ?_); (first | (refine h.newB (NewC.run _) rfl ?_; intro bn w h) | (refine h.drew.newB (NewC.run _) rfl ?_; intro bn w h))))
            refine (h.rd (k := 3) (i := 0) ⟨_, rfl, rfl⟩).idxK i rfl (by omega) ?_
            intro b4 o4 hb4
            refine (h.rd (k := 3) (i := 0) ⟨_, rfl, rfl⟩).el hb4 (i * 1) rfl (kd := .sl) (x := ds[i].1) (by rw [Nat.mul_one]; exact lsi_at hc) ?_
            refine hrx.idxK j rfl (by omega) ?_
            intro b5 o5 hb5
            refine hrx.el hb5 (j * 1) rfl (kd := .int .i64) (x := sbI i) (by rw [Nat.mul_one]; exact hx1 j hjn) ?_
            rw [sbI_v (i := i) (by omega)]
            rw [SplitB_iff]
            refine ⟨fun hz => ?_, fun hz => ?_⟩
            · simp at hz
            · refine (h.rd (k := 2) (i := 0) ⟨_, rfl, rfl⟩).idxK i rfl (by omega) ?_
              intro b6 o6 hb6
              refine (h.rd (k := 2) (i := 0) ⟨_, rfl, rfl⟩).el hb6 (i * 1) rfl (kd := .sl) (x := fd[i].1) (by rw [Nat.mul_one]; exact lsi_at hfi) ?_
              refine hry.idxK j rfl (by omega) ?_
              intro b7 o7 hb7
              refine hry.el hb7 (j * 1) rfl (kd := .int .i64) (x := sbI i) (by rw [Nat.mul_one]; exact hy1 j hjn) ?_
              rw [SplitB_iff]
              refine ⟨fun hz2 => ?_, fun hz2 => ?_⟩
              · simp at hz2
              · skip
                rw [SplitB_iff]
                refine ⟨fun hz3 => ?_, fun hz3 => ?_⟩
                · have := of_decide_eq_true hz3; omega
                · exact hk15 _ _ ⟨rfl, h⟩
          · have hjn : ds[i].2.length ≤ j := by have := of_decide_eq_false hjn; omega
            rw [SplitB_iff]
            refine ⟨fun hz3 => ?_, fun hz3 => ?_⟩
            · have hyj := hy2 j hjn (by omega)
              refine (h.rd (k := 2) (i := 0) ⟨_, rfl, rfl⟩).idxK i rfl (by omega) ?_
              intro b6 o6 hb6
              refine (h.rd (k := 2) (i := 0) ⟨_, rfl, rfl⟩).el hb6 (i * 1) rfl (kd := .sl) (x := fd[i].1) (by rw [Nat.mul_one]; exact lsi_at hfi) ?_
              refine hry.idxK j rfl (by omega) ?_
              intro b7 o7 hb7
              refine hry.el hb7 (j * 1) rfl (kd := .int .i64) (x := xbI i) (by rw [Nat.mul_one]; exact hyj) ?_
              refine hk15 _ _ ⟨?_, h⟩
              dsimp only
              rw [xbI_v (i := i) (by omega)]
              simp
            · have := of_decide_eq_false hz3; omega
      · exact hK _ _ ⟨i + 1, hc, by dsimp only; rw [wr (by omega)]; omega, h⟩ (by dsimp only; rw [wr (by omega)]; omega)
    · exact ⟨rfl, ((((h.drop 0).drop 0).drop 0).drop 0).drop 0⟩
end Go.Proofs.Ytpdaoahamgegoaa
