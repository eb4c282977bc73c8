/- What was answered and left alone: it is as it was, and none is seen in another one. -/
import Derived.Test.YtmhjlngkdppgpaaNsF
namespace Go.Proofs.Ytmhjlngkdppgpaa
open Go Go.Fw Go.RowKit
set_option linter.unusedVariables false
set_option linter.unusedSimpArgs false
set_option maxRecDepth 4000
set_option maxHeartbeats 2000000
variable {w0 w : World} {F : Grps} {p : Pr} {n : Nat}

def sgn (i j : Int) : Int := IntKind.u8.wrap (IntKind.i64.wrap ((IntKind.i64.wrap ((IntKind.i64.wrap (7 * i)) + (IntKind.i64.wrap (Int.tdiv i 256)))) + (IntKind.i64.wrap (3 * j))))
theorem sign_st {i j : Int} : CallK Try.prog (.int .u8) 39 #[.int .i64 i, .int .i64 j] w fun (r : Int) w' => w' = w ∧ r = sgn i j := T39.calls ⟨rfl, rfl⟩
def byt (x : Int) : UInt8 := UInt8.ofNat x.toNat
def sgnB (i j : Nat) : UInt8 := byt (sgn i j)
def extB (i j : Nat) : UInt8 := byt (bitXor .u8 (sgn ((i : Int) + 1) j) 85)
theorem byt_of {x : Int} (h : ∃ y, x = IntKind.u8.wrap y) : Value.int .u8 x = u8v (byt x) ∧ ((byt x).toNat : Int) = x := by
  obtain ⟨y, rfl⟩ := h
  have h : 0 ≤ IntKind.u8.wrap y ∧ IntKind.u8.wrap y ≤ 255 := by rw [IntKind.wrap_u8]; omega
  have h2 : ((byt (IntKind.u8.wrap y)).toNat : Int) = IntKind.u8.wrap y := by
    rw [byt, UInt8.toNat_ofNat']; omega
  exact ⟨by rw [u8v, h2], h2⟩
theorem sgn_byt (i j : Nat) : Value.int .u8 (sgn i j) = u8v (sgnB i j) ∧ ((sgnB i j).toNat : Int) = sgn i j := byt_of ⟨_, rfl⟩
theorem ext_byt (i j : Nat) : Value.int .u8 (bitXor .u8 (sgn ((i : Int) + 1) j) 85) = u8v (extB i j) ∧ ((extB i j).toNat : Int) = bitXor .u8 (sgn ((i : Int) + 1) j) 85 := byt_of ⟨_, rfl⟩
def sg (i n : Nat) : List UInt8 := (List.range n).map (sgnB i)
def ex (i n : Nat) : List UInt8 := (List.range n).map (extB i)
theorem setO_brow (l : List (Sl × List UInt8)) (i : Nat) (x : Sl × List UInt8) : setO (l.map brow) i (brow x) = (l.set i x).map brow := by rw [setO_set, List.map_set]

/-- One that has grown: what it was is its beginning, or left where it is. -/
def FarOk (k : Nat) (x y : Sl × List UInt8) (g : List Ent) : Prop :=
  y.2 = x.2 ++ ex k 100 ∧ x.1.len = x.2.length ∧ y.1.len = y.2.length ∧ x.1.len ≤ x.1.cap ∧ (g = [brow y] ∧ y.1.a = x.1.a ∨ g = [brow y, brow x])
theorem FarOk.reads {k i : Nat} {x y : Sl × List UInt8} {g : List Ent} {G : Grps} (hf : FarOk i x y g) (h : St w0 w G) {gs : List Ent} (hk : nthO G k = some gs) (hg : ∀ e ∈ g, e ∈ gs) : Rd w y.1 1 (bys y.2) ∧ Rd w x.1 1 (bys x.2) := by
  obtain ⟨h1, h2, h3, h4, h5⟩ := hf
  have hy : Rd w y.1 1 (bys y.2) := by
    have : brow y ∈ gs := hg _ (by rcases h5 with ⟨h5, _⟩ | h5 <;> rw [h5] <;> simp)
    exact (h.memG k hk this).1.rd
  refine ⟨hy, ?_⟩
  rcases h5 with ⟨h5, ha⟩ | h5
  · have hp := hy.pre (hi := x.1.len) (by rw [h3, h1, List.length_append]; omega)
    rw [subS_zero] at hp
    refine ⟨by rw [bys_length, h2]; simp, ?_, h4⟩
    have e : (bys y.2).take (x.1.len * 1) = bys x.2 := by rw [h1, h2, Nat.mul_one, bys_append, List.take_append_of_le_length (by simp), List.take_of_length_le (by simp)]
    rw [e] at hp
    rcases hp.2.1 with h0 | ⟨b, o, hb, hc⟩
    · exact .inl h0
    · exact .inr ⟨b, o, by rw [← ha]; exact hb, hc⟩
  · have : brow x ∈ gs := hg _ (by rw [h5]; simp)
    exact (h.memG k hk this).1.rd

theorem apart_st (h : St w0 w (p.gs F)) (hn : p.fs.length ≤ 1000000) (hle : ∀ x ∈ p.fs, x.2.length ≤ 16777216) : CallK Try.prog .bool 23 #[.pointer (some ⟨p.Q, 0, none⟩)] w fun (r : Bool) w' => r = true ∧ St w0 w' F := by
  refine T23.calls ?_
  unfold T23
  have hsf := gs_sf h
  have hsw := gs_sw h
  -- as they were?
  refine LoopX.mk (fun st w' => ∃ i : Nat, i ≤ p.fs.length ∧ st.1 = (i : Int) ∧ St w0 w' (p.gs F)) (fun st => p.fs.length - st.1.toNat) ⟨0, Nat.zero_le _, rfl, h⟩ ?_
  rintro ⟨_, ⟨⟩⟩ w ⟨i, hi, rfl, h⟩ K hK
  dsimp only at h hK ⊢
  repeat (first | (with_reducible refine NilP.mk ?_) | ((with_reducible refine RunN.isLoad ?_); (first | refine h.loadB 0 0 ⟨_, rfl, rfl⟩ rfl rfl ?_ | refine h.drew.loadB 0 0 ⟨_, rfl, rfl⟩ rfl rfl ?_)) | ((with_reducible refine ReadN.isLoad ?_); (first | refine h.readB 0 0 ⟨_, rfl, rfl⟩ rfl rfl ?_ | refine h.drew.readB 0 0 ⟨_, rfl, rfl⟩ rfl rfl ?_)) | ((with_reducible refine StillV.isLoad ?_); (first | refine ⟨h.stillB 0 0 ⟨_, rfl, rfl⟩ rfl rfl, ?_⟩)) | ((with_reducible refine RunU.isStor ?_); (first | (refine h.storB 0 0 ⟨_, rfl, rfl⟩ rfl rfl rfl ?_; intro w h; dsimp only [updG, setO] at h) | (refine h.drew.storB 0 0 ⟨_, rfl, rfl⟩ rfl rfl rfl ?_; intro w h; dsimp only [updG, setO] at h))) | ((with_reducible refine RunN.isBox ?_); (first | (refine h.newB run_boxA rfl ?_; intro bn w h; try dsimp only at h) | (refine h.drew.newB run_boxA rfl ?_; intro bn w h; try dsimp only at h))) | ((with_reducible refine RunN.isNew ?_); (first | (refine h.newB (NewC.run _) rfl ?_; intro bn w h) | (refine h.drew.newB (NewC.run _) rfl ?_; intro bn w h))))
  rw [SplitB_iff]
  refine ⟨fun hc => ?_, fun hc => ?_⟩
  · have hc : i < p.fs.length := by have := of_decide_eq_true hc; omega
    repeat (first | (with_reducible refine NilP.mk ?_) | ((with_reducible refine RunN.isLoad ?_); (first | refine h.loadB 0 0 ⟨_, rfl, rfl⟩ rfl rfl ?_ | refine h.drew.loadB 0 0 ⟨_, rfl, rfl⟩ rfl rfl ?_)) | ((with_reducible refine ReadN.isLoad ?_); (first | refine h.readB 0 0 ⟨_, rfl, rfl⟩ rfl rfl ?_ | refine h.drew.readB 0 0 ⟨_, rfl, rfl⟩ rfl rfl ?_)) | ((with_reducible refine StillV.isLoad ?_); (first | refine ⟨h.stillB 0 0 ⟨_, rfl, rfl⟩ rfl rfl, ?_⟩)) | ((with_reducible refine RunU.isStor ?_); (first | (refine h.storB 0 0 ⟨_, rfl, rfl⟩ rfl rfl rfl ?_; intro w h; dsimp only [updG, setO] at h) | (refine h.drew.storB 0 0 ⟨_, rfl, rfl⟩ rfl rfl rfl ?_; intro w h; dsimp only [updG, setO] at h))) | ((with_reducible refine RunN.isBox ?_); (first | (refine h.newB run_boxA rfl ?_; intro bn w h; try dsimp only at h) | (refine h.drew.newB run_boxA rfl ?_; intro bn w h; try dsimp only at h))) | ((with_reducible refine RunN.isNew ?_); (first | (refine h.newB (NewC.run _) rfl ?_; intro bn w h) | (refine h.drew.newB (NewC.run _) rfl ?_; intro bn w h))))
    refine (h.drew.rd (k := 7) (i := 0) ⟨_, rfl, rfl⟩).idxR i rfl (by omega) ?_
    intro b o hb
    refine (h.drew.rd (k := 7) (i := 0) ⟨_, rfl, rfl⟩).elR hb (i * 1) rfl (kd := .sl) (x := p.fs[i].1) (by rw [Nat.mul_one]; exact sls_at hc) ?_
    refine ReadN.toStr str29 (h.drew.rd (k := 8) (i := i) ⟨_, rfl, brow_at hc⟩) ?_
    repeat (first | (with_reducible refine NilP.mk ?_) | ((with_reducible refine RunN.isLoad ?_); (first | refine h.loadB 0 0 ⟨_, rfl, rfl⟩ rfl rfl ?_ | refine h.drew.loadB 0 0 ⟨_, rfl, rfl⟩ rfl rfl ?_)) | ((with_reducible refine ReadN.isLoad ?_); (first | refine h.readB 0 0 ⟨_, rfl, rfl⟩ rfl rfl ?_ | refine h.drew.readB 0 0 ⟨_, rfl, rfl⟩ rfl rfl ?_)) | ((with_reducible refine StillV.isLoad ?_); (first | refine ⟨h.stillB 0 0 ⟨_, rfl, rfl⟩ rfl rfl, ?_⟩)) | ((with_reducible refine RunU.isStor ?_); (first | (refine h.storB 0 0 ⟨_, rfl, rfl⟩ rfl rfl rfl ?_; intro w h; dsimp only [updG, setO] at h) | (refine h.drew.storB 0 0 ⟨_, rfl, rfl⟩ rfl rfl rfl ?_; intro w h; dsimp only [updG, setO] at h))) | ((with_reducible refine RunN.isBox ?_); (first | (refine h.newB run_boxA rfl ?_; intro bn w h; try dsimp only at h) | (refine h.drew.newB run_boxA rfl ?_; intro bn w h; try dsimp only at h))) | ((with_reducible refine RunN.isNew ?_); (first | (refine h.newB (NewC.run _) rfl ?_; intro bn w h) | (refine h.drew.newB (NewC.run _) rfl ?_; intro bn w h))))
    refine (h.drew.rd (k := 9) (i := 0) ⟨_, rfl, rfl⟩).idxR i rfl (by omega) ?_
    intro b o hb
    refine (h.drew.rd (k := 9) (i := 0) ⟨_, rfl, rfl⟩).elR hb (i * 1) rfl (kd := .str) (x := ⟨p.fs[i].2.toArray⟩) (by rw [Nat.mul_one]; exact strs_at hc) ?_
    rw [SplitB_iff]
    refine ⟨fun hz => ?_, fun hz => ?_⟩
    · simp at hz
    · exact hK _ _ ⟨i + 1, hc, by dsimp only; rw [wr (by omega)]; omega, h.drew⟩ (by dsimp only; rw [wr (by omega)]; omega)
  · clear hK hc hi i K
    have h := ((((((h.drop 9).drop 1).drop 1).drop 1).drop 1).drop 1).drop 1
    dsimp only [delO] at h
    generalize hcel : p.cel = c at h
    have hce : c = p.cel := hcel.symm
    clear hsw
    -- signed
    refine LoopX.mk (fun st w' => ∃ (i : Nat) (ds : List (Sl × List UInt8)), i ≤ p.fs.length ∧ st.1 = (i : Int) ∧ ds.map (·.1) = p.fs.map (·.1) ∧ (∀ k (hk : k < ds.length), ds[k].2.length ≤ 16777216) ∧ (∀ k (hk : k < ds.length), k < i → ds[k].2 = sg k ds[k].2.length) ∧
      St w0 w' ([p.cel] :: [.row 29 1 p.sf (sls ds)] :: ds.map brow :: F)) (fun st => p.fs.length - st.1.toNat) ⟨0, p.fs, Nat.zero_le _, rfl, rfl, fun k hk => hle _ (List.getElem_mem _), fun k _ h0 => by omega, by rw [← hce]; exact h⟩ ?_
    clear hce hcel h c
    rintro ⟨_, ⟨⟩⟩ w ⟨i, ds, hi, rfl, hds, hlen, hsg, h⟩ K hK
    dsimp only at h hK ⊢
    have hdl : ds.length = p.fs.length := by have := congrArg List.length hds; simpa using this
    repeat (first | (with_reducible refine NilP.mk ?_) | ((with_reducible refine RunN.isLoad ?_); (first | refine h.loadB 0 0 ⟨_, rfl, rfl⟩ rfl rfl ?_ | refine h.drew.loadB 0 0 ⟨_, rfl, rfl⟩ rfl rfl ?_)) | ((with_reducible refine ReadN.isLoad ?_); (first | refine h.readB 0 0 ⟨_, rfl, rfl⟩ rfl rfl ?_ | refine h.drew.readB 0 0 ⟨_, rfl, rfl⟩ rfl rfl ?_)) | ((with_reducible refine StillV.isLoad ?_); (first | refine ⟨h.stillB 0 0 ⟨_, rfl, rfl⟩ rfl rfl, ?_⟩)) | ((with_reducible refine RunU.isStor ?_); (first | (refine h.storB 0 0 ⟨_, rfl, rfl⟩ rfl rfl rfl ?_; intro w h; dsimp only [updG, setO] at h) | (refine h.drew.storB 0 0 ⟨_, rfl, rfl⟩ rfl rfl rfl ?_; intro w h; dsimp only [updG, setO] at h))) | ((with_reducible refine RunN.isBox ?_); (first | (refine h.newB run_boxA rfl ?_; intro bn w h; try dsimp only at h) | (refine h.drew.newB run_boxA rfl ?_; intro bn w h; try dsimp only at h))) | ((with_reducible refine RunN.isNew ?_); (first | (refine h.newB (NewC.run _) rfl ?_; intro bn w h) | (refine h.drew.newB (NewC.run _) rfl ?_; intro bn w h))))
    rw [SplitB_iff]
    refine ⟨fun hc => ?_, fun hc => ?_⟩
    · have hc : i < ds.length := by have := of_decide_eq_true hc; omega
      have hli := hlen i hc
      refine LoopX.mk (fun st w' => ∃ (j : Nat) (l : List UInt8), j ≤ l.length ∧ l.length = ds[i].2.length ∧ st.1 = (j : Int) ∧ (∀ k, k < j → l[k]? = some (sgnB i k)) ∧ St w0 w' ([p.cel] :: [.row 29 1 p.sf (sls ds)] :: (ds.set i (ds[i].1, l)).map brow :: F)) (fun st => ds[i].2.length - st.1.toNat)
        ⟨0, ds[i].2, Nat.zero_le _, rfl, rfl, fun k hk => by omega, by rw [show ((ds[i].1, ds[i].2) : Sl × List UInt8) = ds[i] from rfl, List.set_getElem_self]; exact h⟩ ?_
      rintro ⟨_, ⟨⟩⟩ w ⟨j, l, hj, hl, rfl, hlj, h⟩ K2 hK2
      dsimp only at h hK2 ⊢
      have hil : i < (ds.set i (ds[i].1, l)).length := by simpa using hc
      have hrow := brow_at hil
      rw [List.getElem_set_self] at hrow
      dsimp only at hrow
      have hxl := (h.rd (k := 2) (i := i) ⟨_, rfl, hrow⟩).bys_len
      repeat (first | (with_reducible refine NilP.mk ?_) | ((with_reducible refine RunN.isLoad ?_); (first | refine h.loadB 0 0 ⟨_, rfl, rfl⟩ rfl rfl ?_ | refine h.drew.loadB 0 0 ⟨_, rfl, rfl⟩ rfl rfl ?_)) | ((with_reducible refine ReadN.isLoad ?_); (first | refine h.readB 0 0 ⟨_, rfl, rfl⟩ rfl rfl ?_ | refine h.drew.readB 0 0 ⟨_, rfl, rfl⟩ rfl rfl ?_)) | ((with_reducible refine StillV.isLoad ?_); (first | refine ⟨h.stillB 0 0 ⟨_, rfl, rfl⟩ rfl rfl, ?_⟩)) | ((with_reducible refine RunU.isStor ?_); (first | (refine h.storB 0 0 ⟨_, rfl, rfl⟩ rfl rfl rfl ?_; intro w h; dsimp only [updG, setO] at h) | (refine h.drew.storB 0 0 ⟨_, rfl, rfl⟩ rfl rfl rfl ?_; intro w h; dsimp only [updG, setO] at h))) | ((with_reducible refine RunN.isBox ?_); (first | (refine h.newB run_boxA rfl ?_; intro bn w h; try dsimp only at h) | (refine h.drew.newB run_boxA rfl ?_; intro bn w h; try dsimp only at h))) | ((with_reducible refine RunN.isNew ?_); (first | (refine h.newB (NewC.run _) rfl ?_; intro bn w h) | (refine h.drew.newB (NewC.run _) rfl ?_; intro bn w h))))
      refine (h.rd (k := 1) (i := 0) ⟨_, rfl, rfl⟩).idxK i rfl (by omega) ?_
      intro b o hb
      refine (h.rd (k := 1) (i := 0) ⟨_, rfl, rfl⟩).el hb (i * 1) rfl (kd := .sl) (x := ds[i].1) (by rw [Nat.mul_one]; exact sls_at hc) ?_
      rw [SplitB_iff]
      refine ⟨fun hd => ?_, fun hd => ?_⟩
      · have hd : j < l.length := by have := of_decide_eq_true hd; omega
        repeat (first | (with_reducible refine NilP.mk ?_) | ((with_reducible refine RunN.isLoad ?_); (first | refine h.loadB 0 0 ⟨_, rfl, rfl⟩ rfl rfl ?_ | refine h.drew.loadB 0 0 ⟨_, rfl, rfl⟩ rfl rfl ?_)) | ((with_reducible refine ReadN.isLoad ?_); (first | refine h.readB 0 0 ⟨_, rfl, rfl⟩ rfl rfl ?_ | refine h.drew.readB 0 0 ⟨_, rfl, rfl⟩ rfl rfl ?_)) | ((with_reducible refine StillV.isLoad ?_); (first | refine ⟨h.stillB 0 0 ⟨_, rfl, rfl⟩ rfl rfl, ?_⟩)) | ((with_reducible refine RunU.isStor ?_); (first | (refine h.storB 0 0 ⟨_, rfl, rfl⟩ rfl rfl rfl ?_; intro w h; dsimp only [updG, setO] at h) | (refine h.drew.storB 0 0 ⟨_, rfl, rfl⟩ rfl rfl rfl ?_; intro w h; dsimp only [updG, setO] at h))) | ((with_reducible refine RunN.isBox ?_); (first | (refine h.newB run_boxA rfl ?_; intro bn w h; try dsimp only at h) | (refine h.drew.newB run_boxA rfl ?_; intro bn w h; try dsimp only at h))) | ((with_reducible refine RunN.isNew ?_); (first | (refine h.newB (NewC.run _) rfl ?_; intro bn w h) | (refine h.drew.newB (NewC.run _) rfl ?_; intro bn w h))))
        refine (h.drew.rd (k := 1) (i := 0) ⟨_, rfl, rfl⟩).idxR i rfl (by omega) ?_
        intro b1 o1 hb1
        refine (h.drew.rd (k := 1) (i := 0) ⟨_, rfl, rfl⟩).elR hb1 (i * 1) rfl (kd := .sl) (x := ds[i].1) (by rw [Nat.mul_one]; exact sls_at hc) ?_
        refine sign_st.mono ?_
        rintro r w ⟨rfl, rfl⟩
        have h := h.drew
        refine ⟨StillV.el (h.rd (k := 1) (i := 0) ⟨_, rfl, rfl⟩) hb1 (i * 1) rfl (by rw [Nat.mul_one]; exact sls_at hc), ?_⟩
        refine ⟨StillV.idx (h.rd (k := 1) (i := 0) ⟨_, rfl, rfl⟩) hb1 i rfl (by omega), ?_⟩
        repeat (first | (with_reducible refine NilP.mk ?_) | ((with_reducible refine RunN.isLoad ?_); (first | refine h.loadB 0 0 ⟨_, rfl, rfl⟩ rfl rfl ?_ | refine h.drew.loadB 0 0 ⟨_, rfl, rfl⟩ rfl rfl ?_)) | ((with_reducible refine ReadN.isLoad ?_); (first | refine h.readB 0 0 ⟨_, rfl, rfl⟩ rfl rfl ?_ | refine h.drew.readB 0 0 ⟨_, rfl, rfl⟩ rfl rfl ?_)) | ((with_reducible refine StillV.isLoad ?_); (first | refine ⟨h.stillB 0 0 ⟨_, rfl, rfl⟩ rfl rfl, ?_⟩)) | ((with_reducible refine RunU.isStor ?_); (first | (refine h.storB 0 0 ⟨_, rfl, rfl⟩ rfl rfl rfl ?_; intro w h; dsimp only [updG, setO] at h) | (refine h.drew.storB 0 0 ⟨_, rfl, rfl⟩ rfl rfl rfl ?_; intro w h; dsimp only [updG, setO] at h))) | ((with_reducible refine RunN.isBox ?_); (first | (refine h.newB run_boxA rfl ?_; intro bn w h; try dsimp only at h) | (refine h.drew.newB run_boxA rfl ?_; intro bn w h; try dsimp only at h))) | ((with_reducible refine RunN.isNew ?_); (first | (refine h.newB (NewC.run _) rfl ?_; intro bn w h) | (refine h.drew.newB (NewC.run _) rfl ?_; intro bn w h))))
        refine (h.rd (k := 2) (i := i) ⟨_, rfl, hrow⟩).idxR j rfl (by omega) ?_
        intro b2 o2 hb2
        rw [(sgn_byt i j).1]
        refine h.storR 2 i ⟨_, rfl, hrow⟩ hb2 j (by rw [Nat.mul_one]) (by simpa using hd) rfl ?_
        intro w h
        rw [bys_set] at h
        dsimp only [updG] at h
        have e := setO_brow (ds.set i (ds[i].1, l)) i (ds[i].1, l.set j (sgnB i j))
        simp only [brow, List.set_set] at e
        have h : St w0 w ([p.cel] :: [.row 29 1 p.sf (sls ds)] :: (ds.set i (ds[i].1, l.set j (sgnB i j))).map brow :: F) := by
          rw [show (List.map brow (ds.set i (ds[i].1, l.set j (sgnB i j)))) = _ from e.symm]; exact h
        refine hK2 _ _ ⟨j + 1, l.set j (sgnB i j), by simp; omega, by simpa using hl, by dsimp only; rw [wr (by omega)]; omega, ?_, h⟩ (by dsimp only; rw [wr (by omega)]; omega)
        intro k hk
        rw [List.getElem?_set]
        by_cases hkj : j = k
        · subst hkj; simp [hd]
        · rw [if_neg hkj]; exact hlj k (by omega)
      · have hd : j = l.length := by have := of_decide_eq_false hd; omega
        subst hd
        have hll : l = sg i l.length := by
          refine List.ext_getElem? fun k => ?_
          rcases Nat.lt_or_ge k l.length with hk | hk
          · rw [hlj k hk]; simp [sg, hk]
          · rw [List.getElem?_eq_none hk, List.getElem?_eq_none (by simp [sg]; omega)]
        have hmap : (ds.set i (ds[i].1, l)).map (·.1) = ds.map (·.1) := by
          refine List.ext_getElem (by simp) fun k h1 h2 => ?_
          simp only [List.getElem_map, List.getElem_set]
          split
          · rename_i hik; subst hik; rfl
          · rfl
        refine hK _ _ ⟨i + 1, ds.set i (ds[i].1, l), by omega, by dsimp only; rw [wr (by omega)]; omega, hmap.trans hds, ?_, ?_, ?_⟩ (by dsimp only; rw [wr (by omega)]; omega)
        · intro k hk
          rw [List.getElem_set]
          split
          · dsimp only; omega
          · exact hlen k (by simpa using hk)
        · intro k hk hki
          rw [List.getElem_set]
          split
          · rename_i hik; subst hik; exact hll
          · exact hsg k (by simpa using hk) (by omega)
        · have : sls (ds.set i (ds[i].1, l)) = sls ds := by
            have e1 : ∀ d : List (Sl × List UInt8), sls d = (d.map (·.1)).map slv := fun d => by simp [sls]
            rw [e1, e1, hmap]
          rw [this]; exact h
    · have hc : i = ds.length := by have := of_decide_eq_false hc; omega
      clear hK K
      subst hc
      have hsg : ∀ k (hk : k < ds.length), ds[k].2 = sg k ds[k].2.length := fun k hk => hsg k hk hk
      have hsl : ∀ k (hk : k < ds.length), ds[k].1.len = ds[k].2.length ∧ ds[k].1.len ≤ ds[k].1.cap := fun k hk => by
        have hr := h.rd (k := 2) (i := k) ⟨_, rfl, brow_at hk⟩
        exact ⟨hr.bys_len, hr.2.2⟩
      have h := ((St.empty.2 (h.nilrow 29 1)).bring 2 rfl)
      dsimp only [delO] at h
      -- each grows
      refine LoopX.mk (fun st w' => ∃ (i : Nat) (gd : List (List Ent)) (fd : List (Sl × List UInt8)), i ≤ ds.length ∧ st.2.1 = (i : Int) ∧ fd.length = i ∧ gd.length = i ∧ (∀ k (h1 : k < ds.length) (h2 : k < fd.length) (h3 : k < gd.length), FarOk k ds[k] fd[k] gd[k]) ∧
        St w0 w' ([p.cel] :: gd.flatten :: [.row 29 1 st.1 (sls fd)] :: [.row 29 1 p.sf (sls ds)] :: (ds.drop i).map brow :: F)) (fun st => ds.length - st.2.1.toNat)
        ⟨0, [], [], Nat.zero_le _, rfl, rfl, rfl, fun k _ h2 => by simp at h2, h⟩ ?_
      clear h
      rintro ⟨far, _, ⟨⟩⟩ w ⟨i, gd, fd, hi, rfl, hfl, hgl, hF, h⟩ K hK
      dsimp only at h hK ⊢
      have hfarl := (h.rd (k := 2) (i := 0) ⟨_, rfl, rfl⟩).1
      rw [sls_len] at hfarl
      repeat (first | (with_reducible refine NilP.mk ?_) | ((with_reducible refine RunN.isLoad ?_); (first | refine h.loadB 0 0 ⟨_, rfl, rfl⟩ rfl rfl ?_ | refine h.drew.loadB 0 0 ⟨_, rfl, rfl⟩ rfl rfl ?_)) | ((with_reducible refine ReadN.isLoad ?_); (first | refine h.readB 0 0 ⟨_, rfl, rfl⟩ rfl rfl ?_ | refine h.drew.readB 0 0 ⟨_, rfl, rfl⟩ rfl rfl ?_)) | ((with_reducible refine StillV.isLoad ?_); (first | refine ⟨h.stillB 0 0 ⟨_, rfl, rfl⟩ rfl rfl, ?_⟩)) | ((with_reducible refine RunU.isStor ?_); (first | (refine h.storB 0 0 ⟨_, rfl, rfl⟩ rfl rfl rfl ?_; intro w h; dsimp only [updG, setO] at h) | (refine h.drew.storB 0 0 ⟨_, rfl, rfl⟩ rfl rfl rfl ?_; intro w h; dsimp only [updG, setO] at h))) | ((with_reducible refine RunN.isBox ?_); (first | (refine h.newB run_boxA rfl ?_; intro bn w h; try dsimp only at h) | (refine h.drew.newB run_boxA rfl ?_; intro bn w h; try dsimp only at h))) | ((with_reducible refine RunN.isNew ?_); (first | (refine h.newB (NewC.run _) rfl ?_; intro bn w h) | (refine h.drew.newB (NewC.run _) rfl ?_; intro bn w h))))
      rw [SplitB_iff]
      refine ⟨fun hc => ?_, fun hc => ?_⟩
      · have hc : i < ds.length := by have := of_decide_eq_true hc; omega
        repeat (first | (with_reducible refine NilP.mk ?_) | ((with_reducible refine RunN.isLoad ?_); (first | refine h.loadB 0 0 ⟨_, rfl, rfl⟩ rfl rfl ?_ | refine h.drew.loadB 0 0 ⟨_, rfl, rfl⟩ rfl rfl ?_)) | ((with_reducible refine ReadN.isLoad ?_); (first | refine h.readB 0 0 ⟨_, rfl, rfl⟩ rfl rfl ?_ | refine h.drew.readB 0 0 ⟨_, rfl, rfl⟩ rfl rfl ?_)) | ((with_reducible refine StillV.isLoad ?_); (first | refine ⟨h.stillB 0 0 ⟨_, rfl, rfl⟩ rfl rfl, ?_⟩)) | ((with_reducible refine RunU.isStor ?_); (first | (refine h.storB 0 0 ⟨_, rfl, rfl⟩ rfl rfl rfl ?_; intro w h; dsimp only [updG, setO] at h) | (refine h.drew.storB 0 0 ⟨_, rfl, rfl⟩ rfl rfl rfl ?_; intro w h; dsimp only [updG, setO] at h))) | ((with_reducible refine RunN.isBox ?_); (first | (refine h.newB run_boxA rfl ?_; intro bn w h; try dsimp only at h) | (refine h.drew.newB run_boxA rfl ?_; intro bn w h; try dsimp only at h))) | ((with_reducible refine RunN.isNew ?_); (first | (refine h.newB (NewC.run _) rfl ?_; intro bn w h) | (refine h.drew.newB (NewC.run _) rfl ?_; intro bn w h))))
        refine (h.rd (k := 3) (i := 0) ⟨_, rfl, rfl⟩).idxK i rfl (by omega) ?_
        intro b o hb
        refine (h.rd (k := 3) (i := 0) ⟨_, rfl, rfl⟩).el hb (i * 1) rfl (kd := .sl) (x := ds[i].1) (by rw [Nat.mul_one]; exact sls_at hc) ?_
        rw [List.drop_eq_getElem_cons hc, List.map_cons] at h
        have h := St.one.1 (h.bring 4 rfl)
        dsimp only [delO] at h
        refine LoopX.mk (fun st w' => ∃ e : List UInt8, e.length ≤ 100 ∧ st.2.1 = (e.length : Int) ∧ e = ex i e.length ∧ Grow 5 w0 w' ds[i].1 ds[i].2 st.1 e ((ds.drop (i + 1)).map brow :: [p.cel] :: gd.flatten :: [.row 29 1 far (sls fd)] :: [.row 29 1 p.sf (sls ds)] :: F)) (fun st => 100 - st.2.1.toNat) ⟨[], by simp, rfl, rfl, Grow.start h⟩ ?_
        clear h
        rintro ⟨g, _, ⟨⟩⟩ w ⟨e, hel, rfl, hex, hg⟩ K2 hK2
        dsimp only at hg hK2 ⊢
        have hli := hlen i hc
        rw [SplitB_iff]
        refine ⟨fun hd => ?_, fun hd => ?_⟩
        · have hd : e.length < 100 := by have := of_decide_eq_true hd; omega
          refine sign_st.mono ?_
          rintro r w ⟨rfl, rfl⟩
          rw [wr (by omega)]
          refine Grow.app bs29 hg _ _ (ext_byt i e.length).1 (by omega) ?_
          intro d' w hg
          refine hK2 _ _ ⟨e ++ [extB i e.length], by simp; omega, by dsimp only; rw [wr (by omega)]; simp, ?_, hg⟩ (by dsimp only; rw [wr (by omega)]; omega)
          rw [List.length_append]
          simp only [ex, List.length_cons, List.length_nil, Nat.zero_add, List.range_succ, List.map_append, List.map_cons, List.map_nil]
          rw [← ex, ← hex]
        · have hd : e.length = 100 := by have := of_decide_eq_false hd; omega
          rw [hd] at hex
          subst hex
          have hfin : ∃ gg, FarOk i ds[i] (g, ds[i].2 ++ ex i 100) gg ∧ St w0 w (gg :: (ds.drop (i + 1)).map brow :: [p.cel] :: gd.flatten :: [.row 29 1 far (sls fd)] :: [.row 29 1 p.sf (sls ds)] :: F) := by
            obtain ⟨hg1, hg2, hg3⟩ := hg
            have hsli := hsl i hc
            rcases hg3 with ⟨ha, hcap, h⟩ | h
            · exact ⟨_, ⟨rfl, hg1, by dsimp only; rw [hg2]; simp, hsli.2, .inl ⟨rfl, ha⟩⟩, h⟩
            · exact ⟨_, ⟨rfl, hg1, by dsimp only; rw [hg2]; simp, hsli.2, .inr rfl⟩, h⟩
          clear hg
          obtain ⟨gg, hgg, h⟩ := hfin
          refine h.newS 1 (bs60 _ _) rfl rfl rfl ?_
          intro s4 w h1 h2 h3 h
          refine h.app 5 0 ⟨_, rfl, rfl⟩ (h.rd (k := 0) (i := 0) ⟨_, rfl, rfl⟩) one_slice (by simp only [maxLen]; omega) (by omega) ?_
          intro s5 w h5 h
          dsimp only [updG, setO] at h
          have h := h.drop 0
          dsimp only [delO] at h
          rw [← sls_snoc fd (g, ds[i].2 ++ ex i 100)] at h
          have h := (St.two.2 (h.bring 3 rfl))
          dsimp only [delO] at h
          have e1 : gd.flatten ++ gg = (gd ++ [gg]).flatten := by simp
          rw [e1] at h
          have h := ((h.bring 1 rfl).back 4).bring 1 rfl
          dsimp only [delO, insO] at h
          refine hK _ _ ⟨i + 1, gd ++ [gg], fd ++ [(g, ds[i].2 ++ ex i 100)], hc, by dsimp only; rw [wr (by omega)]; omega, by simp [hfl], by simp [hgl], ?_, h⟩ (by dsimp only; rw [wr (by omega)]; omega)
          intro k k1 k2 k3
          rcases Nat.lt_or_ge k i with hlt | hge
          · rw [List.getElem_append_left (by omega), List.getElem_append_left (by omega)]
            exact hF k k1 (by omega) (by omega)
          · have : k = i := by simp at k2; omega
            subst this
            rw [List.getElem_append_right (by omega), List.getElem_append_right (by omega)]
            simp only [hfl, hgl, Nat.sub_self, List.getElem_cons_zero]
            exact hgg
      · have hc : i = ds.length := by have := of_decide_eq_false hc; omega
        clear hK K
        subst hc
        -- none is seen in another one
        refine LoopX.mk (fun st w' => ∃ i : Nat, i ≤ ds.length ∧ st.1 = (i : Int) ∧ St w0 w' ([p.cel] :: gd.flatten :: [.row 29 1 far (sls fd)] :: [.row 29 1 p.sf (sls ds)] :: (ds.drop ds.length).map brow :: F)) (fun st => ds.length - st.1.toNat) ⟨0, Nat.zero_le _, rfl, h⟩ ?_
        clear h
        rintro ⟨_, ⟨⟩⟩ w ⟨i, hi, rfl, h⟩ K hK
        dsimp only at h hK ⊢
        rw [SplitB_iff]
        refine ⟨fun hc => ?_, fun hc => ?_⟩
        · have hc : i < ds.length := by have := of_decide_eq_true hc; omega
          have hfi : i < fd.length := by omega
          have hgi : i < gd.length := by omega
          have hF := hF i hc hfi hgi
          have hsi := hsl i hc
          have hsgi := hsg i hc
          have hli := hlen i hc
          have hgm : ∀ e ∈ gd[i], e ∈ gd.flatten := fun e he => List.mem_flatten.2 ⟨_, List.getElem_mem _, he⟩
          have hyl : fd[i].2.length = ds[i].2.length + 100 := by rw [hF.1]; simp [ex]
          have hy1 : ∀ j, j < ds[i].2.length → (bys fd[i].2)[j]? = some (u8v (sgnB i j)) := by
            intro j hj
            rw [hF.1, bys_append, List.getElem?_append_left (by simpa using hj), bys_get hj]
            congr 2
            have : ds[i].2[j] = (sg i ds[i].2.length)[j]'(by simpa [sg] using hj) := by congr 1
            rw [this]; simp [sg]
          have hx1 : ∀ j, j < ds[i].2.length → (bys ds[i].2)[j]? = some (u8v (sgnB i j)) := by
            intro j hj
            rw [bys_get hj]
            congr 2
            have : ds[i].2[j] = (sg i ds[i].2.length)[j]'(by simpa [sg] using hj) := by congr 1
            rw [this]; simp [sg]
          have hy2 : ∀ j, ds[i].2.length ≤ j → j < ds[i].2.length + 100 → (bys fd[i].2)[j]? = some (u8v (extB i (j - ds[i].2.length))) := by
            intro j hj hj2
            rw [hF.1, bys_append, List.getElem?_append_right (by simpa using hj), bys_length, bys_get (by simp [ex]; omega)]
            simp [ex]
          repeat (first | (with_reducible refine NilP.mk ?_) | ((with_reducible refine RunN.isLoad ?_); (first | refine h.loadB 0 0 ⟨_, rfl, rfl⟩ rfl rfl ?_ | refine h.drew.loadB 0 0 ⟨_, rfl, rfl⟩ rfl rfl ?_)) | ((with_reducible refine ReadN.isLoad ?_); (first | refine h.readB 0 0 ⟨_, rfl, rfl⟩ rfl rfl ?_ | refine h.drew.readB 0 0 ⟨_, rfl, rfl⟩ rfl rfl ?_)) | ((with_reducible refine StillV.isLoad ?_); (first | refine ⟨h.stillB 0 0 ⟨_, rfl, rfl⟩ rfl rfl, ?_⟩)) | ((with_reducible refine RunU.isStor ?_); (first | (refine h.storB 0 0 ⟨_, rfl, rfl⟩ rfl rfl rfl ?_; intro w h; dsimp only [updG, setO] at h) | (refine h.drew.storB 0 0 ⟨_, rfl, rfl⟩ rfl rfl rfl ?_; intro w h; dsimp only [updG, setO] at h))) | ((with_reducible refine RunN.isBox ?_); (first | (refine h.newB run_boxA rfl ?_; intro bn w h; try dsimp only at h) | (refine h.drew.newB run_boxA rfl ?_; intro bn w h; try dsimp only at h))) | ((with_reducible refine RunN.isNew ?_); (first | (refine h.newB (NewC.run _) rfl ?_; intro bn w h) | (refine h.drew.newB (NewC.run _) rfl ?_; intro bn w h))))
          refine (h.rd (k := 3) (i := 0) ⟨_, rfl, rfl⟩).idxK i rfl (by omega) ?_
          intro b o hb
          refine (h.rd (k := 3) (i := 0) ⟨_, rfl, rfl⟩).el hb (i * 1) rfl (kd := .sl) (x := ds[i].1) (by rw [Nat.mul_one]; exact sls_at hc) ?_
          refine LoopX.mk (fun st w' => ∃ j : Nat, j ≤ fd[i].2.length ∧ st.1 = (j : Int) ∧ St w0 w' ([p.cel] :: gd.flatten :: [.row 29 1 far (sls fd)] :: [.row 29 1 p.sf (sls ds)] :: (ds.drop ds.length).map brow :: F)) (fun st => fd[i].2.length - st.1.toNat) ⟨0, Nat.zero_le _, rfl, h⟩ ?_
          clear h
          rintro ⟨_, ⟨⟩⟩ w ⟨j, hj, rfl, h⟩ K2 hK2
          dsimp only at h hK2 ⊢
          refine (h.rd (k := 2) (i := 0) ⟨_, rfl, rfl⟩).idxK i rfl (by omega) ?_
          intro b3 o3 hb3
          refine (h.rd (k := 2) (i := 0) ⟨_, rfl, rfl⟩).el hb3 (i * 1) rfl (kd := .sl) (x := fd[i].1) (by rw [Nat.mul_one]; exact sls_at hfi) ?_
          have hfl3 := hF.2.2.1
          rw [SplitB_iff]
          refine ⟨fun hd => ?_, fun hd => ?_⟩
          · have hd : j < fd[i].2.length := by have := of_decide_eq_true hd; omega
            refine JoinX.mk (fun jj w' => jj.1 = false ∧ St w0 w' ([p.cel] :: gd.flatten :: [.row 29 1 far (sls fd)] :: [.row 29 1 p.sf (sls ds)] :: (ds.drop ds.length).map brow :: F)) ?_ ?_
            · rintro ⟨_, ⟨⟩⟩ w ⟨hjj, h⟩
              dsimp only at hjj h ⊢
              subst hjj
              rw [SplitB_iff]
              refine ⟨fun hz => ?_, fun hz => ?_⟩
              · simp at hz
              · exact hK2 _ _ ⟨j + 1, hd, by dsimp only; rw [wr (by omega)]; omega, h⟩ (by dsimp only; rw [wr (by omega)]; omega)
            · intro k15 hk15
              rw [SplitB_iff]
              refine ⟨fun hjn => ?_, fun hjn => ?_⟩
              · have hjn : j < ds[i].2.length := by have := of_decide_eq_true hjn; omega
                have h := h.drew
                obtain ⟨hry, hrx⟩ := hF.reads h (k := 1) (gs := gd.flatten) rfl hgm
                repeat (first | (with_reducible refine NilP.mk ?_) | ((with_reducible refine RunN.isLoad ?_); (first | refine h.loadB 0 0 ⟨_, rfl, rfl⟩ rfl rfl ?_ | refine h.drew.loadB 0 0 ⟨_, rfl, rfl⟩ rfl rfl ?_)) | ((with_reducible refine ReadN.isLoad ?_); (first | refine h.readB 0 0 ⟨_, rfl, rfl⟩ rfl rfl ?_ | refine h.drew.readB 0 0 ⟨_, rfl, rfl⟩ rfl rfl ?_)) | ((with_reducible refine StillV.isLoad ?_); (first | refine ⟨h.stillB 0 0 ⟨_, rfl, rfl⟩ rfl rfl, ?_⟩)) | ((with_reducible refine RunU.isStor ?_); (first | (refine h.storB 0 0 ⟨_, rfl, rfl⟩ rfl rfl rfl ?_; intro w h; dsimp only [updG, setO] at h) | (refine h.drew.storB 0 0 ⟨_, rfl, rfl⟩ rfl rfl rfl ?_; intro w h; dsimp only [updG, setO] at h))) | ((with_reducible refine RunN.isBox ?_); (first | (refine h.newB run_boxA rfl ?_; intro bn w h; try dsimp only at h) | (refine h.drew.newB run_boxA rfl ?_; intro bn w h; try dsimp only at h))) | ((with_reducible refine RunN.isNew ?_); (first | (refine h.newB (NewC.run _) rfl ?_; intro bn w h) | (refine h.drew.newB (NewC.run _) rfl ?_; intro bn w h))))
                refine (h.rd (k := 3) (i := 0) ⟨_, rfl, rfl⟩).idxR i rfl (by omega) ?_
                intro b4 o4 hb4
                refine (h.rd (k := 3) (i := 0) ⟨_, rfl, rfl⟩).elR hb4 (i * 1) rfl (kd := .sl) (x := ds[i].1) (by rw [Nat.mul_one]; exact sls_at hc) ?_
                refine hrx.idxR j rfl (by omega) ?_
                intro b5 o5 hb5
                refine hrx.elR hb5 (j * 1) rfl (kd := .int .u8) (x := ((sgnB i j).toNat : Int)) (by rw [Nat.mul_one]; exact hx1 j hjn) ?_
                refine sign_st.mono ?_
                rintro r w ⟨rfl, rfl⟩
                refine ⟨StillV.el hrx hb5 (j * 1) rfl (by rw [Nat.mul_one]; exact hx1 j hjn), ?_⟩
                refine ⟨StillV.idx hrx hb5 j rfl (by omega), ?_⟩
                refine ⟨StillV.el (h.rd (k := 3) (i := 0) ⟨_, rfl, rfl⟩) hb4 (i * 1) rfl (by rw [Nat.mul_one]; exact sls_at hc), ?_⟩
                refine ⟨StillV.idx (h.rd (k := 3) (i := 0) ⟨_, rfl, rfl⟩) hb4 i rfl (by omega), ?_⟩
                repeat (first | (with_reducible refine NilP.mk ?_) | ((with_reducible refine RunN.isLoad ?_); (first | refine h.loadB 0 0 ⟨_, rfl, rfl⟩ rfl rfl ?_ | refine h.drew.loadB 0 0 ⟨_, rfl, rfl⟩ rfl rfl ?_)) | ((with_reducible refine ReadN.isLoad ?_); (first | refine h.readB 0 0 ⟨_, rfl, rfl⟩ rfl rfl ?_ | refine h.drew.readB 0 0 ⟨_, rfl, rfl⟩ rfl rfl ?_)) | ((with_reducible refine StillV.isLoad ?_); (first | refine ⟨h.stillB 0 0 ⟨_, rfl, rfl⟩ rfl rfl, ?_⟩)) | ((with_reducible refine RunU.isStor ?_); (first | (refine h.storB 0 0 ⟨_, rfl, rfl⟩ rfl rfl rfl ?_; intro w h; dsimp only [updG, setO] at h) | (refine h.drew.storB 0 0 ⟨_, rfl, rfl⟩ rfl rfl rfl ?_; intro w h; dsimp only [updG, setO] at h))) | ((with_reducible refine RunN.isBox ?_); (first | (refine h.newB run_boxA rfl ?_; intro bn w h; try dsimp only at h) | (refine h.drew.newB run_boxA rfl ?_; intro bn w h; try dsimp only at h))) | ((with_reducible refine RunN.isNew ?_); (first | (refine h.newB (NewC.run _) rfl ?_; intro bn w h) | (refine h.drew.newB (NewC.run _) rfl ?_; intro bn w h))))
                rw [SplitB_iff]
                refine ⟨fun hz => ?_, fun hz => ?_⟩
                · rw [(sgn_byt i j).2] at hz; simp at hz
                · refine (h.rd (k := 2) (i := 0) ⟨_, rfl, rfl⟩).idxR i rfl (by omega) ?_
                  intro b6 o6 hb6
                  refine (h.rd (k := 2) (i := 0) ⟨_, rfl, rfl⟩).elR hb6 (i * 1) rfl (kd := .sl) (x := fd[i].1) (by rw [Nat.mul_one]; exact sls_at hfi) ?_
                  refine hry.idxR j rfl (by omega) ?_
                  intro b7 o7 hb7
                  refine hry.elR hb7 (j * 1) rfl (kd := .int .u8) (x := ((sgnB i j).toNat : Int)) (by rw [Nat.mul_one]; exact hy1 j hjn) ?_
                  refine sign_st.mono ?_
                  rintro r w ⟨rfl, rfl⟩
                  refine ⟨StillV.el hry hb7 (j * 1) rfl (by rw [Nat.mul_one]; exact hy1 j hjn), ?_⟩
                  refine ⟨StillV.idx hry hb7 j rfl (by omega), ?_⟩
                  refine ⟨StillV.el (h.rd (k := 2) (i := 0) ⟨_, rfl, rfl⟩) hb6 (i * 1) rfl (by rw [Nat.mul_one]; exact sls_at hfi), ?_⟩
                  refine ⟨StillV.idx (h.rd (k := 2) (i := 0) ⟨_, rfl, rfl⟩) hb6 i rfl (by omega), ?_⟩
                  rw [SplitB_iff]
                  refine ⟨fun hz2 => ?_, fun hz2 => ?_⟩
                  · rw [(sgn_byt i j).2] at hz2; simp at hz2
                  · skip
                    rw [SplitB_iff]
                    refine ⟨fun hz3 => ?_, fun hz3 => ?_⟩
                    · have := of_decide_eq_true hz3; omega
                    · exact hk15 _ _ ⟨rfl, h⟩
              · have hjn : ds[i].2.length ≤ j := by have := of_decide_eq_false hjn; omega
                rw [SplitB_iff]
                refine ⟨fun hz3 => ?_, fun hz3 => ?_⟩
                · have h := h.drew
                  obtain ⟨hry, hrx⟩ := hF.reads h (k := 1) (gs := gd.flatten) rfl hgm
                  have hyj := hy2 j hjn (by omega)
                  refine (h.rd (k := 2) (i := 0) ⟨_, rfl, rfl⟩).idxR i rfl (by omega) ?_
                  intro b6 o6 hb6
                  refine (h.rd (k := 2) (i := 0) ⟨_, rfl, rfl⟩).elR hb6 (i * 1) rfl (kd := .sl) (x := fd[i].1) (by rw [Nat.mul_one]; exact sls_at hfi) ?_
                  refine hry.idxR j rfl (by omega) ?_
                  intro b7 o7 hb7
                  refine hry.elR hb7 (j * 1) rfl (kd := .int .u8) (x := ((extB i (j - ds[i].2.length)).toNat : Int)) (by rw [Nat.mul_one]; exact hyj) ?_
                  refine sign_st.mono ?_
                  rintro r w ⟨rfl, rfl⟩
                  refine ⟨StillV.el hry hb7 (j * 1) rfl (by rw [Nat.mul_one]; exact hyj), ?_⟩
                  refine ⟨StillV.idx hry hb7 j rfl (by omega), ?_⟩
                  refine ⟨StillV.el (h.rd (k := 2) (i := 0) ⟨_, rfl, rfl⟩) hb6 (i * 1) rfl (by rw [Nat.mul_one]; exact sls_at hfi), ?_⟩
                  refine ⟨StillV.idx (h.rd (k := 2) (i := 0) ⟨_, rfl, rfl⟩) hb6 i rfl (by omega), ?_⟩
                  refine hk15 _ _ ⟨?_, h⟩
                  have e1 : IntKind.i64.wrap ((i : Int) + 1) = (i : Int) + 1 := wr (by omega)
                  have e2 : IntKind.i64.wrap ((j : Int) - (ds[i].1.len : Int)) = ((j - ds[i].2.length : Nat) : Int) := by rw [wr (by omega)]; omega
                  dsimp only
                  rw [e1, e2, (ext_byt i (j - ds[i].2.length)).2]
                  simp
                · have := of_decide_eq_false hz3; omega
          · exact hK _ _ ⟨i + 1, hc, by dsimp only; rw [wr (by omega)]; omega, h⟩ (by dsimp only; rw [wr (by omega)]; omega)
        · exact ⟨rfl, ((((h.drop 0).drop 0).drop 0).drop 0).drop 0⟩
end Go.Proofs.Ytmhjlngkdppgpaa
