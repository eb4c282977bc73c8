/- The journal in memory; the record that stands at its next sector. -/
import Derived.Test.YtimebochhbfkgaaJkF
namespace Go.Proofs.Ytimebochhbfkgaa
open Go Go.Fw Go.RowKit
set_option linter.unusedVariables false
set_option linter.unusedSimpArgs false
set_option maxRecDepth 4000
set_option maxHeartbeats 2000000
variable {w0 w : World} {F G : Grps} {d : D}

structure J where
  b : Nat
  rs : Sl
  recs : List Bs
  next : Nat
  dead : Bool
def jcel (j : J) (p : Option Addr) : List Value := [.pointer p, .slice j.rs.a j.rs.len j.rs.cap, .int .i64 (j.next : Int), .bool j.dead]
def jg (j : J) (p : Option Addr) : List Ent := .cel j.b 79 (jcel j p) :: .row 31 1 j.rs (lsl j.recs) :: j.recs.map (brw 5)
@[reducible] def J.p (j : J) : Option Addr := some ⟨j.b, 0, none⟩
structure JOk (j : J) (d : D) : Prop where
  next : j.next ≤ d.secs.length
  recs : j.recs.length ≤ j.next
  len : ∀ x ∈ j.recs, x.2.length ≤ 8192
variable {j : J} {q : Option Addr}
theorem jg_len {G : Grps} {k : Nat} (h : St w0 w G) (hk : nthO G k = some (jg j q)) : j.rs.len = j.recs.length := by
  have := (h.rd (k := k) (i := 1) ⟨_, hk, rfl⟩).1
  rw [lsl_len] at this; omega
theorem read_err (h : St w0 w (dg d :: F)) (n : Int) (ho : d.abs.reach n ≠ 0) : CallK Try.prog (.tup (.cons .sl (.cons (.int .i64) .nilT))) 42 #[.pointer d.p, .int .i64 n] w fun (r : Sl × Int × Unit) w' =>
    r.2.1 = d.abs.reach n ∧ St w0 w' (dg d :: F) := by
  refine T42.calls ?_
  unfold T42
  refine (reach_st h n).mono ?_
  rintro r w ⟨rfl, h⟩
  rw [SplitB_iff]
  refine ⟨fun _ => ⟨rfl, h⟩, fun hz => ?_⟩
  exact absurd (by simpa using hz) ho
theorem i64_byte {b : UInt8} : IntKind.i64.wrap (b.toNat : Int) = (b.toNat : Int) := by
  have := b.toNat_lt
  exact IntWalk.i64_in _ ⟨by omega, by omega⟩
theorem bitOr_len (a b : UInt8) : bitOr .i64 (IntKind.i64.wrap (a.toNat : Int)) (IntKind.i64.wrap (IntKind.i64.wrap (b.toNat : Int) * 2 ^ 8)) = ((a.toNat + 256 * b.toNat : Nat) : Int) := by
  have ha := a.toNat_lt
  have hb := b.toNat_lt
  rw [i64_byte, i64_byte, IntWalk.i64_in _ ⟨by omega, by omega⟩]
  have e1 : ((b.toNat : Int) * 2 ^ 8) = ((256 * b.toNat : Nat) : Int) := by omega
  rw [e1]
  unfold bitOr
  have h1 : ∀ n : Nat, n < 65536 → BitVec.ofInt IntKind.i64.bits (n : Int) = BitVec.ofNat 64 n := fun n _ => by
    apply BitVec.eq_of_toNat_eq; simp [BitVec.toNat_ofInt, IntKind.bits]
  rw [h1 _ (by omega), h1 _ (by omega)]
  show IntKind.i64.wrap ((BitVec.ofNat 64 a.toNat ||| BitVec.ofNat 64 (256 * b.toNat)).toNat : Int) = _
  rw [BitVec.toNat_or, BitVec.toNat_ofNat, BitVec.toNat_ofNat, Nat.mod_eq_of_lt (by omega), Nat.mod_eq_of_lt (by omega)]
  have e2 : a.toNat ||| 256 * b.toNat = a.toNat + 256 * b.toNat := by
    have := Nat.two_pow_add_eq_or_of_lt (i := 8) (b := a.toNat) (by omega) b.toNat
    rw [Nat.or_comm]; simp at this; omega
  rw [e2]
  exact IntWalk.i64_in _ ⟨by omega, by omega⟩

theorem recAt_cons (a : Nat) (s : List UInt8) (r : List (List UInt8)) (h : hdr s ≤ 8192) : recAt a (s :: r) = recGo a (hdr s) (s :: r) 0 (cnt (hdr s)) := by
  simp only [recAt, if_pos h]
/-- What the loop over places knows. -/
def RInv (L : List (List UInt8)) (a : Nat) (p n : Nat) (acc : List UInt8) : Prop :=
  acc.length ≤ p * 496 ∧ (p = 0 ∧ n = 0 ∧ acc = [] ∨ 1 ≤ p ∧ n ≤ 8192 ∧ p ≤ cnt n ∧ recAt a L = (recGo a n (L.drop p) p (cnt n - p)).map (acc ++ ·))
theorem record_st (h : St w0 w (dg d :: jg j d.p :: F)) (ok : DOk d) (jok : JOk j d) (ho : d.off = false) : CallK Try.prog (.tup (.cons .sl (.cons .bool .nilT))) 34 #[.pointer j.p] w fun (r : Sl × Bool × Unit) w' =>
    (∃ b, recAt (j.recs.length + 1) (d.abs.ims.drop j.next) = some b ∧ r.2.1 = true ∧ r.1.len = b.length ∧ St w0 w' ([.row 5 1 r.1 (bys b)] :: dg d :: jg j d.p :: F)) ∨
    (recAt (j.recs.length + 1) (d.abs.ims.drop j.next) = none ∧ r.2.1 = false ∧ St w0 w' (dg d :: jg j d.p :: F)) := by
  have hjl := jg_len h (k := 1) rfl
  have hsm := ok.small
  have hjn := jok.next
  have hjr := jok.recs
  have hil : d.abs.ims.length = d.secs.length := by simp [D.abs]
  generalize hL : d.abs.ims.drop j.next = L
  generalize hA : j.recs.length + 1 = nA
  have hLl : L.length = d.secs.length - j.next := by rw [← hL]; simp
  have hL5 : ∀ s ∈ L, s.length = 512 := fun s hs => ims_len ok s (List.mem_of_mem_drop (hL ▸ hs))
  refine T34.calls ?_
  unfold T34
  repeat (first | (with_reducible refine NilP.mk ?_) | ((with_reducible refine RunN.isLoad ?_); (first | refine h.loadB 0 0 ⟨_, rfl, rfl⟩ rfl rfl ?_ | refine h.loadB 1 0 ⟨_, rfl, rfl⟩ rfl rfl ?_ | refine h.drew.loadB 0 0 ⟨_, rfl, rfl⟩ rfl rfl ?_ | refine h.drew.loadB 1 0 ⟨_, rfl, rfl⟩ rfl rfl ?_)) | ((with_reducible refine ReadN.isLoad ?_); (first | refine h.readB 0 0 ⟨_, rfl, rfl⟩ rfl rfl ?_ | refine h.readB 1 0 ⟨_, rfl, rfl⟩ rfl rfl ?_ | refine h.drew.readB 0 0 ⟨_, rfl, rfl⟩ rfl rfl ?_ | refine h.drew.readB 1 0 ⟨_, rfl, rfl⟩ rfl rfl ?_)) | ((with_reducible refine StillV.isLoad ?_); (first | refine ⟨h.stillB 0 0 ⟨_, rfl, rfl⟩ rfl rfl, ?_⟩ | refine ⟨h.stillB 1 0 ⟨_, rfl, rfl⟩ rfl rfl, ?_⟩)) | ((with_reducible refine RunU.isStor ?_); (first | (refine h.storB 0 0 ⟨_, rfl, rfl⟩ rfl rfl rfl ?_; intro w h; dsimp only [updG, setO] at h) | (refine h.storB 1 0 ⟨_, rfl, rfl⟩ rfl rfl rfl ?_; intro w h; dsimp only [updG, setO] at h) | (refine h.drew.storB 0 0 ⟨_, rfl, rfl⟩ rfl rfl rfl ?_; intro w h; dsimp only [updG, setO] at h) | (refine h.drew.storB 1 0 ⟨_, rfl, rfl⟩ rfl rfl rfl ?_; intro w h; dsimp only [updG, setO] at h))) | ((with_reducible refine RunN.isBox ?_); (first | (refine h.newB run_boxA rfl ?_; intro bn w h; try dsimp only at h) | (refine h.drew.newB run_boxA rfl ?_; intro bn w h; try dsimp only at h))) | ((with_reducible refine RunN.isNew ?_); (first | (refine h.newB (NewC.run _) rfl ?_; intro bn w h) | (refine h.drew.newB (NewC.run _) rfl ?_; intro bn w h))))
  have h := h.nilrow 5 1
  refine LoopX.mk (fun st w' => ∃ (p n : Nat) (acc : List UInt8), st.2.1 = (p : Int) ∧ st.2.2.1 = (n : Int) ∧ RInv L nA p n acc ∧ j.next + p ≤ d.secs.length ∧ st.1.len = acc.length ∧ St w0 w' ([.row 5 1 st.1 (bys acc)] :: dg d :: jg j d.p :: F)) (fun st => 1 + d.secs.length - (j.next + st.2.1.toNat)) ⟨0, 0, [], rfl, rfl, ⟨by simp, .inl ⟨rfl, rfl, rfl⟩⟩, by omega, rfl, h⟩ ?_
  clear h
  rintro ⟨s, _, _, ⟨⟩⟩ w ⟨p, n, acc, rfl, rfl, ⟨hal, hi⟩, hp, hsl, h⟩ K hK
  dsimp only at h hK hsl ⊢
  have hn8 : n ≤ 8192 := by rcases hi with h | h <;> omega
  refine (sectors_ok (n := n) (by omega)).mono ?_
  rintro r w' ⟨hw, rfl⟩
  subst hw
  have hc17 := cnt_le hn8
  rw [SplitB_iff]
  refine ⟨fun hz => ?_, fun hz => ?_⟩
  · have hz : p < cnt n := by have := of_decide_eq_true hz; omega
    repeat (first | (with_reducible refine NilP.mk ?_) | ((with_reducible refine RunN.isLoad ?_); (first | refine h.loadB 0 0 ⟨_, rfl, rfl⟩ rfl rfl ?_ | refine h.loadB 1 0 ⟨_, rfl, rfl⟩ rfl rfl ?_ | refine h.loadB 2 0 ⟨_, rfl, rfl⟩ rfl rfl ?_ | refine h.drew.loadB 0 0 ⟨_, rfl, rfl⟩ rfl rfl ?_ | refine h.drew.loadB 1 0 ⟨_, rfl, rfl⟩ rfl rfl ?_ | refine h.drew.loadB 2 0 ⟨_, rfl, rfl⟩ rfl rfl ?_)) | ((with_reducible refine ReadN.isLoad ?_); (first | refine h.readB 0 0 ⟨_, rfl, rfl⟩ rfl rfl ?_ | refine h.readB 1 0 ⟨_, rfl, rfl⟩ rfl rfl ?_ | refine h.readB 2 0 ⟨_, rfl, rfl⟩ rfl rfl ?_ | refine h.drew.readB 0 0 ⟨_, rfl, rfl⟩ rfl rfl ?_ | refine h.drew.readB 1 0 ⟨_, rfl, rfl⟩ rfl rfl ?_ | refine h.drew.readB 2 0 ⟨_, rfl, rfl⟩ rfl rfl ?_)) | ((with_reducible refine StillV.isLoad ?_); (first | refine ⟨h.stillB 0 0 ⟨_, rfl, rfl⟩ rfl rfl, ?_⟩ | refine ⟨h.stillB 1 0 ⟨_, rfl, rfl⟩ rfl rfl, ?_⟩ | refine ⟨h.stillB 2 0 ⟨_, rfl, rfl⟩ rfl rfl, ?_⟩)) | ((with_reducible refine RunU.isStor ?_); (first | (refine h.storB 0 0 ⟨_, rfl, rfl⟩ rfl rfl rfl ?_; intro w h; dsimp only [updG, setO] at h) | (refine h.storB 1 0 ⟨_, rfl, rfl⟩ rfl rfl rfl ?_; intro w h; dsimp only [updG, setO] at h) | (refine h.storB 2 0 ⟨_, rfl, rfl⟩ rfl rfl rfl ?_; intro w h; dsimp only [updG, setO] at h) | (refine h.drew.storB 0 0 ⟨_, rfl, rfl⟩ rfl rfl rfl ?_; intro w h; dsimp only [updG, setO] at h) | (refine h.drew.storB 1 0 ⟨_, rfl, rfl⟩ rfl rfl rfl ?_; intro w h; dsimp only [updG, setO] at h) | (refine h.drew.storB 2 0 ⟨_, rfl, rfl⟩ rfl rfl rfl ?_; intro w h; dsimp only [updG, setO] at h))) | ((with_reducible refine RunN.isBox ?_); (first | (refine h.newB run_boxA rfl ?_; intro bn w h; try dsimp only at h) | (refine h.drew.newB run_boxA rfl ?_; intro bn w h; try dsimp only at h))) | ((with_reducible refine RunN.isNew ?_); (first | (refine h.newB (NewC.run _) rfl ?_; intro bn w h) | (refine h.drew.newB (NewC.run _) rfl ?_; intro bn w h))))
    rw [wr (by omega)]
    have h := h.bring 1 rfl
    dsimp only [delO] at h
    by_cases hin : j.next + p < d.secs.length
    · have hLp : p < L.length := by omega
      have e1 : (j.next : Int) + p = ((j.next + p : Nat) : Int) := by omega
      rw [e1]
      refine (read_st h.drew ok hin ho).mono ?_
      rintro ⟨s1, e, ⟨⟩⟩ w ⟨he, hs1, h⟩
      dsimp only at he hs1 h ⊢
      subst he
      have hcc : cont d.secs[j.next + p] = L[p] := by
        have : L[p]? = some (cont d.secs[j.next + p]) := by rw [← hL, List.getElem?_drop]; simp [D.abs, hin]
        rw [List.getElem?_eq_getElem hLp] at this
        exact (Option.some.inj this).symm
      rw [hcc] at h
      have hL5p := hL5 _ (List.getElem_mem hLp)
      have hLd : L.drop p = L[p] :: L.drop (p + 1) := List.drop_eq_getElem_cons hLp
      rw [SplitB_iff]
      refine ⟨(fun hz => by simp at hz), fun _ => ?_⟩
      refine JoinX.mk (fun jv w' => ∃ n' : Nat, jv.1 = (n' : Int) ∧ n' ≤ 65535 ∧ p < cnt n' ∧ (recAt nA L = if n' ≤ 8192 then (recGo nA n' (L[p] :: L.drop (p + 1)) p (cnt n' - p)).map (acc ++ ·) else none) ∧ St w0 w' ([.row 5 1 s1 (bys L[p])] :: dg d :: [.row 5 1 s (bys acc)] :: jg j d.p :: F)) ?_ ?_
      · rintro ⟨_, ⟨⟩⟩ w ⟨n', rfl, hn', hpn, hrec, h⟩
        dsimp only at h ⊢
        have hc' : cnt n' ≤ 65536 := by unfold cnt; omega
        rw [hjl, wr (by omega)]
        have e2 : ((j.recs.length : Nat) : Int) + 1 = (nA : Int) := by omega
        rw [e2]
        refine (mark_st h nA p (n := n') (by omega)).mono ?_
        rintro m w ⟨hm, h⟩
        have hstep : cnt n' - p = (cnt n' - (p + 1)) + 1 := by omega
        rw [hstep] at hrec
        simp only [recGo] at hrec
        refine JoinX.mk (fun jv w' => jv.1 = !(decide (n' ≤ 8192) && goodS nA p n' L[p]) ∧ St w0 w' ([.row 5 1 s1 (bys L[p])] :: dg d :: [.row 5 1 s (bys acc)] :: jg j d.p :: F)) ?_ ?_
        · rintro ⟨_, ⟨⟩⟩ w ⟨hj, h⟩
          dsimp only at hj h ⊢
          subst hj
          rw [SplitB_iff]
          refine ⟨fun hy => ?_, fun hy => ?_⟩
          · have hy : ¬ (n' ≤ 8192 ∧ goodS nA p n' L[p] = true) := by rintro ⟨h1, h2⟩; simp [h1, h2] at hy
            right
            refine ⟨?_, rfl, ?_⟩
            · rw [hrec]
              by_cases h1 : n' ≤ 8192
              · rw [if_pos h1, if_neg (fun h2 => hy ⟨h1, h2⟩)]; rfl
              · rw [if_neg h1]
            · have h := (h.drop 0)
              dsimp only [delO] at h
              have h := (h.drop 1)
              exact h
          · have hy : n' ≤ 8192 ∧ goodS nA p n' L[p] = true := by simpa using hy
            rw [if_pos hy.1, if_pos hy.2] at hrec
            have hpl := cnt_lt hpn
            have hc17 := cnt_le hy.1
            rw [wr (x := (p : Int) * 496) (by omega), wr (x := (n' : Int) - p * 496) (by omega)]
            refine RunN.of (kd := .int .i64) (min_i _ _ _) ?_
            have e3 : min 496 ((n' : Int) - p * 496) = ((min 496 (n' - p * 496) : Nat) : Int) := by omega
            rw [e3, wr (by omega)]
            refine RunN.sLH (s := s1) 8 (8 + min 496 (n' - p * 496)) rfl (by omega) (by omega) (by have := (h.rd (k := 0) (i := 0) ⟨_, rfl, rfl⟩).2.2; omega) ?_
            have hr := (h.rd (k := 0) (i := 0) ⟨_, rfl, rfl⟩).subS (lo := 8) (hi := 8 + min 496 (n' - p * 496)) (by omega) (by omega)
            have e4 : ((bys L[p]).drop (8 * 1)).take ((8 + min 496 (n' - p * 496) - 8) * 1) = bys (chunkS n' p L[p]) := by
              rw [Nat.mul_one, Nat.mul_one, Nat.add_sub_cancel_left]; simp [bys, chunkS, List.map_take, List.map_drop]
            rw [e4] at hr
            have hcl : (chunkS n' p L[p]).length = min 496 (n' - p * 496) := by simp only [chunkS, List.length_take, List.length_drop, hL5p]; omega
            have hul : (subS s1 8 (8 + min 496 (n' - p * 496)) 1).len = min 496 (n' - p * 496) := by simp only [subS]; omega
            refine h.app 2 0 ⟨_, rfl, rfl⟩ hr (bys_one _) (by simp only [maxLen]; omega) (by omega) ?_
            intro s' w hs' h
            dsimp only [updG, setO] at h
            have h := h.drop 0
            dsimp only [delO] at h
            have h := h.bring 1 rfl
            dsimp only [delO] at h
            rw [← bys_append] at h
            refine hK _ _ ⟨p + 1, n', acc ++ chunkS n' p L[p], by dsimp only; rw [wr (by omega)]; omega, rfl, ⟨by rw [List.length_append, hcl]; omega, .inr ⟨by omega, hy.1, by omega, ?_⟩⟩, by omega, by dsimp only; rw [hs', hul, List.length_append, hcl]; omega, h⟩ (by dsimp only; rw [wr (by omega)]; omega)
            rw [hrec, Option.map_map]
            congr 1
            funext x
            simp
        · intro k hk
          rw [SplitB_iff]
          refine ⟨fun hy => ?_, fun hy => ?_⟩
          · have hy := of_decide_eq_true hy
            refine hk _ _ ⟨?_, h.drop 0⟩
            dsimp only
            rw [decide_eq_false (by omega)]; rfl
          · have hy : n' ≤ 8192 := by have := of_decide_eq_false hy; omega
            have hr1 := h.rd (k := 1) (i := 0) ⟨_, rfl, rfl⟩
            have hr0 := h.rd (k := 0) (i := 0) ⟨_, rfl, rfl⟩
            refine (hasPre hr1 hr0 (by rw [mk_len, hL5p]; omega)).mono ?_
            rintro r w' ⟨hw, rfl⟩
            subst hw
            rw [mk_len, SplitB_iff]
            refine ⟨fun hx => ?_, fun hx => ?_⟩
            · have hx : ¬ L[p].take 8 = mk nA p n' := by simpa using hx
              refine hk _ _ ⟨?_, h.drop 0⟩
              dsimp only
              simp [goodS, hx]
            · have hx : L[p].take 8 = mk nA p n' := by simpa using hx
              refine (hasSuf hr1 hr0 (by rw [mk_len, hL5p]; omega) (by rw [hL5p]; omega)).mono ?_
              rintro r w' ⟨hw, rfl⟩
              subst hw
              refine hk _ _ ⟨?_, h.drop 0⟩
              dsimp only
              rw [mk_len, hL5p]
              simp [goodS, hx, hy]
      · intro k hk
        rw [SplitB_iff]
        refine ⟨fun hy => ?_, fun hy => ?_⟩
        · have hp0 : p = 0 := by simp at hy; omega
          subst hp0
          have hacc : acc = [] := List.eq_nil_of_length_eq_zero (by omega)
          subst hacc
          have hr := h.drew.rd (k := 0) (i := 0) ⟨_, rfl, rfl⟩
          refine hr.idxR 5 rfl (by omega) ?_
          intro b o hb
          refine hr.elR hb (5 * 1) rfl (kd := .int .u8) (x := (((L[0].getD 5 0).toNat : Nat) : Int)) ?_ ?_
          · rw [Nat.mul_one, bys_get (by omega)]; simp [Kd.val, u8v, List.getD_eq_getElem?_getD, List.getElem?_eq_getElem (show 5 < L[0].length by omega)]
          refine hr.idxR 6 rfl (by omega) ?_
          intro b2 o2 hb2
          refine hr.elR hb2 (6 * 1) rfl (kd := .int .u8) (x := (((L[0].getD 6 0).toNat : Nat) : Int)) ?_ ?_
          · rw [Nat.mul_one, bys_get (by omega)]; simp [Kd.val, u8v, List.getD_eq_getElem?_getD, List.getElem?_eq_getElem (show 6 < L[0].length by omega)]
          rw [bitOr_len]
          have h1 := (L[0].getD 5 0).toNat_lt
          have h2 := (L[0].getD 6 0).toNat_lt
          refine hk _ _ ⟨hdr L[0], rfl, by unfold hdr; omega, cnt_pos _, ?_, h.drew⟩
          have hL0 : L = L[0] :: L.drop 1 := by simpa using hLd
          conv => lhs; rw [hL0]
          simp only [recAt, Nat.sub_zero]
          split
          · cases hg : recGo nA (hdr L[0]) (L[0] :: L.drop 1) 0 (cnt (hdr L[0])) <;> simp [hg]
          · rfl
        · have hp0 : p ≠ 0 := by intro e; subst e; simp at hy
          rcases hi with ⟨h0, _⟩ | ⟨h1, h2, h3, h4⟩
          · exact absurd h0 hp0
          · refine hk _ _ ⟨n, rfl, by omega, hz, ?_, h⟩
            rw [if_pos h2, ← hLd]; exact h4
    · have hre : d.abs.reach ((j.next : Int) + p) = 201 := by
        unfold A.reach
        have : d.abs.off = false := ho
        rw [this, if_neg (by simp), if_neg (by rw [hil]; omega)]
      refine (read_err h.drew _ (by rw [hre]; decide)).mono ?_
      rintro ⟨s1, e, ⟨⟩⟩ w ⟨he, h⟩
      dsimp only at he h ⊢
      rw [hre] at he
      subst he
      rw [SplitB_iff]
      refine ⟨fun _ => ?_, (fun hz => by simp at hz)⟩
      right
      refine ⟨?_, rfl, h.drop 1⟩
      have hLp : L.length ≤ p := by omega
      rcases hi with ⟨rfl, rfl, rfl⟩ | ⟨h1, h2, h3, h4⟩
      · have : L = [] := List.eq_nil_of_length_eq_zero (by omega)
        rw [this]; rfl
      · rw [h4, List.drop_of_length_le hLp]
        have : cnt n - p = (cnt n - (p + 1)) + 1 := by omega
        rw [this]; rfl
  · have hz : cnt n ≤ p := by have := of_decide_eq_false hz; omega
    rcases hi with ⟨rfl, rfl, rfl⟩ | ⟨h1, h2, h3, h4⟩
    · exact absurd hz (by decide)
    · left
      refine ⟨acc, ?_, rfl, hsl, h⟩
      rw [h4]
      have : cnt n - p = 0 := by omega
      rw [this]
      simp [recGo]
end Go.Proofs.Ytimebochhbfkgaa
