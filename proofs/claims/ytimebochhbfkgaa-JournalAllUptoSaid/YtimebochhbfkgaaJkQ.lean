/- The document's own answer: a mark, what stands at a place, the records of an image, the sectors of a record. -/
import Derived.Test.YtimebochhbfkgaaJkTo
import Derived.Test.YtimebochhbfkgaaTJ4
import Derived.Test.YtimebochhbfkgaaTJr
namespace Go.Proofs.Ytimebochhbfkgaa
open Go Go.Fw Go.RowKit
set_option linter.unusedVariables false
set_option linter.unusedSimpArgs false
set_option maxRecDepth 4000
set_option maxHeartbeats 2000000
variable {w0 w : World} {F G : Grps} {d : D} {j : J}
theorem bs31_8 (w : World) (a b c d e f g x : Int) : (Instr.buildSlice 31 8 #[(0, .int .u8 a), (1, .int .u8 b), (2, .int .u8 c), (3, .int .u8 d), (4, .int .u8 e), (5, .int .u8 f), (6, .int .u8 g), (7, .int .u8 x)]).run Try.prog w = .ok (.slice (some ⟨w.heap.size, 0, none⟩) 8 8) (w.alloc (.cells ⟨[.int .u8 a, .int .u8 b, .int .u8 c, .int .u8 d, .int .u8 e, .int .u8 f, .int .u8 g, .int .u8 x]⟩ 5)) := by kernel_rfl

theorem count_ok {n : Nat} (hn : n ≤ 4611686018427387904) : CallK Try.prog (.int .i64) 48 #[.int .i64 (n : Int)] w fun (r : Int) w' => w' = w ∧ r = (cnt n : Int) := by
  refine T48.calls ?_
  unfold T48
  rw [wr (x := (n : Int) + 496) (by omega), wr (x := (n : Int) + 496 - 1) (by omega), Int.tdiv_eq_ediv_of_nonneg (by omega), wr (by omega), SplitB_iff]
  refine ⟨fun hz => ?_, fun hz => ?_⟩
  · have hz : n = 0 := by simpa using hz
    subst hz; exact ⟨rfl, rfl⟩
  · have hz : n ≠ 0 := by simpa using hz
    refine ⟨rfl, ?_⟩
    simp only [cnt]; omega
theorem rmark_st (h : St w0 w F) (a p : Nat) {n : Nat} (hn : n ≤ 1048576) : CallK Try.prog .sl 63 #[.int .i64 (a : Int), .int .i64 (p : Int), .int .i64 (n : Int)] w fun (r : Sl) w' => r.len = 8 ∧ St w0 w' ([.row 5 1 r (bys (mk a p n))] :: F) := by
  have hc : cnt n ≤ 1048576 := by unfold cnt; omega
  have hc1 := cnt_pos n
  refine T63.calls ?_
  unfold T63
  refine JoinX.mk (fun jv w' => jv.1 = (if p + 1 = cnt n then 2 else 1) ∧ w' = w) ?_ ?_
  · rintro ⟨v, ⟨⟩⟩ w' ⟨hj, hw⟩
    dsimp only at hj ⊢
    rw [hw]
    refine h.newS 1 (bs31_8 _ _ _ _ _ _ _ _ _) rfl rfl rfl ?_
    intro u w hul huc _ h
    refine ⟨hul, ?_⟩
    have e : [Value.int .u8 (IntKind.u8.wrap a), .int .u8 (IntKind.u8.wrap (Int.fdiv a 256)), .int .u8 (IntKind.u8.wrap (Int.fdiv a 65536)), .int .u8 (IntKind.u8.wrap (Int.fdiv a 16777216)), .int .u8 (IntKind.u8.wrap p), .int .u8 (IntKind.u8.wrap n), .int .u8 (IntKind.u8.wrap (Int.fdiv n 256)), .int .u8 (IntKind.u8.wrap v)] = bys (mk a p n) := by
      have hv : by8 v = (if p + 1 = cnt n then 2 else 1) := by
        rw [hj]; split <;> rfl
      simp only [mk, ← hv, by8_v, bys, List.map_cons, List.map_nil]
    rw [← e]; exact h
  · intro k hk
    refine (count_ok (n := n) (by omega)).mono ?_
    rintro r w' ⟨hw, rfl⟩
    rw [hw, wr (by omega), SplitB_iff]
    refine ⟨fun hz => ?_, fun hz => ?_⟩
    · have hz : (p : Int) = cnt n - 1 := by simpa using hz
      exact hk _ _ ⟨by rw [if_pos (by omega)], rfl⟩
    · have hz : ¬ (p : Int) = cnt n - 1 := by simpa using hz
      exact hk _ _ ⟨by rw [if_neg (by omega)], rfl⟩
theorem alike_ok {p q : Sl} {a b : List UInt8} (hp : Rd w p 1 (bys a)) (hq : Rd w q 1 (bys b)) {i : Nat} (hi : i + b.length ≤ a.length) (ha : a.length ≤ 4611686018427387904) : CallK Try.prog .bool 66 #[.slice p.a p.len p.cap, .int .i64 (i : Int), .slice q.a q.len q.cap] w fun (r : Bool) w' => Upd w w' nobody ∧ r = decide ((a.drop i).take b.length = b) := by
  have h1 := hp.bys_len
  have h2 := hq.bys_len
  refine T66.calls ?_
  unfold T66
  refine LoopX.mk (fun st w' => ∃ k : Nat, k ≤ b.length ∧ st.1 = (k : Int) ∧ (a.drop i).take k = b.take k ∧ Upd w w' nobody) (fun st => b.length - st.1.toNat) ⟨0, Nat.zero_le _, rfl, rfl, Upd.refl _ _⟩ ?_
  rintro ⟨_, ⟨⟩⟩ w' ⟨k, hk, rfl, he, hu⟩ K hK
  dsimp only at hK ⊢
  have hud : Upd w w'.drew nobody := hu.trans (Upd.drew _ _)
  have hp' := hp.upd hud fun _ _ h => h
  have hq' := hq.upd hud fun _ _ h => h
  rw [SplitB_iff]
  refine ⟨fun hz => ?_, fun hz => ?_⟩
  · have hz : k < b.length := by have := of_decide_eq_true hz; omega
    rw [wr (x := (i : Int) + k) (by omega)]
    refine hp'.idxR (i + k) (by omega) (by omega) ?_
    intro b1 o1 hb1
    refine hp'.elR hb1 ((i + k) * 1) rfl (kd := .int .u8) (x := ((a[i + k]'(by omega)).toNat : Int)) (by rw [Nat.mul_one, bys_get (by omega)]; rfl) ?_
    refine hq'.idxR k rfl (by omega) ?_
    intro b2 o2 hb2
    refine hq'.elR hb2 (k * 1) rfl (kd := .int .u8) (x := ((b[k]'hz).toNat : Int)) (by rw [Nat.mul_one, bys_get hz]; rfl) ?_
    have e1 : (a.drop i).take (k + 1) = (a.drop i).take k ++ [a[i + k]'(by omega)] := by
      rw [List.take_succ_eq_append_getElem (by simp; omega)]; simp
    have e2 : b.take (k + 1) = b.take k ++ [b[k]] := by rw [List.take_succ_eq_append_getElem hz]
    rw [SplitB_iff]
    refine ⟨fun hy => ?_, fun hy => ?_⟩
    · refine ⟨hud, ?_⟩
      have hy : ¬ a[i + k]'(by omega) = b[k] := by
        intro e; rw [e] at hy; simp at hy
      refine (decide_eq_false ?_).symm
      intro e
      have := congrArg (List.take (k + 1)) e
      rw [List.take_take, Nat.min_eq_left (by omega), e1, e2, he] at this
      have := List.append_cancel_left this
      simp at this
      exact hy this
    · have hy : a[i + k]'(by omega) = b[k] := by
        have : ((a[i + k]'(by omega)).toNat : Int) = (b[k].toNat : Int) := by simpa using hy
        exact UInt8.toNat_inj.1 (by omega)
      exact hK _ _ ⟨k + 1, hz, by dsimp only; rw [wr (by omega)]; omega, by rw [e1, e2, he, hy], hud⟩ (by dsimp only; rw [wr (by omega)]; omega)
  · have hz : k = b.length := by have := of_decide_eq_false hz; omega
    subst hz
    refine ⟨hu, ?_⟩
    rw [List.take_length] at he
    rw [he]; simp

/-! ### an image, sector by sector -/
theorem flat_drop {l : List (List UInt8)} (h : ∀ x ∈ l, x.length = 512) (k : Nat) : l.flatten.drop (512 * k) = (l.drop k).flatten := by
  induction k generalizing l with
  | zero => simp
  | succ k ih =>
    cases l with
    | nil => simp
    | cons x r =>
      have hx := h x (List.mem_cons_self ..)
      rw [List.flatten_cons, List.drop_succ_cons, ← ih fun y hy => h y (List.mem_cons_of_mem _ hy), show 512 * (k + 1) = x.length + 512 * k by omega, ← List.drop_drop, List.drop_left]
theorem flat_at {l : List (List UInt8)} (h : ∀ x ∈ l, x.length = 512) {k i m : Nat} (hk : k < l.length) (him : i + m ≤ 512) : (l.flatten.drop (512 * k + i)).take m = (l[k].drop i).take m := by
  have hx := h _ (List.getElem_mem hk)
  rw [← List.drop_drop, flat_drop h, List.drop_eq_getElem_cons hk, List.flatten_cons, List.drop_append_of_le_length (by omega), List.take_append_of_le_length (by simp; omega)]
theorem flat_get {l : List (List UInt8)} (h : ∀ x ∈ l, x.length = 512) {k i : Nat} (hk : k < l.length) (hi : i < 512) : l.flatten[512 * k + i]? = l[k][i]? := by
  have := congrArg (fun x => x[0]?) (flat_at h hk (i := i) (m := 1) (by omega))
  simpa using this

/-- A shorter view of an owned row: no longer than it is. -/
theorem _root_.Go.Fw.Ow.cut {w : World} {base : Nat} {E : TypeId} {sz : Nat} {s : Sl} {vs : List Value} (h : Ow w base E sz s vs) {n : Nat} (hn : n ≤ s.len) (ha : n = 0 → s.a ≠ none ∨ s = ⟨none, 0, 0⟩) : Ow w base E sz ⟨s.a, n, n⟩ (vs.take (n * sz)) := by
  have hle : n * sz ≤ s.len * sz := Nat.mul_le_mul_right _ hn
  have hl := h.1
  refine ⟨by simp; omega, ?_⟩
  rcases h.2 with rfl | ⟨g, o, cs, ha, hb, hg, h2, h3, h4, h5⟩
  · left; simp at hn; subst hn; rfl
  · right
    have hle2 : n * sz ≤ s.cap * sz := Nat.mul_le_mul_right _ (by omega)
    refine ⟨g, o, cs, ha, hb, hg, Nat.le_refl _, by dsimp only; omega, by dsimp only; omega, ?_⟩
    rw [← h5, List.take_take]; congr 1; dsimp only; omega
theorem _root_.Go.Fw.St.cutR {k i : Nat} (h : St w0 w G) {e : TypeId} {sz : Nat} {s : Sl} {vs : List Value} (he : Has G k i (.row e sz s vs)) {n : Nat} (hn : n ≤ s.len) : St w0 w (updG G k i [.row e sz ⟨s.a, n, n⟩ (vs.take (n * sz))]) := by
  have ho := h.ow he
  refine h.change1 he (Upd.refl _ _) ⟨Ow.cut ho hn (fun _ => ?_), fun v hv => h.one1 he v (List.mem_of_mem_take hv)⟩ fun j hj => .inl hj
  rcases ho.2 with rfl | ⟨g, o, cs, ha, _⟩
  · exact .inr rfl
  · exact .inl (by rw [ha]; simp)

theorem runN_sHM {P : Program} {t e : TypeId} {sz by_ : Nat} [et : Et P t e sz by_] {s : Sl} {k km : IntKind} {h m : Int} (n : Nat) (hh : h = (n : Int)) (hm : m = (n : Int)) (hc : n ≤ s.cap) {K : Sl → World → Prop} (hk : K ⟨s.a, n, n⟩ w) :
    RunN P .sl (V (Instr.sliceAt t (.slice s.a s.len s.cap) none (some (.int k h)) (some (.int km m)))) w K := by
  subst hh; subst hm
  refine RunN.of (kd := .sl) (x := ⟨s.a, n, n⟩) ?_ hk
  rw [run_sliceAt_slice w t _ _ _ _ (elem_of et.h), run_slice_hm w t s.a s.len s.cap (elem_of et.h) k km n n (by omega) (by omega) (by omega), run_size et.h]
  have e : (if n = 0 then s.a else s.a.map (·.add (0 * sz))) = s.a := by
    split
    · rfl
    · cases s.a <;> simp [Addr.add]
  simp only [sliced, Int.toNat_natCast, Nat.sub_zero]
  show Result.ok (Value.slice (if n = 0 then s.a else s.a.map (·.add (0 * sz))) n n) w = _
  rw [e]
  rfl

/-- What the document's loop over places knows. -/
def SInv (L : List (List UInt8)) (a p n : Nat) (acc : List UInt8) : Prop :=
  acc.length = p * 496 ∧ p ≤ cnt n ∧ recAt a L = (recGo a n (L.drop p) p (cnt n - p)).map (acc.take n ++ ·)
theorem stands_st (h : St w0 w G) {ims : List (List UInt8)} (h5 : ∀ x ∈ ims, x.length = 512) (hsm : ims.length ≤ 65536) {p : Sl} (hp : SeesG w0 G p 1 (bys ims.flatten)) (i a : Nat) (hi : i ≤ ims.length) (ha : a ≤ 1048576) :
    CallK Try.prog (.tup (.cons .sl (.cons .bool .nilT))) 60 #[.slice p.a p.len p.cap, .int .i64 (i : Int), .int .i64 (a : Int)] w fun (r : Sl × Bool × Unit) w' =>
      (∃ b, recAt a (ims.drop i) = some b ∧ r.2.1 = true ∧ r.1.len = b.length ∧ St w0 w' ([.row 5 1 r.1 (bys b)] :: G)) ∨ (recAt a (ims.drop i) = none ∧ r.2.1 = false ∧ St w0 w' G) := by
  have hfl := len_flat h5
  have hpl := (hp _ h).bys_len
  rw [hfl] at hpl
  have hpi : (p.len : Int) = ((512 * ims.length : Nat) : Int) := by rw [hpl]
  have e1 : Int.tdiv (p.len : Int) 512 = (ims.length : Int) := by rw [hpi, Int.tdiv_eq_ediv_of_nonneg (by omega)]; omega
  refine T60.calls ?_
  unfold T60
  rw [e1, wr (x := (ims.length : Int)) (by omega), wr (x := (ims.length : Int) - i) (by omega), SplitB_iff]
  refine ⟨fun hz => ?_, fun hz => ?_⟩
  · have hz : i = ims.length := by have := of_decide_eq_true hz; omega
    right
    refine ⟨?_, rfl, h⟩
    rw [hz, List.drop_length]; rfl
  have hz : i < ims.length := by have := of_decide_eq_false hz; omega
  generalize hL : ims.drop i = L
  have hLl : L.length = ims.length - i := by rw [← hL]; simp
  have hL5 : ∀ s ∈ L, s.length = 512 := fun s hs => h5 s (List.mem_of_mem_drop (hL ▸ hs))
  have hLc : L = ims[i] :: ims.drop (i + 1) := by rw [← hL]; exact List.drop_eq_getElem_cons hz
  have hi5 := h5 _ (List.getElem_mem hz)
  have hpd := hp _ h.drew
  rw [wr (x := (i : Int) * 512) (by omega), wr (x := (i : Int) * 512 + 5) (by omega), wr (x := (i : Int) * 512 + 6) (by omega)]
  refine hpd.idxR (512 * i + 5) (by omega) (by omega) ?_
  intro b1 o1 hb1
  refine hpd.elR hb1 ((512 * i + 5) * 1) rfl (kd := .int .u8) (x := ((ims[i].getD 5 0).toNat : Int)) ?_ ?_
  · rw [Nat.mul_one]
    simp only [bys, List.getElem?_map, flat_get h5 hz (show 5 < 512 by decide)]
    simp [List.getD_eq_getElem?_getD, List.getElem?_eq_getElem (show 5 < ims[i].length by omega), Kd.val, u8v]
  refine hpd.idxR (512 * i + 6) (by omega) (by omega) ?_
  intro b2 o2 hb2
  refine hpd.elR hb2 ((512 * i + 6) * 1) rfl (kd := .int .u8) (x := ((ims[i].getD 6 0).toNat : Int)) ?_ ?_
  · rw [Nat.mul_one]
    simp only [bys, List.getElem?_map, flat_get h5 hz (show 6 < 512 by decide)]
    simp [List.getD_eq_getElem?_getD, List.getElem?_eq_getElem (show 6 < ims[i].length by omega), Kd.val, u8v]
  have g1 := (ims[i].getD 5 0).toNat_lt
  have g2 := (ims[i].getD 6 0).toNat_lt
  have en : IntKind.i64.wrap (IntKind.i64.wrap ((ims[i].getD 5 0).toNat : Int) + IntKind.i64.wrap (256 * IntKind.i64.wrap ((ims[i].getD 6 0).toNat : Int))) = ((hdr ims[i] : Nat) : Int) := by
    rw [i64_byte, i64_byte, wr (x := 256 * ((ims[i].getD 6 0).toNat : Int)) (by omega), wr (by omega)]
    simp only [hdr]; omega
  rw [en]
  have hn : hdr ims[i] ≤ 65535 := by unfold hdr; omega
  have hrec : recAt a L = if hdr ims[i] ≤ 8192 then recGo a (hdr ims[i]) L 0 (cnt (hdr ims[i])) else none := by rw [hLc]; rfl
  generalize hdr ims[i] = n at hn hrec
  have hcn : cnt n ≤ 1000 := by unfold cnt; omega
  refine JoinX.mk (fun jv w' => jv.1 = !(decide (n ≤ 8192) && decide (cnt n ≤ L.length)) ∧ St w0 w' G) ?_ ?_
  · rintro ⟨_, ⟨⟩⟩ w ⟨hj, h⟩
    dsimp only at hj h ⊢
    subst hj
    rw [SplitB_iff]
    refine ⟨fun hy => ?_, fun hy => ?_⟩
    · have hy : ¬ (n ≤ 8192 ∧ cnt n ≤ L.length) := by rintro ⟨h1, h2⟩; simp [h1, h2] at hy
      right
      refine ⟨?_, rfl, h⟩
      cases hr : recAt a L with
      | none => rfl
      | some b =>
        exfalso
        rw [hr] at hrec
        by_cases h8 : n ≤ 8192
        · rw [if_pos h8] at hrec
          have := (recGo_len hL5 hrec.symm (by omega)).2
          exact hy ⟨h8, this⟩
        · rw [if_neg h8] at hrec; cases hrec
    · have hy : n ≤ 8192 ∧ cnt n ≤ L.length := by simpa using hy
      rw [if_pos hy.1] at hrec
      have hc17 := cnt_le hy.1
      have h := h.nilrow 5 1
      refine LoopX.mk (fun st w' => ∃ (k : Nat) (acc : List UInt8), st.2.1 = (k : Int) ∧ SInv L a k n acc ∧ st.1.len = acc.length ∧ St w0 w' ([.row 5 1 st.1 (bys acc)] :: G)) (fun st => 17 - st.2.1.toNat) ⟨0, [], rfl, ⟨by simp, Nat.zero_le _, by rw [hrec]; simp⟩, rfl, h⟩ ?_
      clear h hrec
      rintro ⟨s, _, ⟨⟩⟩ w ⟨k, acc, rfl, ⟨hal, hk, hrec⟩, hsl, h⟩ K hK
      dsimp only at h hK hsl ⊢
      refine (count_ok (n := n) (by omega)).mono ?_
      rintro r w' ⟨hw, rfl⟩
      rw [hw, SplitB_iff]
      refine ⟨fun hx => ?_, fun hx => ?_⟩
      · have hx : k < cnt n := by have := of_decide_eq_true hx; omega
        have hkl := cnt_lt hx
        have hkL : k < L.length := by omega
        have hik : i + k < ims.length := by omega
        have hLk : L[k] = ims[i + k] := by simp [← hL]
        have hk5 := hL5 _ (List.getElem_mem hkL)
        refine (rmark_st h a k (n := n) (by omega)).mono ?_
        rintro m w ⟨hm, h⟩
        rw [wr (x := (i : Int) + k) (by omega), wr (x := ((i : Int) + k) * 512) (by omega), wr (x := ((i : Int) + k) * 512 + 512) (by omega), wr (x := ((i : Int) + k) * 512 + 512 - 8) (by omega), wr (x := ((i : Int) + k) * 512 + 8) (by omega)]
        have f1 : ((i : Int) + k) * 512 = ((512 * (i + k) : Nat) : Int) := by omega
        have f2 : ((i : Int) + k) * 512 + 512 - 8 = ((512 * (i + k) + 504 : Nat) : Int) := by omega
        have f3 : ((i : Int) + k) * 512 + 8 = ((512 * (i + k) + 8 : Nat) : Int) := by omega
        have hLd : L.drop k = L[k] :: L.drop (k + 1) := List.drop_eq_getElem_cons hkL
        have hstep : cnt n - k = (cnt n - (k + 1)) + 1 := by omega
        rw [hLd, hstep] at hrec
        simp only [recGo] at hrec
        refine JoinX.mk (fun jv w' => jv.1 = !(goodS a k n L[k]) ∧ St w0 w' ([.row 5 1 s (bys acc)] :: G)) ?_ ?_
        · rintro ⟨_, ⟨⟩⟩ w ⟨hj, h⟩
          dsimp only at hj h ⊢
          subst hj
          rw [SplitB_iff]
          refine ⟨fun hg => ?_, fun hg => ?_⟩
          · have hg : goodS a k n L[k] = false := by simpa using hg
            right
            refine ⟨?_, rfl, h.drop 0⟩
            rw [hrec, hg]; rfl
          · have hg : goodS a k n L[k] = true := by simpa using hg
            rw [hg, if_pos rfl] at hrec
            rw [f2, f3]
            have hpr := hp _ (h.drop 0)
            have hpc := hpr.2.2
            refine RunN.sLH (s := p) (512 * (i + k) + 8) (512 * (i + k) + 504) rfl rfl (by omega) (by omega) ?_
            have hr := hpr.subS (lo := 512 * (i + k) + 8) (hi := 512 * (i + k) + 504) (by omega) (by omega)
            have e4 : ((bys ims.flatten).drop ((512 * (i + k) + 8) * 1)).take ((512 * (i + k) + 504 - (512 * (i + k) + 8)) * 1) = bys ((L[k].drop 8).take 496) := by
              rw [bys_drop, bys_take, show 512 * (i + k) + 504 - (512 * (i + k) + 8) = 496 by omega, flat_at h5 hik (by decide), hLk]
            rw [e4] at hr
            have hul : (subS p (512 * (i + k) + 8) (512 * (i + k) + 504) 1).len = 496 := by simp only [subS]; omega
            have hcl : ((L[k].drop 8).take 496).length = 496 := by simp; omega
            refine h.app 0 0 ⟨_, rfl, rfl⟩ hr (bys_one _) (by simp only [maxLen]; omega) (by omega) ?_
            intro s' w hs' h
            dsimp only [updG, setO] at h
            rw [← bys_append] at h
            refine hK _ _ ⟨k + 1, acc ++ (L[k].drop 8).take 496, by dsimp only; rw [wr (by omega)]; omega, ⟨by rw [List.length_append, hcl, hal]; omega, by omega, ?_⟩, by dsimp only; rw [hs', hul, List.length_append, hcl]; omega, h⟩ (by dsimp only; rw [wr (by omega)]; omega)
            rw [hrec, Option.map_map]
            congr 1
            funext x
            have : (acc ++ (L[k].drop 8).take 496).take n = acc.take n ++ chunkS n k L[k] := by
              rw [List.take_append, hal]
              congr 1
              rw [chunkS, List.take_take, Nat.min_comm]
            simp only [Function.comp_apply, this, List.append_assoc]
        · intro k5 hk5'
          have hpr := hp _ ((h.drop 0).drop 0)
          have hmr := h.rd (k := 0) (i := 0) ⟨_, rfl, rfl⟩
          rw [f1]
          refine (alike_ok hpr hmr (i := 512 * (i + k)) (by rw [hfl, mk_len]; omega) (by rw [hfl]; omega)).mono ?_
          rintro r w ⟨hu, rfl⟩
          have h := h.keep hu
          have ea : (ims.flatten.drop (512 * (i + k))).take 8 = L[k].take 8 := by
            have := flat_at h5 hik (i := 0) (m := 8) (by decide)
            rw [hLk]; simpa using this
          rw [mk_len, ea, SplitB_iff]
          refine ⟨fun hg => ?_, fun hg => ?_⟩
          · have hg : ¬ L[k].take 8 = mk a k n := by simpa using hg
            refine hk5' _ _ ⟨?_, h.drop 0⟩
            simp [goodS, hg]
          · have hg : L[k].take 8 = mk a k n := by simpa using hg
            have hpr := hp _ ((h.drop 0).drop 0)
            have hmr := h.rd (k := 0) (i := 0) ⟨_, rfl, rfl⟩
            rw [← f1, f2]
            refine (alike_ok hpr hmr (i := 512 * (i + k) + 504) (by rw [hfl, mk_len]; omega) (by rw [hfl]; omega)).mono ?_
            rintro r w ⟨hu, rfl⟩
            have h := h.keep hu
            have eb : (ims.flatten.drop (512 * (i + k) + 504)).take 8 = L[k].drop 504 := by
              have := flat_at h5 hik (i := 504) (m := 8) (by decide)
              rw [this, ← hLk, List.take_of_length_le (by simp; omega)]
            rw [mk_len, eb]
            refine hk5' _ _ ⟨?_, h.drop 0⟩
            simp [goodS, hg]
      · have hx : k = cnt n := by have := of_decide_eq_false hx; omega
        have hnk : n ≤ acc.length := by rw [hal, hx]; unfold cnt; omega
        have hcap := (h.rd (k := 0) (i := 0) ⟨_, rfl, rfl⟩).2.2
        refine runN_sHM (s := s) n rfl rfl (by omega) ?_
        have h := h.cutR (k := 0) (i := 0) ⟨_, rfl, rfl⟩ (n := n) (by omega)
        rw [bys_take] at h
        have e0 : cnt n - k = 0 := by omega
        left
        rw [e0] at hrec
        simp only [recGo, Option.map_some, List.append_nil] at hrec
        exact ⟨_, hrec, rfl, by simp; omega, h⟩
  · intro k1 hk1
    rw [SplitB_iff]
    refine ⟨fun hy => ?_, fun hy => ?_⟩
    · have hy : ¬ n ≤ 8192 := by have := of_decide_eq_true hy; omega
      refine hk1 _ _ ⟨?_, h.drew⟩
      dsimp only
      rw [decide_eq_false hy]; rfl
    · have hy : n ≤ 8192 := by have := of_decide_eq_false hy; omega
      refine (count_ok (n := n) (by omega)).mono ?_
      rintro r w' ⟨hw, rfl⟩
      rw [hw]
      refine hk1 _ _ ⟨?_, h.drew⟩
      dsimp only
      have e9 : decide ((cnt n : Int) > (ims.length : Int) - i) = !decide (cnt n ≤ L.length) := by
        rw [← decide_not]; exact decide_eq_decide.2 (by omega)
      rw [decide_eq_true hy, Bool.true_and]
      exact e9
end Go.Proofs.Ytimebochhbfkgaa
