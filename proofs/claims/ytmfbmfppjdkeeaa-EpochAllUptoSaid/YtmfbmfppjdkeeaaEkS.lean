/- A script over two machines in turns. -/
import Derived.Test.YtmfbmfppjdkeeaaEkR
namespace Go.Proofs.Ytmfbmfppjdkeeaa
open Go Go.Fw Go.RowKit
set_option linter.unusedVariables false
set_option linter.unusedSimpArgs false
set_option maxRecDepth 4000
set_option maxHeartbeats 4000000
variable {w0 w : World} {F G : Grps}

instance : Sc Try.prog 41 := ⟨by kernel_rfl⟩
instance : Ag Try.prog 46 2 := ⟨by kernel_rfl⟩
instance : Ar Try.prog 46 2 := Ar.of (e := 41) (by kernel_rfl) (by kernel_rfl)
instance : NewC Try.prog 46 [.pointer none, .pointer none] := ⟨fun _ => by kernel_rfl⟩
theorem bit1 (x : Int) : ∃ j : Nat, j < 2 ∧ bitAnd .i64 x 1 = (j : Int) := by
  refine ⟨(BitVec.ofInt 64 x &&& BitVec.ofInt 64 1).toNat, ?_, ?_⟩
  · have h := Nat.and_le_right (n := (BitVec.ofInt 64 x).toNat) (m := (BitVec.ofInt 64 1).toNat)
    rw [BitVec.toNat_and]
    have h1 : (BitVec.ofInt 64 1).toNat = 1 := by decide
    omega
  · have h := Nat.and_le_right (n := (BitVec.ofInt 64 x).toNat) (m := (BitVec.ofInt 64 1).toNat)
    have h1 : (BitVec.ofInt 64 1).toNat = 1 := by decide
    show IntKind.i64.wrap ((BitVec.ofInt 64 x &&& BitVec.ofInt 64 1).toNat : Nat) = _
    rw [BitVec.toNat_and]
    exact wr (by omega)
def pE (b : Nat) : Option (Em × Rm) → List Ent
  | none => [.cel b 45 [.pointer none, .pointer none]]
  | some x => emE x.1 [] ++ (rmE x.2 ++ cpE b x.1 x.2)
def PrO (x : Option (Em × Rm)) (N : Nat) : Prop := ∀ y, x = some y → PrW y.1 y.2 N
theorem PrO.mono {x : Option (Em × Rm)} {N M : Nat} (h : PrO x N) (hm : N ≤ M) : PrO x M := fun y hy => (h y hy).mono hm
theorem pE_open {b : Nat} {e : Em} {r : Rm} : St w0 w (pE b (some (e, r)) :: F) ↔ St w0 w (emE e [] :: rmE r :: cpE b e r :: F) := by
  constructor
  · exact fun h => h.perm (by simp [pE])
  · exact fun h => h.perm (by simp [pE])
theorem begin3_st {b : Nat} (h : St w0 w (pE b none :: F)) (me n : Int) : CallK Try.prog .bool 15 #[.pointer (some ⟨b, 0, none⟩), .int .i64 me, .int .i64 n] w fun (v : Bool) w' => v = true ∧ ∃ x, PrO x 0 ∧ St w0 w' (pE b x :: F) := by
  refine (begin2_st h me n).mono ?_
  rintro v w1 ⟨rfl, h | ⟨e, r, hp, h⟩⟩
  · exact ⟨rfl, none, fun y hy => (by cases hy), h⟩
  · exact ⟨rfl, some (e, r), fun y hy => (by cases hy; exact hp), pE_open.2 h⟩
def plG (ab b0 b1 : Nat) (x0 x1 : Option (Em × Rm)) (F : Grps) : Grps := [.cel ab 46 [.pointer (some ⟨b0, 0, none⟩), .pointer (some ⟨b1, 0, none⟩)]] :: pE b0 x0 :: pE b1 x1 :: F
theorem plays_st {s : Sl} {os : List Ca} (hs : Rd w s 12 (cavs os)) (hl : os.length ≤ 1048576) (me n other others lo hi : Int) (late : Bool) :
    CallK Try.prog .bool 9 #[.int .i64 me, .int .i64 n, .int .i64 other, .int .i64 others, .slice s.a s.len s.cap, .int .i64 lo, .int .i64 hi, .bool late] w fun (v : Bool) w' => v = true ∧ Upd w w' nobody := by
  have hsl : s.len = os.length := by have := hs.1; rw [flat_len cav_len] at this; omega
  refine T9.calls ?_
  unfold T9
  have h := St.init w
  refine h.newB run_boxA rfl ?_
  intro b0 w1 h
  refine h.newB run_boxA rfl ?_
  intro b1 w2 h
  refine h.newB (NewC.run _) rfl ?_
  intro ab w3 h
  refine h.storA 0 0 ⟨_, rfl, rfl⟩ (t' := 46) (n := 2) (j := 0) rfl (ds := [.pointer (some ⟨b0, 0, none⟩), .pointer (some ⟨b1, 0, none⟩)]) rfl rfl rfl ?_
  intro w4 h
  have h : St w w4 (plG ab b0 b1 none none []) := h.ord 3 [0, 2, 1]
  refine JoinX.mk (fun (y : Bool × Unit) w' => y.1 = false ∧ ∃ x0 x1, PrO x0 0 ∧ PrO x1 0 ∧ St w w' (plG ab b0 b1 x0 x1 [])) ?_ ?_
  · rintro ⟨y, ⟨⟩⟩ w5 ⟨hy, x0, x1, hp0, hp1, h⟩
    dsimp only at hy
    subst hy
    rw [SplitB_iff]
    refine ⟨fun hf => (by cases hf), fun _ => ?_⟩
    refine kp0_box h late ?_
    intro kb w6 h
    have h := h.ord 4 [1, 2, 3, 0]
    have h : St w w6 (plG ab b0 b1 x0 x1 (kpE { kp0 kb with late := late } :: [] :: [] :: [] :: [] :: [])) := h.perm (by simp [pick, nthO, dropO, plG])
    have hkw : KpW { kp0 kb with late := late } 0 [] [] [] [] := by
      cases late with
      | false => exact .inl ⟨rfl, kpM0 kb⟩
      | true => exact .inr ⟨rfl, [], [], [], [], rfl, rfl, rfl, rfl, ⟨rfl, rfl, rfl, rfl, rfl, rfl, fun x hx => (by cases hx), fun x hx => (by cases hx), Nat.le_refl _, Nat.le_refl _⟩⟩
    refine LoopX.mk (fun st w' => ∃ (i : Nat) (x0 x1 : Option (Em × Rm)) (k : Kp) (gA gW gE gX : List Ent), st = ((i : Int), ()) ∧ i ≤ os.length ∧ PrO x0 (4 * i) ∧ PrO x1 (4 * i) ∧ k.cb = kb ∧ KpW k (2 * i) gA gW gE gX ∧ St w w' (plG ab b0 b1 x0 x1 (kpE k :: gA :: gW :: gE :: gX :: []))) (fun st => ((os.length : Int) - st.1).toNat)
      ⟨0, x0, x1, _, _, _, _, _, rfl, Nat.zero_le _, hp0, hp1, rfl, hkw, h⟩ ?_
    clear h hp0 hp1 hkw
    rintro _ w7 ⟨i, x0, x1, k, gA, gW, gE, gX, rfl, hi, hp0, hp1, hkb, hkw, h⟩ k4 hk4
    dsimp only at hk4 ⊢
    rw [SplitB_iff]
    refine ⟨fun hc => ?_, fun hc => ?_⟩
    · have hc : i < os.length := by have : (i : Int) < (s.len : Int) := of_decide_eq_true hc; omega
      have hem : IntKind.i64.wrap ((i : Int) + 1) = ((i + 1 : Nat) : Int) := by rw [wr (by omega)]; omega
      rw [hem]
      have hpk : (some (⟨kb, 0, none⟩ : Addr)) = k.p := by show some _ = some _; rw [hkb]
      rw [hpk]
      refine JoinX.mk (fun (_ : Unit) w' => ∃ (x0 x1 : Option (Em × Rm)) (k' : Kp) (gA gW gE gX : List Ent), PrO x0 (4 * (i + 1)) ∧ PrO x1 (4 * (i + 1)) ∧ k'.cb = k.cb ∧ KpW k' (2 * (i + 1)) gA gW gE gX ∧ St w w' (plG ab b0 b1 x0 x1 (kpE k' :: gA :: gW :: gE :: gX :: []))) ?_ ?_
      · rintro ⟨⟩ w8 ⟨x0, x1, k', gA, gW, gE, gX, g1, g2, g3, g4, h⟩
        exact hk4 _ _ ⟨i + 1, x0, x1, k', gA, gW, gE, gX, rfl, by omega, g1, g2, g3.trans hkb, g4, h⟩ (by dsimp only; omega)
      · intro k5 hk5
        have hro : ∀ {w' : World} {G : Grps}, St w w' G → Rd w' s 12 (cavs os) := fun h => h.old hs
        refine (hro h).idxK i rfl (by omega) ?_
        intro g o ha
        refine (hro h).el ha (i * 12 + 0) (by rw [add_lit']; rfl) (kd := .int .i64) (x := os[i].who) (flat_cell cav_len hc 0 (by decide)) ?_
        obtain ⟨j, hj2, hj⟩ := bit1 os[i].who
        rw [hj]
        refine RunN.arr rfl j rfl hj2 ?_
        obtain ⟨bj, bo, xj, xo, hld, hst, hpj, hpo, hback⟩ : ∃ (bj bo : Nat) (xj xo : Option (Em × Rm)), nthO ([.pointer (some ⟨b0, 0, none⟩), .pointer (some ⟨b1, 0, none⟩)] : List Value) (0 + j) = some (.pointer (some ⟨bj, 0, none⟩)) ∧
            St w w7 ([.cel ab 46 [.pointer (some ⟨b0, 0, none⟩), .pointer (some ⟨b1, 0, none⟩)]] :: pE bj xj :: pE bo xo :: kpE k :: gA :: gW :: gE :: gX :: []) ∧ PrO xj (4 * i) ∧ PrO xo (4 * i) ∧
            (∀ (w' : World) (y : Option (Em × Rm)) (k' : Kp) (gA gW gE gX : List Ent), PrO y (4 * (i + 1)) → k'.cb = k.cb → KpW k' (2 * (i + 1)) gA gW gE gX → St w w' ([.cel ab 46 [.pointer (some ⟨b0, 0, none⟩), .pointer (some ⟨b1, 0, none⟩)]] :: pE bj y :: pE bo xo :: kpE k' :: gA :: gW :: gE :: gX :: []) → k5 () w') := by
          rcases (by omega : j = 0 ∨ j = 1) with rfl | rfl
          · exact ⟨b0, b1, x0, x1, rfl, h, hp0, hp1, fun w' y k' gA gW gE gX g1 g2 g3 h => hk5 _ _ ⟨y, x1, k', gA, gW, gE, gX, g1, hp1.mono (by omega), g2, g3, h⟩⟩
          · exact ⟨b1, b0, x1, x0, rfl, h.ord 3 [0, 2, 1], hp1, hp0, fun w' y k' gA gW gE gX g1 g2 g3 h => hk5 _ _ ⟨x0, y, k', gA, gW, gE, gX, hp0.mono (by omega), g1, g2, g3, h.ord 3 [0, 2, 1]⟩⟩
        clear h hp0 hp1
        refine hst.loadB 0 0 ⟨_, rfl, rfl⟩ rfl (kd := .ptr) (x := some ⟨bj, 0, none⟩) hld ?_
        refine JoinX.mk (fun (y : Bool × Unit) w' => y.1 = xj.isNone ∧ St w w' ([.cel ab 46 [.pointer (some ⟨b0, 0, none⟩), .pointer (some ⟨b1, 0, none⟩)]] :: pE bj xj :: pE bo xo :: kpE k :: gA :: gW :: gE :: gX :: [])) ?_ ?_
        · rintro ⟨y, ⟨⟩⟩ w8 ⟨hy, h⟩
          dsimp only at hy
          subst hy
          cases xj with
          | none =>
            rw [SplitB_iff]
            refine ⟨fun _ => ?_, fun hf => (by cases hf)⟩
            refine hback _ none k gA gW gE gX (fun y hy => by cases hy) rfl ?_ h
            rcases hkw with ⟨g1, g2⟩ | ⟨g1, LA, LW, LE, LX, g2, g3, g4, g5, g6⟩
            · exact .inl ⟨g1, g2.mono (by omega)⟩
            · exact .inr ⟨g1, LA, LW, LE, LX, g2, g3, g4, g5, g6.mono (by omega)⟩
          | some x =>
            rw [SplitB_iff]
            refine ⟨fun hf => (by cases hf), fun _ => ?_⟩
            refine (hro h).idxK i rfl (by omega) ?_
            intro g o ha
            refine RunN.of (kd := .agg (.cons (.int .i64) (.cons (.int .i64) (.cons (.int .i64) (.cons (.int .i64) (.cons (.int .i64) (.cons .bool (.cons .bool (.cons (.int .i64) (.cons (.int .i64) (.cons (.int .i64) (.cons (.int .i64) (.cons (.int .i64) .nilT))))))))))))) (x := cat os[i]) ((hro h).run_elA ha (i * 12) rfl (ds := cav os[i]) rfl (flat_at cav_len _ _ hc)) ?_
            obtain ⟨e, r⟩ := x
            have h := h.ord 8 [1, 3, 4, 5, 6, 7, 0, 2]
            have h := pE_open.1 h
            refine (played_st h (hpj _ rfl) (by omega) hkw (by omega) os[i]).mono ?_
            rintro _ w9 ⟨rfl, e', r', k', gA', gW', gE', gX', g1, g2, g3, g4, g5, h⟩
            have h := pE_open.2 h
            have h := h.ord 8 [6, 0, 7, 1, 2, 3, 4, 5]
            refine JoinX.mk (fun (y : Bool × Unit) w' => y.1 = false ∧ St w w' ([.cel ab 46 [.pointer (some ⟨b0, 0, none⟩), .pointer (some ⟨b1, 0, none⟩)]] :: pE bj (some (e', r')) :: pE bo xo :: kpE k' :: gA' :: gW' :: gE' :: gX' :: [])) ?_ ?_
            · rintro ⟨y, ⟨⟩⟩ w10 ⟨hy, h⟩
              dsimp only at hy
              subst hy
              rw [SplitB_iff]
              refine ⟨fun hf => (by cases hf), fun _ => ?_⟩
              exact hback _ (some (e', r')) k' gA' gW' gE' gX' (fun y hy => by cases hy; exact g1.mono (by omega)) g4 g5 h
            · intro k9 hk9
              rw [SplitB_iff]
              exact ⟨fun hf => (by cases hf), fun _ => hk9 _ _ ⟨rfl, h⟩⟩
        · intro k7 hk7
          cases xj with
          | none =>
            refine NilP.mk ?_
            refine hst.loadB 1 0 ⟨_, rfl, rfl⟩ rfl (kd := .ptr) (x := none) rfl ?_
            refine RunN.pEqN ?_
            rw [SplitB_iff]
            exact ⟨fun _ => hk7 _ _ ⟨rfl, hst⟩, fun hf => (by cases hf)⟩
          | some x =>
            obtain ⟨e, r⟩ := x
            refine NilP.mk ?_
            refine hst.loadB 1 6 ⟨_, rfl, rfl⟩ rfl (kd := .ptr) (x := e.p) rfl ?_
            refine RunN.pEqS ?_
            rw [SplitB_iff]
            refine ⟨fun hf => (by cases hf), fun _ => ?_⟩
            refine NilP.mk ?_
            refine hst.loadB 1 6 ⟨_, rfl, rfl⟩ rfl (kd := .ptr) (x := r.p) rfl ?_
            refine RunN.pEqS ?_
            exact hk7 _ _ ⟨rfl, hst⟩
    · have hpk : (some (⟨kb, 0, none⟩ : Addr)) = k.p := by show some _ = some _; rw [hkb]
      rw [hpk]
      have h := h.ord 8 [3, 4, 5, 6, 7]
      refine (all_whole h hkw (by omega)).mono ?_
      rintro v w8 ⟨rfl, hu⟩
      exact ⟨rfl, hu⟩
  · intro k1 hk1
    refine (able_st h).mono ?_
    rintro _ w5 ⟨rfl, h⟩
    rw [SplitB_iff]
    refine ⟨fun hf => (by cases hf), fun _ => ?_⟩
    refine RunN.arr rfl 0 rfl (by decide) ?_
    refine h.loadB 0 0 ⟨_, rfl, rfl⟩ rfl (kd := .ptr) (x := some ⟨b0, 0, none⟩) rfl ?_
    have h := h.ord 3 [1, 0, 2]
    refine (begin3_st h me n).mono ?_
    rintro _ w6 ⟨rfl, x0, hp0, h⟩
    rw [SplitB_iff]
    refine ⟨fun hf => (by cases hf), fun _ => ?_⟩
    have h := h.ord 3 [1, 0, 2]
    refine RunN.arr rfl 1 rfl (by decide) ?_
    refine h.loadB 0 0 ⟨_, rfl, rfl⟩ rfl (kd := .ptr) (x := some ⟨b1, 0, none⟩) rfl ?_
    have h := h.ord 3 [2, 0, 1]
    refine (begin3_st h other others).mono ?_
    rintro _ w7 ⟨rfl, x1, hp1, h⟩
    have h := h.ord 3 [1, 2, 0]
    exact hk1 _ _ ⟨rfl, x0, x1, hp0, hp1, h⟩
end Go.Proofs.Ytmfbmfppjdkeeaa
