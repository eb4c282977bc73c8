/- The shelf: each list is full of a mark of its own, and all that it grew to. -/
import Derived.Test.YtimebochhbfkgaaJkOp
namespace Go.Proofs.Ytimebochhbfkgaa
open Go Go.Fw Go.RowKit
set_option linter.unusedVariables false
set_option linter.unusedSimpArgs false
set_option maxRecDepth 4000
set_option maxHeartbeats 2000000
variable {w0 w : World} {F G : Grps}

instance : Sc Try.prog 40 := ⟨by kernel_rfl⟩
structure Sh where
  b : Nat
  bs : Sl
  L : List (Sl × Nat)
  ms : Sl
  P : List (Sl × Nat × Nat)
def mkb (m : Nat) : UInt8 := by8 ((m % 250 + 1 : Nat) : Int)
theorem mkb_v {m : Nat} (h : m ≤ 1000000000) : IntKind.u8.wrap (IntKind.i64.wrap (Int.tmod (m : Int) 250 + 1)) = ((mkb m).toNat : Int) := by
  rw [Int.tmod_eq_emod_of_nonneg (by omega), wr (by omega)]
  have : (m : Int) % 250 + 1 = ((m % 250 + 1 : Nat) : Int) := by omega
  rw [this]
  exact (by8_n _).symm
def prow (x : Sl × Nat × Nat) : Ent := .row 5 1 x.1 (bys (List.replicate x.2.1 (mkb x.2.2)))
def ls2 (L : List (Sl × Nat)) : List Value := L.map fun x => .slice x.1.a x.1.len x.1.cap
def li2 (L : List (Sl × Nat)) : List Value := L.map fun x => .int .i64 (x.2 : Int)
def shg (s : Sh) : List Ent := .cel s.b 89 [.bool false, .slice s.bs.a s.bs.len s.bs.cap, .slice none 0 0, .slice s.ms.a s.ms.len s.ms.cap] :: .row 31 1 s.bs (ls2 s.L) :: .row 3 1 s.ms (li2 s.L) :: s.P.map prow
/-- A list of the shelf: it is the beginning of a row that is full of its mark. -/
def GoodE (P : List (Sl × Nat × Nat)) (x : Sl × Nat) : Prop := x.1.len ≤ x.1.cap ∧ (x.2 ≤ 1000000000 ∧ x.1.len ≤ 2000000) ∧ (x.1.len = 0 ∨ ∃ y ∈ P, y.1.a = x.1.a ∧ x.1.len ≤ y.2.1 ∧ y.2.2 = x.2)
def ShOk (s : Sh) : Prop := ∀ x ∈ s.L, GoodE s.P x
variable {s : Sh}
theorem GoodE.mono {P Q : List (Sl × Nat × Nat)} {x : Sl × Nat} (h : GoodE P x) (hq : ∀ y ∈ P, ∃ z ∈ Q, z.1.a = y.1.a ∧ y.2.1 ≤ z.2.1 ∧ z.2.2 = y.2.2) : GoodE Q x := by
  refine ⟨h.1, h.2.1, ?_⟩
  rcases h.2.2 with h0 | ⟨y, hy, h1, h2, h3⟩
  · exact .inl h0
  · obtain ⟨z, hz, z1, z2, z3⟩ := hq y hy
    exact .inr ⟨z, hz, z1.trans h1, by omega, z3.trans h3⟩
theorem shg_bs {k : Nat} (h : St w0 w G) (hk : nthO G k = some (shg s)) : s.bs.len = s.L.length ∧ s.ms.len = s.L.length := by
  have h1 := (h.rd (k := k) (i := 1) ⟨_, hk, rfl⟩).1
  have h2 := (h.rd (k := k) (i := 2) ⟨_, hk, rfl⟩).1
  simp only [ls2, li2, List.length_map] at h1 h2
  omega
theorem goodE_rd {P : List (Sl × Nat × Nat)} {x : Sl × Nat} (hg : GoodE P x) (hr : ∀ y ∈ P, Rd w y.1 1 (bys (List.replicate y.2.1 (mkb y.2.2)))) : Rd w x.1 1 (bys (List.replicate x.1.len (mkb x.2))) := by
  refine ⟨by simp, ?_, hg.1⟩
  rcases hg.2.2 with h0 | ⟨y, hy, h1, h2, h3⟩
  · left; rw [h0]; rfl
  · have h := hr y hy
    rcases h.2.1 with h0 | ⟨b, o, ha, hc⟩
    · left
      have : y.2.1 = 0 := by have := congrArg List.length h0; simpa using this
      have : x.1.len = 0 := by omega
      rw [this]; rfl
    · right
      refine ⟨b, o, by rw [← h1]; exact ha, fun i v hv => hc i v ?_⟩
      have hi : i < x.1.len := by
        have := (List.getElem?_eq_some_iff.1 hv).1
        simpa using this
      rw [← hv]
      simp [bys, hi, show i < y.2.1 by omega, h3]
theorem sh_rd {k : Nat} (h : St w0 w G) (hk : nthO G k = some (shg s)) (ok : ShOk s) {x : Sl × Nat} (hx : x ∈ s.L) : Rd w x.1 1 (bys (List.replicate x.1.len (mkb x.2))) := by
  refine goodE_rd (ok x hx) fun y hy => ?_
  have : prow y ∈ shg s := List.mem_cons_of_mem _ (List.mem_cons_of_mem _ (List.mem_cons_of_mem _ (List.mem_map.2 ⟨y, hy, rfl⟩)))
  exact (h.memG k hk this).1.rd
theorem ls2_at {L : List (Sl × Nat)} {i : Nat} (h : i < L.length) : (ls2 L)[i * 1]? = some (Value.slice L[i].1.a L[i].1.len L[i].1.cap) := by rw [Nat.mul_one]; simp [ls2, h]
theorem li2_at {L : List (Sl × Nat)} {i : Nat} (h : i < L.length) : (li2 L)[i * 1]? = some (Value.int .i64 (L[i].2 : Int)) := by rw [Nat.mul_one]; simp [li2, h]
theorem ls2_snoc (L : List (Sl × Nat)) (x : Sl × Nat) : ls2 (L ++ [x]) = ls2 L ++ [.slice x.1.a x.1.len x.1.cap] := by simp [ls2]
theorem li2_snoc (L : List (Sl × Nat)) (x : Sl × Nat) : li2 (L ++ [x]) = li2 L ++ [.int .i64 (x.2 : Int)] := by simp [li2]

/-- One list more on the shelf. -/
theorem shadd_st {a : List Ent} (h : St w0 w (a :: shg s :: F)) (hL : s.L.length ≤ 1000000000) (q : Sl) (m : Nat) {K : World → Prop}
    (hk : ∀ w' bs ms, St w0 w' (a :: shg { s with bs := bs, ms := ms, L := s.L ++ [(q, m)] } :: F) → K w') :
    NilP (some (⟨s.b, 0, none⟩ : Addr)) fun t10 =>
      RunN Try.prog .sl (V (Instr.loadAt 22 (.pointer (some (t10.add 1))))) w fun t12 w =>
      RunN Try.prog .sl (V (Instr.buildSlice 22 1 #[(0, .slice q.a q.len q.cap)])) w fun t14 w =>
      RunN Try.prog .sl (V (Builtin.append_ #[22, 22] 22 #[.slice t12.a t12.len t12.cap, .slice t14.a t14.len t14.cap])) w fun t15 w =>
      NilP (some (⟨s.b, 0, none⟩ : Addr)) fun t16 =>
      RunU Try.prog (U (Instr.storeAt 22 (.pointer (some (t16.add 1))) (.slice t15.a t15.len t15.cap))) w fun w =>
      NilP (some (⟨s.b, 0, none⟩ : Addr)) fun t20 =>
      RunN Try.prog .sl (V (Instr.loadAt 40 (.pointer (some (t20.add 3))))) w fun t22 w =>
      RunN Try.prog .sl (V (Instr.buildSlice 40 1 #[(0, .int .i64 (m : Int))])) w fun t24 w =>
      RunN Try.prog .sl (V (Builtin.append_ #[40, 40] 40 #[.slice t22.a t22.len t22.cap, .slice t24.a t24.len t24.cap])) w fun t25 w =>
      NilP (some (⟨s.b, 0, none⟩ : Addr)) fun t26 =>
      RunU Try.prog (U (Instr.storeAt 40 (.pointer (some (t26.add 3))) (.slice t25.a t25.len t25.cap))) w fun w => K w := by
  obtain ⟨e1, e2⟩ := shg_bs h (k := 1) rfl
  try (with_reducible refine NilP.mk ?_)
  refine h.loadB 1 0 ⟨_, rfl, rfl⟩ rfl rfl ?_
  refine h.newS 1 (bs22 _ _ _ _) rfl rfl rfl ?_
  intro u w hul huc _ h
  refine h.app 2 1 ⟨_, rfl, rfl⟩ (h.rd (k := 0) (i := 0) ⟨_, rfl, rfl⟩) one_slice (by simp only [maxLen]; omega) (by omega) ?_
  intro bs w hbs h
  dsimp only [updG, setO, shg] at h
  have h := h.drop 0
  dsimp only [delO] at h
  try (with_reducible refine NilP.mk ?_)
  refine h.storB 1 0 ⟨_, rfl, rfl⟩ rfl rfl rfl ?_
  intro w h
  dsimp only [updG, setO] at h
  try (with_reducible refine NilP.mk ?_)
  refine h.loadB 1 0 ⟨_, rfl, rfl⟩ rfl rfl ?_
  refine h.newS 1 (bs40 _ _) rfl rfl rfl ?_
  intro u2 w hul2 huc2 _ h
  refine h.app 2 2 ⟨_, rfl, rfl⟩ (h.rd (k := 0) (i := 0) ⟨_, rfl, rfl⟩) one_int (by simp only [maxLen]; omega) (by omega) ?_
  intro ms w hms h
  dsimp only [updG, setO] at h
  have h := h.drop 0
  dsimp only [delO] at h
  try (with_reducible refine NilP.mk ?_)
  refine h.storB 1 0 ⟨_, rfl, rfl⟩ rfl rfl rfl ?_
  intro w h
  dsimp only [updG, setO] at h
  refine hk _ bs ms ?_
  have e : shg { s with bs := bs, ms := ms, L := s.L ++ [(q, m)] } = Ent.cel s.b 89 [.bool false, .slice bs.a bs.len bs.cap, .slice none 0 0, .slice ms.a ms.len ms.cap] :: .row 31 1 bs (ls2 s.L ++ [.slice q.a q.len q.cap]) :: .row 3 1 ms (li2 s.L ++ [.int .i64 (m : Int)]) :: s.P.map prow := by
    unfold shg
    simp only [ls2_snoc, li2_snoc]
  rw [e]; exact h

theorem hold_st {l : Sl} {n m : Nat} (h : St w0 w ([.row 5 1 l (bys (List.replicate n (mkb m)))] :: shg s :: F)) (ok : ShOk s) (hn : n ≤ 1000000) (hL : s.L.length ≤ 900000000) (hm : m ≤ 900000000) :
    CallK Try.prog (.tup .nilT) 65 #[.pointer (some ⟨s.b, 0, none⟩), .slice l.a l.len l.cap, .int .i64 (m : Int)] w fun (_ : Unit) w' =>
      ∃ s' : Sh, s'.b = s.b ∧ ShOk s' ∧ s'.L.length = s.L.length + 18 ∧ St w0 w' (shg s' :: F) := by
  have hlr := h.rd (k := 0) (i := 0) ⟨_, rfl, rfl⟩
  have hll := hlr.bys_len
  rw [List.length_replicate] at hll
  have hlc := hlr.2.2
  refine T65.calls ?_
  unfold T65
  refine shadd_st h (by omega) l m ?_
  intro w bs ms h
  refine LoopX.mk (fun st w' => ∃ (i k : Nat) (s' : Sh), st.2.1 = (i : Int) ∧ i ≤ 40 ∧ s'.b = s.b ∧ st.1.len = k ∧ k ≤ n + i ∧ s'.L.length = s.L.length + 1 + min i 16 + (if 40 ≤ i then 1 else 0) ∧ (∀ x ∈ s'.L, GoodE ((st.1, k, m) :: s'.P) x) ∧ St w0 w' ([prow (st.1, k, m)] :: shg s' :: F)) (fun st => 40 - st.2.1.toNat)
    ⟨0, n, { s with bs := bs, ms := ms, L := s.L ++ [(l, m)] }, rfl, by decide, rfl, hll, Nat.le_refl _, by simp, fun x hx => ?_, h⟩ ?_
  · dsimp only at hx ⊢
    rcases List.mem_append.1 hx with hx | hx
    · exact (ok x hx).mono fun y hy => ⟨y, List.mem_cons_of_mem _ hy, rfl, Nat.le_refl _, rfl⟩
    · simp at hx; subst hx
      exact ⟨hlc, ⟨by dsimp only; omega, by dsimp only; omega⟩, .inr ⟨(l, n, m), List.mem_cons_self .., rfl, by dsimp only; omega, rfl⟩⟩
  clear h
  rintro ⟨far, _, ⟨⟩⟩ w ⟨i, k, s1, rfl, hi, hb, hfl, hk, hL1, hgood, h⟩ K hK
  dsimp only at h hK hfl hgood ⊢
  rw [SplitB_iff]
  refine ⟨fun hz => ?_, fun hz => ?_⟩
  · have hz : i < 40 := by have := of_decide_eq_true hz; omega
    rw [if_neg (by omega)] at hL1
    refine JoinX.mk (fun (jv : Sl × Unit) w' => ∃ (k' : Nat) (s' : Sh), s'.b = s.b ∧ jv.1.len = k' ∧ k' ≤ n + (i + 1) ∧ s'.L.length = s.L.length + 1 + min (i + 1) 16 + (if 40 ≤ i + 1 then 1 else 0) ∧ (∀ x ∈ s'.L, GoodE ((jv.1, k', m) :: s'.P) x) ∧ St w0 w' ([prow (jv.1, k', m)] :: shg s' :: F)) ?_ ?_
    · rintro ⟨far', ⟨⟩⟩ w ⟨k', s', hb', hfl', hk', hL', hg', h⟩
      exact hK _ _ ⟨i + 1, k', s', by dsimp only; rw [wr (by omega)]; omega, hz, hb', hfl', hk', hL', hg', h⟩ (by dsimp only; rw [wr (by omega)]; omega)
    · intro k3 hk3
      rw [mkb_v (by omega)]
      have hfr := h.rd (k := 0) (i := 0) ⟨_, rfl, rfl⟩
      have hfc := hfr.2.2
      refine h.newS 1 (bsB31 _ _) rfl rfl rfl ?_
      intro u w hul huc _ h
      refine h.appKeep 1 0 (s := far) ⟨_, rfl, rfl⟩ (h.rd (k := 0) (i := 0) ⟨_, rfl, rfl⟩) one_int (by simp only [maxLen]; omega) (by omega) ?_
      intro far' w hfl' h
      have ebb : bys (List.replicate k (mkb m)) ++ [Value.int .u8 ((mkb m).toNat : Int)] = bys (List.replicate (k + 1) (mkb m)) := by
        rw [List.replicate_succ', bys_append]; rfl
      rw [hul, hfl] at hfl'
      have key : ∃ P2 : List (Sl × Nat × Nat), (∀ x ∈ s1.L, GoodE ((far', k + 1, m) :: P2) x) ∧ St w0 w ([prow (far', k + 1, m)] :: shg { s1 with P := P2 } :: F) := by
        rcases h with ⟨ha, hc, h⟩ | h
        · dsimp only [updG, setO] at h
          have h := h.drop 0
          dsimp only [delO] at h
          refine ⟨s1.P, fun x hx => (hgood x hx).mono fun y hy => ?_, ?_⟩
          · rcases List.mem_cons.1 hy with rfl | hy
            · exact ⟨_, List.mem_cons_self .., ha, by dsimp only; omega, rfl⟩
            · exact ⟨y, List.mem_cons_of_mem _ hy, rfl, Nat.le_refl _, rfl⟩
          · have e : [prow (far', k + 1, m)] = [Ent.row 5 1 far' (bys (List.replicate k (mkb m)) ++ [Value.int .u8 ((mkb m).toNat : Int)])] := by rw [ebb]; rfl
            rw [e]; exact h
        · dsimp only [updG, delO, List.append_nil] at h
          have h := h.drop 0
          dsimp only [delO] at h
          refine ⟨s1.P ++ [(far, k, m)], fun x hx => (hgood x hx).mono fun y hy => ?_, ?_⟩
          · rcases List.mem_cons.1 hy with rfl | hy
            · exact ⟨(far, k, m), List.mem_cons_of_mem _ (List.mem_append_right _ (List.mem_singleton.2 rfl)), rfl, Nat.le_refl _, rfl⟩
            · exact ⟨y, List.mem_cons_of_mem _ (List.mem_append_left _ hy), rfl, Nat.le_refl _, rfl⟩
          · have h := St.one.1 h
            have h := h.ord 3 [1, 2, 0]
            dsimp only [pick, nthO, dropO] at h
            have h := h.into
            have h := h.ord 2 [1, 0]
            dsimp only [pick, nthO, dropO] at h
            have e : [prow (far', k + 1, m)] = [Ent.row 5 1 far' (bys (List.replicate k (mkb m)) ++ [Value.int .u8 ((mkb m).toNat : Int)])] := by rw [ebb]; rfl
            rw [e]
            have e2 : shg { s1 with P := s1.P ++ [(far, k, m)] } = shg s1 ++ [.row 5 1 far (bys (List.replicate k (mkb m)))] := by
              unfold shg
              simp only [List.map_append, List.map_cons, List.map_nil, List.cons_append, List.append_assoc]
              rfl
            rw [e2]; exact h
      obtain ⟨P2, hg2, h⟩ := key
      have hfc' := (h.rd (k := 0) (i := 0) ⟨_, rfl, rfl⟩).2.2
      dsimp only at hfc'
      refine JoinX.mk (fun (jv : Bool × Unit) w' => jv.1 = decide (i < 16 ∨ i = 39) ∧ w' = w) ?_ ?_
      · rintro ⟨_, ⟨⟩⟩ w' ⟨hj, hw⟩
        dsimp only at hj ⊢
        rw [hw]
        subst hj
        rw [SplitB_iff]
        refine ⟨fun hy => ?_, fun hy => ?_⟩
        · have hy := of_decide_eq_true hy
          rw [← hb]
          refine shadd_st h (by dsimp only; omega) far' m ?_
          intro w bs2 ms2 h
          refine hk3 _ _ ⟨k + 1, { s1 with P := P2, bs := bs2, ms := ms2, L := s1.L ++ [(far', m)] }, hb, hfl', by omega, ?_, ?_, h⟩
          · dsimp only
            rw [List.length_append, hL1]
            simp only [List.length_cons, List.length_nil]
            rcases hy with hy | hy
            · rw [if_neg (by omega)]; omega
            · rw [if_pos (by omega)]; omega
          · dsimp only
            intro x hx
            rcases List.mem_append.1 hx with hx | hx
            · exact hg2 x hx
            · simp at hx; subst hx
              exact ⟨hfc', ⟨by dsimp only; omega, by dsimp only; omega⟩, .inr ⟨_, List.mem_cons_self .., rfl, by dsimp only; omega, rfl⟩⟩
        · have hy : ¬ (i < 16 ∨ i = 39) := of_decide_eq_false hy
          refine hk3 _ _ ⟨k + 1, { s1 with P := P2 }, hb, hfl', by omega, ?_, hg2, h⟩
          dsimp only
          rw [hL1, if_neg (by omega)]; omega
      · intro k5 hk5
        rw [SplitB_iff]
        refine ⟨fun hy => ?_, fun hy => ?_⟩
        · have hy : i < 16 := by have := of_decide_eq_true hy; omega
          refine hk5 _ _ ⟨?_, rfl⟩
          exact (decide_eq_true (.inl hy)).symm
        · have hy : ¬ i < 16 := by have := of_decide_eq_false hy; omega
          refine hk5 _ _ ⟨?_, rfl⟩
          dsimp only
          rw [Bool.eq_iff_iff, beq_iff_eq, decide_eq_true_iff]
          omega
  · have hz : i = 40 := by have := of_decide_eq_false hz; omega
    subst hz
    have h := h.ord 2 [1, 0]
    dsimp only [pick, nthO, dropO] at h
    have h := (h.bring 1 rfl)
    dsimp only [delO] at h
    have h := h.into
    refine ⟨{ s1 with P := s1.P ++ [(far, k, m)] }, hb, fun x hx => (hgood x hx).mono fun y hy => ?_, by dsimp only; rw [hL1]; simp, ?_⟩
    · rcases List.mem_cons.1 hy with rfl | hy
      · exact ⟨_, List.mem_append_right _ (List.mem_singleton.2 rfl), rfl, Nat.le_refl _, rfl⟩
      · exact ⟨y, List.mem_append_left _ hy, rfl, Nat.le_refl _, rfl⟩
    · have e2 : shg { s1 with P := s1.P ++ [(far, k, m)] } = shg s1 ++ [prow (far, k, m)] := by
        unfold shg
        simp only [List.map_append, List.map_cons, List.map_nil, List.cons_append, List.append_assoc]
      rw [e2]; exact h
end Go.Proofs.Ytimebochhbfkgaa
