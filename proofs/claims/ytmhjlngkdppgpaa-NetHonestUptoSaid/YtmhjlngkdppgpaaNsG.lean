/- Sending, through the pair. -/
import Derived.Test.YtmhjlngkdppgpaaNsF
namespace Go.Proofs.Ytmhjlngkdppgpaa
open Go Go.Fw Go.RowKit
set_option linter.unusedVariables false
set_option linter.unusedSimpArgs false
set_option maxRecDepth 4000
set_option maxHeartbeats 1000000
variable {w0 w : World} {F : Grps} {p : Pr} {n : Nat}

theorem bs29b (w : World) : (Instr.buildSlice 29 2 #[(0, .int .u8 167), (1, .int .u8 182)]).run Try.prog w = .ok (.slice (some ⟨w.heap.size, 0, none⟩) 2 2) (w.alloc (.cells ⟨[.int .u8 167, .int .u8 182]⟩ 5)) := by kernel_rfl
theorem gs_F {c : Ent} {g4 : List Ent} (h : St w0 w (p.gs' c g4 F)) : St w0 w F := (((((((((h.drop 0).drop 0).drop 0).drop 0).drop 0).drop 0).drop 0).drop 0).drop 0).drop 0

theorem sends_st (h : St w0 w (p.gs F)) (ok : p.Ok n) {f t : Int} {d : Sl} {m : List UInt8} (hd : Sees w0 F d 1 (bys m)) (hm : m.length ≤ mega) :
    CallK Try.prog .bool 32 #[.pointer (some ⟨p.Q, 0, none⟩), .agg #[.int .i64 f, .int .i64 t, .slice d.a d.len d.cap]] w fun (r : Bool) w' => r = true ∧ ∃ p' : Pr, p'.Q = p.Q ∧ p'.cap = p.cap ∧ p'.Ok n ∧ St w0 w' (p'.gs F) := by
  have hm' : m.length ≤ 1048576 := hm
  have hmg : mega = 1048576 := rfl
  refine T32.calls (p1 := (f, t, d, ())) ?_
  unfold T32
  have hdl := (hd _ (gs_F h)).bys_len
  first | refine h.newB run_boxA rfl ?_ | refine h.drew.newB run_boxA rfl ?_
  intro t3 w h
  try dsimp only at h
  repeat (first | (with_reducible refine NilP.mk ?_) | ((with_reducible refine RunN.isLoad ?_); (first | refine h.loadB 0 0 ⟨_, rfl, rfl⟩ rfl rfl ?_ | refine h.drew.loadB 0 0 ⟨_, rfl, rfl⟩ rfl rfl ?_)) | ((with_reducible refine ReadN.isLoad ?_); (first | refine h.readB 0 0 ⟨_, rfl, rfl⟩ rfl rfl ?_ | refine h.drew.readB 0 0 ⟨_, rfl, rfl⟩ rfl rfl ?_)) | ((with_reducible refine StillV.isLoad ?_); (first | refine ⟨h.stillB 0 0 ⟨_, rfl, rfl⟩ rfl rfl, ?_⟩)) | ((with_reducible refine RunU.isStor ?_); (first | (refine h.storB 0 0 ⟨_, rfl, rfl⟩ rfl rfl rfl ?_; intro w h; dsimp only [updG, setO] at h) | (refine h.drew.storB 0 0 ⟨_, rfl, rfl⟩ rfl rfl rfl ?_; intro w h; dsimp only [updG, setO] at h))) | ((with_reducible refine RunN.isBox ?_); (first | (refine h.newB run_boxA rfl ?_; intro bn w h; try dsimp only at h) | (refine h.drew.newB run_boxA rfl ?_; intro bn w h; try dsimp only at h))) | ((with_reducible refine RunN.isNew ?_); (first | (refine h.newB (NewC.run _) rfl ?_; intro bn w h) | (refine h.drew.newB (NewC.run _) rfl ?_; intro bn w h))))
  refine h.appNil (hd _ (gs_F (h.drop 0))) (bys_one _) (by simp only [maxLen]; omega) (by omega) ?_
  intro t16 w h16 h
  refine h.newS 1 (bs29b _) rfl rfl rfl ?_
  intro t18 w hl18 hc18 _ h
  refine h.app 1 0 ⟨_, rfl, rfl⟩ (h.rd (k := 0) (i := 0) ⟨_, rfl, rfl⟩) (by intro v hv; simp at hv; rcases hv with rfl | rfl <;> rfl) (by simp only [maxLen]; omega) (by omega) ?_
  intro t19 w h19 h
  dsimp only [updG, setO] at h
  have h := h.drop 0
  dsimp only [delO] at h
  have eb : bys m ++ [Value.int .u8 167, Value.int .u8 182] = bys (m ++ [167, 182]) := by rw [bys_append]; rfl
  rw [eb] at h
  have hsl := gs_sl ((h.drop 0).drop 0)
  have hln := ok.ln
  have hcl : (m ++ [167, 182] : List UInt8).length = m.length + 2 := by simp
  generalize hcs : (m ++ [167, 182] : List UInt8) = cs at *
  have ht : cs.take m.length = m := by rw [← hcs]; simp
  refine JoinX.mk (fun j w' => ∃ c : Sl, j.1 = c ∧ St w0 w' ([.cel t3 31 [.int .i64 f, .int .i64 t, .slice d.a d.len d.cap]] :: ({ p with sl := c, lent := cs } : Pr).gs' p.cel (p.bs.map brow) F)) ?_ ?_
  · rintro ⟨c, ⟨⟩⟩ w ⟨_, rfl, h⟩
    dsimp only at h ⊢
    have hcc := (h.rd (k := 7) (i := 0) ⟨_, rfl, rfl⟩).bys_len
    have hcap := (h.rd (k := 7) (i := 0) ⟨_, rfl, rfl⟩).2.2
    dsimp only at hcc hcap
    repeat (first | (with_reducible refine NilP.mk ?_) | ((with_reducible refine RunN.isLoad ?_); (first | refine h.loadB 0 0 ⟨_, rfl, rfl⟩ rfl rfl ?_ | refine h.loadB 1 0 ⟨_, rfl, rfl⟩ rfl rfl ?_ | refine h.drew.loadB 0 0 ⟨_, rfl, rfl⟩ rfl rfl ?_ | refine h.drew.loadB 1 0 ⟨_, rfl, rfl⟩ rfl rfl ?_)) | ((with_reducible refine ReadN.isLoad ?_); (first | refine h.readB 0 0 ⟨_, rfl, rfl⟩ rfl rfl ?_ | refine h.readB 1 0 ⟨_, rfl, rfl⟩ rfl rfl ?_ | refine h.drew.readB 0 0 ⟨_, rfl, rfl⟩ rfl rfl ?_ | refine h.drew.readB 1 0 ⟨_, rfl, rfl⟩ rfl rfl ?_)) | ((with_reducible refine StillV.isLoad ?_); (first | refine ⟨h.stillB 0 0 ⟨_, rfl, rfl⟩ rfl rfl, ?_⟩ | refine ⟨h.stillB 1 0 ⟨_, rfl, rfl⟩ rfl rfl, ?_⟩)) | ((with_reducible refine RunU.isStor ?_); (first | (refine h.storB 0 0 ⟨_, rfl, rfl⟩ rfl rfl rfl ?_; intro w h; dsimp only [updG, setO] at h) | (refine h.storB 1 0 ⟨_, rfl, rfl⟩ rfl rfl rfl ?_; intro w h; dsimp only [updG, setO] at h) | (refine h.drew.storB 0 0 ⟨_, rfl, rfl⟩ rfl rfl rfl ?_; intro w h; dsimp only [updG, setO] at h) | (refine h.drew.storB 1 0 ⟨_, rfl, rfl⟩ rfl rfl rfl ?_; intro w h; dsimp only [updG, setO] at h))) | ((with_reducible refine RunN.isBox ?_); (first | (refine h.newB run_boxA rfl ?_; intro bn w h; try dsimp only at h) | (refine h.drew.newB run_boxA rfl ?_; intro bn w h; try dsimp only at h))) | ((with_reducible refine RunN.isNew ?_); (first | (refine h.newB (NewC.run _) rfl ?_; intro bn w h) | (refine h.drew.newB (NewC.run _) rfl ?_; intro bn w h))))
    repeat (first | (with_reducible refine NilP.mk ?_) | ((with_reducible refine RunN.isLoad ?_); (first | refine h.loadB 0 0 ⟨_, rfl, rfl⟩ rfl rfl ?_ | refine h.loadB 1 0 ⟨_, rfl, rfl⟩ rfl rfl ?_ | refine h.drew.loadB 0 0 ⟨_, rfl, rfl⟩ rfl rfl ?_ | refine h.drew.loadB 1 0 ⟨_, rfl, rfl⟩ rfl rfl ?_)) | ((with_reducible refine ReadN.isLoad ?_); (first | refine h.readB 0 0 ⟨_, rfl, rfl⟩ rfl rfl ?_ | refine h.readB 1 0 ⟨_, rfl, rfl⟩ rfl rfl ?_ | refine h.drew.readB 0 0 ⟨_, rfl, rfl⟩ rfl rfl ?_ | refine h.drew.readB 1 0 ⟨_, rfl, rfl⟩ rfl rfl ?_)) | ((with_reducible refine StillV.isLoad ?_); (first | refine ⟨h.stillB 0 0 ⟨_, rfl, rfl⟩ rfl rfl, ?_⟩ | refine ⟨h.stillB 1 0 ⟨_, rfl, rfl⟩ rfl rfl, ?_⟩)) | ((with_reducible refine RunU.isStor ?_); (first | (refine h.storB 0 0 ⟨_, rfl, rfl⟩ rfl rfl rfl ?_; intro w h; dsimp only [updG, setO] at h) | (refine h.storB 1 0 ⟨_, rfl, rfl⟩ rfl rfl rfl ?_; intro w h; dsimp only [updG, setO] at h) | (refine h.drew.storB 0 0 ⟨_, rfl, rfl⟩ rfl rfl rfl ?_; intro w h; dsimp only [updG, setO] at h) | (refine h.drew.storB 1 0 ⟨_, rfl, rfl⟩ rfl rfl rfl ?_; intro w h; dsimp only [updG, setO] at h))) | ((with_reducible refine RunN.isBox ?_); (first | (refine h.newB run_boxA rfl ?_; intro bn w h; try dsimp only at h) | (refine h.drew.newB run_boxA rfl ?_; intro bn w h; try dsimp only at h))) | ((with_reducible refine RunN.isNew ?_); (first | (refine h.newB (NewC.run _) rfl ?_; intro bn w h) | (refine h.drew.newB (NewC.run _) rfl ?_; intro bn w h))))
    refine ReadN.sH m.length (by omega) (by omega) ?_
    have hs := send_st (h.drew.bring 2 rfl) ok.small (f := f) (t := t) (p := subS c 0 m.length 1) (m := m) (fun w h => by
      have := (h.rd (k := 6) (i := 0) ⟨_, rfl, rfl⟩).pre (hi := m.length) (by omega)
      rw [Nat.mul_one] at this
      have e : (bys cs).take m.length = bys m := by simp only [bys, ← List.map_take, ht]
      rw [e] at this; exact this) (Nat.le_trans hm' (by decide))
    refine hs.mono ?_
    intro e w he
    have key : ∃ sB' xB', (((p.xB.length : Int) = p.cap ∧ e = 41 ∧ xB' = p.xB) ∨ ((p.xB.length : Int) ≠ p.cap ∧ e = 0 ∧ ∃ q, xB' = p.xB ++ [(⟨f, t, m⟩, q)])) ∧
        St w0 w ([.cel t3 31 [.int .i64 f, .int .i64 t, .slice d.a d.len d.cap]] :: ({ p with sl := c, lent := cs, sB := sB', xB := xB' } : Pr).gs F) := by
      rcases he with ⟨h1, h2, h⟩ | ⟨h1, h2, s', q, h⟩
      · exact ⟨p.sB, p.xB, .inl ⟨h1, h2, rfl⟩, h.back 2⟩
      · exact ⟨s', _, .inr ⟨h1, h2, q, rfl⟩, h.back 2⟩
    clear he hs h
    obtain ⟨sB', xB', hB, h⟩ := key
    repeat (first | (with_reducible refine NilP.mk ?_) | ((with_reducible refine RunN.isLoad ?_); (first | refine h.loadB 0 0 ⟨_, rfl, rfl⟩ rfl rfl ?_ | refine h.loadB 1 0 ⟨_, rfl, rfl⟩ rfl rfl ?_ | refine h.drew.loadB 0 0 ⟨_, rfl, rfl⟩ rfl rfl ?_ | refine h.drew.loadB 1 0 ⟨_, rfl, rfl⟩ rfl rfl ?_)) | ((with_reducible refine ReadN.isLoad ?_); (first | refine h.readB 0 0 ⟨_, rfl, rfl⟩ rfl rfl ?_ | refine h.readB 1 0 ⟨_, rfl, rfl⟩ rfl rfl ?_ | refine h.drew.readB 0 0 ⟨_, rfl, rfl⟩ rfl rfl ?_ | refine h.drew.readB 1 0 ⟨_, rfl, rfl⟩ rfl rfl ?_)) | ((with_reducible refine StillV.isLoad ?_); (first | refine ⟨h.stillB 0 0 ⟨_, rfl, rfl⟩ rfl rfl, ?_⟩ | refine ⟨h.stillB 1 0 ⟨_, rfl, rfl⟩ rfl rfl, ?_⟩)) | ((with_reducible refine RunU.isStor ?_); (first | (refine h.storB 0 0 ⟨_, rfl, rfl⟩ rfl rfl rfl ?_; intro w h; dsimp only [updG, setO] at h) | (refine h.storB 1 0 ⟨_, rfl, rfl⟩ rfl rfl rfl ?_; intro w h; dsimp only [updG, setO] at h) | (refine h.drew.storB 0 0 ⟨_, rfl, rfl⟩ rfl rfl rfl ?_; intro w h; dsimp only [updG, setO] at h) | (refine h.drew.storB 1 0 ⟨_, rfl, rfl⟩ rfl rfl rfl ?_; intro w h; dsimp only [updG, setO] at h))) | ((with_reducible refine RunN.isBox ?_); (first | (refine h.newB run_boxA rfl ?_; intro bn w h; try dsimp only at h) | (refine h.drew.newB run_boxA rfl ?_; intro bn w h; try dsimp only at h))) | ((with_reducible refine RunN.isNew ?_); (first | (refine h.newB (NewC.run _) rfl ?_; intro bn w h) | (refine h.drew.newB (NewC.run _) rfl ?_; intro bn w h))))
    refine h.drew.readA 0 0 ⟨_, rfl, rfl⟩ rfl (f, t, d, ()) (hk := ?_)
    have hcap' : (p.xR.length : Int) ≤ p.cap := by rw [ok.len]; exact ok.fit
    have hs := rsend_st (h.drew.bring 3 rfl) (show p.xR.length ≤ 65536 by have := ok.len; have := ok.small; omega) hcap' (f := f) (t := t) (p := d) (m := m) (fun w h => hd _ (((((((((h.drop 0).drop 0).drop 0).drop 0).drop 0).drop 0).drop 0).drop 0).drop 0 |>.drop 0)) (Nat.le_trans hm' (by decide))
    refine hs.mono ?_
    intro e2 w he
    have key : e2 = e ∧ ∃ p' : Pr, p'.Q = p.Q ∧ p'.cap = p.cap ∧ p'.sl = c ∧ p'.lent = cs ∧ p'.Ok n ∧ St w0 w ([.cel t3 31 [.int .i64 f, .int .i64 t, .slice d.a d.len d.cap]] :: p'.gs F) := by
      have hlR := ok.len
      dsimp only at he
      rcases he with ⟨h1, h2, h⟩ | ⟨h1, h2, s', q, h⟩
      · rcases hB with ⟨h3, h4, h5⟩ | ⟨h3, h4, q', h5⟩
        · subst h5
          refine ⟨by rw [h2, h4], { p with sl := c, lent := cs, sB := sB' }, rfl, rfl, rfl, rfl, ?_, h.back 3⟩
          exact { ok with ln := by dsimp only; omega }
        · omega
      · rcases hB with ⟨h3, h4, h5⟩ | ⟨h3, h4, q', h5⟩
        · omega
        · subst h5
          refine ⟨by rw [h2, h4], { p with sl := c, lent := cs, sB := sB', xB := p.xB ++ [(⟨f, t, m⟩, q')], sR := s', xR := p.xR ++ [(⟨f, t, m⟩, q)] }, rfl, rfl, rfl, rfl, ?_, h.back 3⟩
          have := ok.fit
          refine { ok with ln := by dsimp only; omega, same := ?_, fit := ?_, lens := ?_ }
          · simp [ok.same]
          · dsimp only; rw [List.length_append]; simp; omega
          · intro x hx
            rcases List.mem_append.1 hx with hx | hx
            · exact ok.lens x hx
            · simp at hx; subst hx; exact hm
    clear he hs h hB
    obtain ⟨rfl, p', hQ, hC, rfl, rfl, ok', h⟩ := key
    refine JoinX.mk (fun j w' => j.1 = true ∧ St w0 w' ([.cel t3 31 [.int .i64 f, .int .i64 t, .slice d.a d.len d.cap]] :: p'.gs F)) ?_ ?_
    · rintro ⟨_, ⟨⟩⟩ w ⟨hj, h⟩
      dsimp only at hj h ⊢
      subst hj
      refine LoopX.mk (fun st w' => ∃ (i : Nat) (l : List UInt8), i ≤ l.length ∧ l.length = m.length + 2 ∧ st.1 = (i : Int) ∧ St w0 w' ([.cel t3 31 [.int .i64 f, .int .i64 t, .slice d.a d.len d.cap]] :: ({ p' with lent := l } : Pr).gs F)) (fun st => m.length + 2 - st.1.toNat) ⟨0, p'.lent, Nat.zero_le _, hcl, rfl, h⟩ ?_
      rintro ⟨_, ⟨⟩⟩ w ⟨i, l, hi, hll, rfl, h⟩ K hK
      dsimp only at h hK ⊢
      rw [SplitB_iff]
      refine ⟨fun hi2 => ?_, fun hi2 => ?_⟩
      · have hi2 : i < l.length := by have := of_decide_eq_true hi2; omega
        refine (h.rd (k := 7) (i := 0) ⟨_, rfl, rfl⟩).idxK i rfl (by dsimp only; omega) ?_
        intro b o hb
        obtain ⟨x, hx, _⟩ := u8w (IntKind.i64.wrap (50 + (i : Int)))
        rw [hx]
        refine h.storR 7 0 ⟨_, rfl, rfl⟩ hb i (by rw [Nat.mul_one]) (by simpa using hi2) rfl ?_
        intro w h
        rw [bys_set] at h
        exact hK _ _ ⟨i + 1, l.set i x, by simp; omega, by simp; omega, by dsimp only; rw [wr (by omega)]; omega, h⟩ (by dsimp only; rw [wr (by omega)]; omega)
      · refine num_st.mono ?_
        rintro r w ⟨rfl, rfl⟩
        rw [SplitB_iff]
        refine ⟨fun hz => ?_, fun hz => ?_⟩
        · exact ⟨rfl, { p' with lent := l }, hQ, hC, { ok' with ln := by dsimp only; omega }, h.drop 0⟩
        · simp at hz
    · intro k hk
      refine ReadN.sH m.length (by omega) (by omega) ?_
      have hrd := (h.drew.rd (k := 7) (i := 0) ⟨_, rfl, rfl⟩)
      have hpre := hrd.pre (hi := m.length) (by omega)
      have e : (bys p'.lent).take (m.length * 1) = bys m := by simp only [Nat.mul_one, bys, ← List.map_take, ht]
      rw [e] at hpre
      refine ReadN.toStr str29 hpre ?_
      repeat (first | (with_reducible refine NilP.mk ?_) | ((with_reducible refine RunN.isLoad ?_); (first | refine h.loadB 0 0 ⟨_, rfl, rfl⟩ rfl rfl ?_ | refine h.drew.loadB 0 0 ⟨_, rfl, rfl⟩ rfl rfl ?_)) | ((with_reducible refine ReadN.isLoad ?_); (first | refine h.readB 0 0 ⟨_, rfl, rfl⟩ rfl rfl ?_ | refine h.drew.readB 0 0 ⟨_, rfl, rfl⟩ rfl rfl ?_)) | ((with_reducible refine StillV.isLoad ?_); (first | refine ⟨h.stillB 0 0 ⟨_, rfl, rfl⟩ rfl rfl, ?_⟩)) | ((with_reducible refine RunU.isStor ?_); (first | (refine h.storB 0 0 ⟨_, rfl, rfl⟩ rfl rfl rfl ?_; intro w h; dsimp only [updG, setO] at h) | (refine h.drew.storB 0 0 ⟨_, rfl, rfl⟩ rfl rfl rfl ?_; intro w h; dsimp only [updG, setO] at h))) | ((with_reducible refine RunN.isBox ?_); (first | (refine h.newB run_boxA rfl ?_; intro bn w h; try dsimp only at h) | (refine h.drew.newB run_boxA rfl ?_; intro bn w h; try dsimp only at h))) | ((with_reducible refine RunN.isNew ?_); (first | (refine h.newB (NewC.run _) rfl ?_; intro bn w h) | (refine h.drew.newB (NewC.run _) rfl ?_; intro bn w h))))
      refine ReadN.toStr str29 (hd _ (gs_F (h.drew.drop 0))) ?_
      rw [SplitB_iff]
      refine ⟨fun hz => ?_, fun hz => ?_⟩
      · refine hrd.idxR m.length (by omega) (by omega) ?_
        intro b o hb
        have g1 : p'.lent[m.length]? = some 167 := by rw [← hcs]; simp
        have g2 : p'.lent[m.length + 1]? = some 182 := by rw [← hcs]; simp
        refine hrd.elR hb (m.length * 1) rfl (kd := .int .u8) (x := 167) (by simp only [bys, List.getElem?_map, Nat.mul_one, g1]; rfl) ?_
        rw [SplitB_iff]
        refine ⟨fun hy => ?_, fun hy => ?_⟩
        · refine hrd.idxR (m.length + 1) (by rw [wr (by omega)]; omega) (by omega) ?_
          intro b o hb
          refine hrd.elR hb ((m.length + 1) * 1) rfl (kd := .int .u8) (x := 182) (by simp only [bys, List.getElem?_map, Nat.mul_one, g2]; rfl) ?_
          exact hk _ _ ⟨rfl, h.drew⟩
        · simp at hy
      · simp at hz
  · intro k hk
    repeat (first | (with_reducible refine NilP.mk ?_) | ((with_reducible refine RunN.isLoad ?_); (first | refine h.loadB 0 0 ⟨_, rfl, rfl⟩ rfl rfl ?_ | refine h.loadB 1 0 ⟨_, rfl, rfl⟩ rfl rfl ?_ | refine h.loadB 2 0 ⟨_, rfl, rfl⟩ rfl rfl ?_ | refine h.drew.loadB 0 0 ⟨_, rfl, rfl⟩ rfl rfl ?_ | refine h.drew.loadB 1 0 ⟨_, rfl, rfl⟩ rfl rfl ?_ | refine h.drew.loadB 2 0 ⟨_, rfl, rfl⟩ rfl rfl ?_)) | ((with_reducible refine ReadN.isLoad ?_); (first | refine h.readB 0 0 ⟨_, rfl, rfl⟩ rfl rfl ?_ | refine h.readB 1 0 ⟨_, rfl, rfl⟩ rfl rfl ?_ | refine h.readB 2 0 ⟨_, rfl, rfl⟩ rfl rfl ?_ | refine h.drew.readB 0 0 ⟨_, rfl, rfl⟩ rfl rfl ?_ | refine h.drew.readB 1 0 ⟨_, rfl, rfl⟩ rfl rfl ?_ | refine h.drew.readB 2 0 ⟨_, rfl, rfl⟩ rfl rfl ?_)) | ((with_reducible refine StillV.isLoad ?_); (first | refine ⟨h.stillB 0 0 ⟨_, rfl, rfl⟩ rfl rfl, ?_⟩ | refine ⟨h.stillB 1 0 ⟨_, rfl, rfl⟩ rfl rfl, ?_⟩ | refine ⟨h.stillB 2 0 ⟨_, rfl, rfl⟩ rfl rfl, ?_⟩)) | ((with_reducible refine RunU.isStor ?_); (first | (refine h.storB 0 0 ⟨_, rfl, rfl⟩ rfl rfl rfl ?_; intro w h; dsimp only [updG, setO] at h) | (refine h.storB 1 0 ⟨_, rfl, rfl⟩ rfl rfl rfl ?_; intro w h; dsimp only [updG, setO] at h) | (refine h.storB 2 0 ⟨_, rfl, rfl⟩ rfl rfl rfl ?_; intro w h; dsimp only [updG, setO] at h) | (refine h.drew.storB 0 0 ⟨_, rfl, rfl⟩ rfl rfl rfl ?_; intro w h; dsimp only [updG, setO] at h) | (refine h.drew.storB 1 0 ⟨_, rfl, rfl⟩ rfl rfl rfl ?_; intro w h; dsimp only [updG, setO] at h) | (refine h.drew.storB 2 0 ⟨_, rfl, rfl⟩ rfl rfl rfl ?_; intro w h; dsimp only [updG, setO] at h))) | ((with_reducible refine RunN.isBox ?_); (first | (refine h.newB run_boxA rfl ?_; intro bn w h; try dsimp only at h) | (refine h.drew.newB run_boxA rfl ?_; intro bn w h; try dsimp only at h))) | ((with_reducible refine RunN.isNew ?_); (first | (refine h.newB (NewC.run _) rfl ?_; intro bn w h) | (refine h.drew.newB (NewC.run _) rfl ?_; intro bn w h))))
    have h := h.bring 1 rfl
    dsimp only [delO] at h
    rw [SplitB_iff]
    refine ⟨fun hc => ?_, fun hc => ?_⟩
    · have hc : p.sl.len = t19.len := by
        have : (p.sl.len : Int) = (t19.len : Int) := by simpa using hc
        omega
      repeat (first | (with_reducible refine NilP.mk ?_) | ((with_reducible refine RunN.isLoad ?_); (first | refine h.loadB 0 0 ⟨_, rfl, rfl⟩ rfl rfl ?_ | refine h.loadB 1 0 ⟨_, rfl, rfl⟩ rfl rfl ?_ | refine h.loadB 2 0 ⟨_, rfl, rfl⟩ rfl rfl ?_ | refine h.drew.loadB 0 0 ⟨_, rfl, rfl⟩ rfl rfl ?_ | refine h.drew.loadB 1 0 ⟨_, rfl, rfl⟩ rfl rfl ?_ | refine h.drew.loadB 2 0 ⟨_, rfl, rfl⟩ rfl rfl ?_)) | ((with_reducible refine ReadN.isLoad ?_); (first | refine h.readB 0 0 ⟨_, rfl, rfl⟩ rfl rfl ?_ | refine h.readB 1 0 ⟨_, rfl, rfl⟩ rfl rfl ?_ | refine h.readB 2 0 ⟨_, rfl, rfl⟩ rfl rfl ?_ | refine h.drew.readB 0 0 ⟨_, rfl, rfl⟩ rfl rfl ?_ | refine h.drew.readB 1 0 ⟨_, rfl, rfl⟩ rfl rfl ?_ | refine h.drew.readB 2 0 ⟨_, rfl, rfl⟩ rfl rfl ?_)) | ((with_reducible refine StillV.isLoad ?_); (first | refine ⟨h.stillB 0 0 ⟨_, rfl, rfl⟩ rfl rfl, ?_⟩ | refine ⟨h.stillB 1 0 ⟨_, rfl, rfl⟩ rfl rfl, ?_⟩ | refine ⟨h.stillB 2 0 ⟨_, rfl, rfl⟩ rfl rfl, ?_⟩)) | ((with_reducible refine RunU.isStor ?_); (first | (refine h.storB 0 0 ⟨_, rfl, rfl⟩ rfl rfl rfl ?_; intro w h; dsimp only [updG, setO] at h) | (refine h.storB 1 0 ⟨_, rfl, rfl⟩ rfl rfl rfl ?_; intro w h; dsimp only [updG, setO] at h) | (refine h.storB 2 0 ⟨_, rfl, rfl⟩ rfl rfl rfl ?_; intro w h; dsimp only [updG, setO] at h) | (refine h.drew.storB 0 0 ⟨_, rfl, rfl⟩ rfl rfl rfl ?_; intro w h; dsimp only [updG, setO] at h) | (refine h.drew.storB 1 0 ⟨_, rfl, rfl⟩ rfl rfl rfl ?_; intro w h; dsimp only [updG, setO] at h) | (refine h.drew.storB 2 0 ⟨_, rfl, rfl⟩ rfl rfl rfl ?_; intro w h; dsimp only [updG, setO] at h))) | ((with_reducible refine RunN.isBox ?_); (first | (refine h.newB run_boxA rfl ?_; intro bn w h; try dsimp only at h) | (refine h.drew.newB run_boxA rfl ?_; intro bn w h; try dsimp only at h))) | ((with_reducible refine RunN.isNew ?_); (first | (refine h.newB (NewC.run _) rfl ?_; intro bn w h) | (refine h.drew.newB (NewC.run _) rfl ?_; intro bn w h))))
      have hrd := h.rd (k := 1) (i := 0) ⟨_, rfl, rfl⟩
      refine h.copy 8 0 ⟨_, rfl, rfl⟩ 0 (fun b o hb _ => by rw [hb]; simp) (by omega) hrd (bys_one _) ?_
      intro w h
      have hmin : Nat.min t19.len p.sl.len = p.lent.length := by rw [hc]; exact (Nat.min_self _).trans (by omega)
      rw [hmin] at h
      have e : (bys p.lent).take (0 * 1) ++ (bys cs).take (p.lent.length * 1) ++ (bys p.lent).drop ((0 + p.lent.length) * 1) = bys cs := by
        have : cs.length = p.lent.length := by have := hrd.bys_len; omega
        rw [Nat.zero_mul, List.take_zero, List.nil_append, List.take_of_length_le (by simp; omega), List.drop_of_length_le (by simp), List.append_nil]
      rw [e] at h
      dsimp only [updG, setO] at h
      repeat (first | (with_reducible refine NilP.mk ?_) | ((with_reducible refine RunN.isLoad ?_); (first | refine h.loadB 0 0 ⟨_, rfl, rfl⟩ rfl rfl ?_ | refine h.loadB 1 0 ⟨_, rfl, rfl⟩ rfl rfl ?_ | refine h.loadB 2 0 ⟨_, rfl, rfl⟩ rfl rfl ?_ | refine h.drew.loadB 0 0 ⟨_, rfl, rfl⟩ rfl rfl ?_ | refine h.drew.loadB 1 0 ⟨_, rfl, rfl⟩ rfl rfl ?_ | refine h.drew.loadB 2 0 ⟨_, rfl, rfl⟩ rfl rfl ?_)) | ((with_reducible refine ReadN.isLoad ?_); (first | refine h.readB 0 0 ⟨_, rfl, rfl⟩ rfl rfl ?_ | refine h.readB 1 0 ⟨_, rfl, rfl⟩ rfl rfl ?_ | refine h.readB 2 0 ⟨_, rfl, rfl⟩ rfl rfl ?_ | refine h.drew.readB 0 0 ⟨_, rfl, rfl⟩ rfl rfl ?_ | refine h.drew.readB 1 0 ⟨_, rfl, rfl⟩ rfl rfl ?_ | refine h.drew.readB 2 0 ⟨_, rfl, rfl⟩ rfl rfl ?_)) | ((with_reducible refine StillV.isLoad ?_); (first | refine ⟨h.stillB 0 0 ⟨_, rfl, rfl⟩ rfl rfl, ?_⟩ | refine ⟨h.stillB 1 0 ⟨_, rfl, rfl⟩ rfl rfl, ?_⟩ | refine ⟨h.stillB 2 0 ⟨_, rfl, rfl⟩ rfl rfl, ?_⟩)) | ((with_reducible refine RunU.isStor ?_); (first | (refine h.storB 0 0 ⟨_, rfl, rfl⟩ rfl rfl rfl ?_; intro w h; dsimp only [updG, setO] at h) | (refine h.storB 1 0 ⟨_, rfl, rfl⟩ rfl rfl rfl ?_; intro w h; dsimp only [updG, setO] at h) | (refine h.storB 2 0 ⟨_, rfl, rfl⟩ rfl rfl rfl ?_; intro w h; dsimp only [updG, setO] at h) | (refine h.drew.storB 0 0 ⟨_, rfl, rfl⟩ rfl rfl rfl ?_; intro w h; dsimp only [updG, setO] at h) | (refine h.drew.storB 1 0 ⟨_, rfl, rfl⟩ rfl rfl rfl ?_; intro w h; dsimp only [updG, setO] at h) | (refine h.drew.storB 2 0 ⟨_, rfl, rfl⟩ rfl rfl rfl ?_; intro w h; dsimp only [updG, setO] at h))) | ((with_reducible refine RunN.isBox ?_); (first | (refine h.newB run_boxA rfl ?_; intro bn w h; try dsimp only at h) | (refine h.drew.newB run_boxA rfl ?_; intro bn w h; try dsimp only at h))) | ((with_reducible refine RunN.isNew ?_); (first | (refine h.newB (NewC.run _) rfl ?_; intro bn w h) | (refine h.drew.newB (NewC.run _) rfl ?_; intro bn w h))))
      exact hk _ _ ⟨_, rfl, h.drop 1⟩
    · exact hk _ _ ⟨_, rfl, ((h.drop 8).bring 1 rfl).back 7⟩
end Go.Proofs.Ytmhjlngkdppgpaa
