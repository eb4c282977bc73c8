/- The frame's laws on damage: each answers yes. -/
import Derived.Test.YtaocddmmgefeoaaDoorFrL
import Derived.Test.YtaocddmmgefeoaaDoorFwN
namespace Go.Proofs.YtaocddmmgefeoaaDoor
open Go Go.Fw Go.RowKit Go.Frm
set_option linter.unusedVariables false
set_option linter.unusedSimpArgs false

theorem u8_add (c d : UInt8) : IntKind.u8.wrap ((c.toNat : Int) + (d.toNat : Int)) = ((c + d).toNat : Int) := by
  rw [IntKind.wrap_u8, UInt8.toNat_add]; omega
theorem bitXor8 (a b : UInt8) : bitXor .u8 (a.toNat : Int) (b.toNat : Int) = ((a ^^^ b).toNat : Int) := by
  have e : ∀ x : UInt8, BitVec.ofInt IntKind.u8.bits (x.toNat : Int) = x.toBitVec := fun x => by
    apply BitVec.eq_of_toNat_eq; simp [BitVec.toNat_ofInt, IntKind.bits]
  unfold bitXor
  rw [e a, e b]
  have h := (a ^^^ b).toNat_lt
  show IntKind.u8.wrap ((a ^^^ b).toNat : Int) = _
  rw [IntKind.wrap_u8]; omega
theorem xor_same {a b : UInt8} : a ^^^ b = a ↔ b = 0 := by
  constructor
  · intro h
    have := congrArg (fun x => a ^^^ x) h
    simpa [← UInt8.xor_assoc] using this
  · rintro rfl; simp
theorem u8_zero {b : UInt8} : ((b.toNat : Int) = 0) ↔ b = 0 := by
  constructor
  · intro h
    apply UInt8.toNat_inj.1
    have : (0 : UInt8).toNat = 0 := rfl
    omega
  · rintro rfl; rfl
theorem add_same {a b : UInt8} : a + b = a ↔ b = 0 := by
  constructor
  · intro h
    have h1 := congrArg UInt8.toNat h
    rw [UInt8.toNat_add] at h1
    have := a.toNat_lt
    have := b.toNat_lt
    apply UInt8.toNat_inj.1
    have : (0 : UInt8).toNat = 0 := rfl
    omega
  · rintro rfl; simp
theorem bys_set (l : List UInt8) (i : Nat) (c : UInt8) : (bys l).set i (u8v c) = bys (l.set i c) := by simp [bys, List.map_set]

/-- FrameByte -/
theorem law8 {w : World} {p : Sl} {i : Int} {d : UInt8} {l : List UInt8} (hr : Rd w p 1 (bys l)) (ht : Tab w) : CallK Tryd.prog .bool 8 #[.slice p.a p.len p.cap, .int .i64 i, .int .u8 (d.toNat : Int)] w fun (r : Bool) w' => Upd w w' nobody ∧ r = true := by
  have hlen := hr.bys_len
  refine T8.calls ?_
  unfold T8
  rw [SplitB_iff]
  refine ⟨fun _ => ⟨Upd.refl _ _, rfl⟩, fun h => ?_⟩
  have h : ¬ (p.len : Int) > 4096 := of_decide_eq_false h
  have hl : l.length ≤ 4096 := by omega
  refine (alive_ok ht).mono ?_
  rintro a w1 ⟨hu1, rfl⟩
  have hr1 := hr.upd hu1 (fun _ _ h => h)
  refine (sealed_ok hr1 (ht.upd hu1 (fun h => h)) hl).mono ?_
  rintro ⟨s2, b2, ⟨⟩⟩ w2 ⟨hu2, h2, ho2⟩
  dsimp only at h2 ho2
  subst h2
  have hU2 := hu1.trans hu2
  have hlen2 := ho2.rd.bys_len
  have hfl := frame_length l
  dsimp only [JoinX]
  rw [SplitB_iff]
  refine ⟨fun h => by simp at h, fun _ => ?_⟩
  rw [SplitB_iff]
  refine ⟨fun h => by simp at h, fun _ => ?_⟩
  refine (slot_ok (by omega) (by omega)).mono ?_
  rintro c w3 ⟨rfl, hc0, hc1⟩
  have hck : c.toNat < (frame l).length := by omega
  obtain ⟨g, o, ha, hb, hf, hcell, hset⟩ := ho2.place (i := c.toNat) (by simpa using hck)
  have hcell : w3.cell? ⟨g, o + c.toNat, none⟩ = some (u8v (frame l)[c.toNat]) := by rw [hcell]; simp [bys]
  refine RunN.idx et22 ha hc0 hc1 ?_
  simp only [Nat.mul_one]
  refine RunN.load sc5 (kd := .int .u8) hcell ?_
  refine RunN.idx et22 ha hc0 hc1 ?_
  simp only [Nat.mul_one]
  rw [u8_add]
  refine RunU.stor sc5 rfl hcell hf ?_
  have hs3 := hset (u8v ((frame l)[c.toNat] + d))
  rw [bys_set] at hs3
  have hge := (ho2.lt hb).1
  have hU3 : Upd w (w3.setCell ⟨g, o + c.toNat, none⟩ (.int .u8 (((frame l)[c.toNat] + d).toNat : Int))) nobody :=
    hU2.trans' (Upd.setCell w3 ⟨g, o + c.toNat, none⟩ _ (S := fun k => k = g) rfl) (fun k hk hlt => by have := hu1.size; omega)
  refine (open_ok hs3.rd (ht.upd hU3 (fun h => h)) (by simp; omega)).mono ?_
  rintro ⟨s4, e4, ⟨⟩⟩ w4 ⟨hu4, h4, ho4⟩
  dsimp only at h4 ho4
  subst h4
  have hU4 := hU3.trans hu4
  have hlen4 := ho4.rd.bys_len
  rw [SplitB_iff]
  constructor
  · intro hz
    have hz : d = 0 := u8_zero.1 (by simpa using hz)
    subst hz
    have e0 : (frame l).set c.toNat ((frame l)[c.toNat] + 0) = frame l := by simp
    rw [e0, open_frame hl] at ho4
    rw [e0, open_frame hl]
    refine num_ok.mono ?_
    rintro r w5 ⟨rfl, rfl⟩
    rw [SplitB_iff]
    refine ⟨fun _ => ?_, fun h => by simp at h⟩
    refine (same_ok ho4.rd (hr.upd hU4 (fun _ _ h => h))).mono ?_
    rintro r w6 ⟨rfl, rfl⟩
    exact ⟨hU4, by simp⟩
  · intro hz
    have hz : d ≠ 0 := fun e => by subst e; simp at hz
    have hne := open_set hl hck (c := (frame l)[c.toNat] + d) (fun e => hz (add_same.1 e.symm))
    refine num_ok.mono ?_
    rintro r w5 ⟨rfl, rfl⟩
    rw [SplitB_iff]
    refine ⟨fun _ => ⟨hU4, by simp [hlen4, open_err hne]⟩, fun h => by simp at h; exact absurd h hne⟩

theorem box46 (w : World) (a b c d : Int) : (Instr.box 46 (.agg #[.int .u8 a, .int .u8 b, .int .u8 c, .int .u8 d])).run Tryd.prog w = .ok (.pointer (some ⟨w.heap.size, 0, none⟩)) (w.alloc (.cells ⟨[.int .u8 a, .int .u8 b, .int .u8 c, .int .u8 d]⟩ 46)) := by kernel_rfl
theorem run_arr4 (w : World) (g : Nat) (i : Int) (h0 : 0 ≤ i) (h1 : i < 4) : (Instr.indexAt 46 (.pointer (some ⟨g, 0, none⟩)) (.int .i64 i)).run Tryd.prog w = .ok (.pointer (some ⟨g, i.toNat, none⟩)) w := by
  have hu : Tryd.prog.underlying 46 = some (.array 4 5) := by kernel_rfl
  obtain ⟨inf, hi, hs⟩ : ∃ inf, Tryd.prog.info? 5 = some inf ∧ inf.size = 1 := by
    obtain ⟨i, z, hi, hz, h1, h2, h3⟩ := et22.hi
    exact ⟨i, hi, h1⟩
  simp [Instr.indexAt, asIntOf, run_underlying hu, Instr.sureAddr, h0, h1, sizeOf, typeInfo, hi, hs, add_lit']

theorem box46_ok (w : World) (d : Nat → UInt8) : ∃ w0, (Instr.box 46 (.agg #[.int .u8 ((d 0).toNat : Int), .int .u8 ((d 1).toNat : Int), .int .u8 ((d 2).toNat : Int), .int .u8 ((d 3).toNat : Int)])).run Tryd.prog w = .ok (.pointer (some ⟨w.heap.size, 0, none⟩)) w0 ∧
    Upd w w0 nobody ∧ (∀ j, j < 4 → w0.cell? ⟨w.heap.size, j, none⟩ = some (u8v (d j))) ∧ w0.heap.size = w.heap.size + 1 := by
  refine ⟨_, box46 w _ _ _ _, Upd.alloc _ _ _, ?_, by simp⟩
  intro j hj
  rw [cell_of_row _ _ _ _ 46 (0, 0) (heap_alloc_new w _)]
  match j, hj with
  | 0, _ => rfl
  | 1, _ => rfl
  | 2, _ => rfl
  | 3, _ => rfl

/-- What the burst's law asks at its end. -/
theorem burst_end {W w4 : World} {p s2 : Sl} {l pp x y q : List UInt8} {ch : Bool} {base : Nat} (hr : Rd W p 1 (bys l)) (ht : Tab W) (hl : l.length ≤ 4096) (hFe : frame l = pp ++ x ++ q) (hpp : 3 ≤ pp.length)
    (hxy : x.length = y.length) (hx4 : x.length ≤ 4) (ho4 : Ow w4 base 5 1 s2 (bys (pp ++ y ++ q))) (hch : ch = true ↔ x ≠ y) (hU4 : Upd W w4 nobody) :
    CallK Tryd.prog (.tup (.cons .sl (.cons (.int .i64) .nilT))) 21 #[.slice s2.a s2.len s2.cap] w4 fun (t72 : Sl × Int × Unit) w =>
              SplitB (!ch)
                (CallK Tryd.prog (.int .i64) 19 #[.int .i64 t72.2.1] w fun (t78 : Int) w =>
                SplitB (t78 == 0)
                  (CallK Tryd.prog .bool 22 #[.slice t72.1.a t72.1.len t72.1.cap, .slice p.a p.len p.cap] w fun (t83 : Bool) w' =>
                  Upd W w' nobody ∧ t83 = true)
                  (Upd W w nobody ∧ false = true))
                (CallK Tryd.prog (.int .i64) 19 #[.int .i64 t72.2.1] w fun (t86 : Int) w =>
                SplitB (t86 == 12)
                  (Upd W w nobody ∧ ((t72.1.len : Int) == 0) = true)
                  (Upd W w nobody ∧ false = true)) := by
  have hlen : (pp ++ y ++ q).length = l.length + 7 := by
    have := frame_length l
    rw [hFe] at this; simp at this ⊢; omega
  refine (open_ok ho4.rd (ht.upd hU4 (fun h => h)) (by omega)).mono ?_
  rintro ⟨s5, e5, ⟨⟩⟩ w5 ⟨hu5, h5, ho5⟩
  dsimp only at h5 ho5
  subst h5
  have hU5 := hU4.trans hu5
  have hlen5 := ho5.rd.bys_len
  rw [SplitB_iff]
  constructor
  · intro hc
    have hc : ¬ (x ≠ y) := fun h => by rw [hch.2 h] at hc; simp at hc
    have hc : x = y := Classical.byContradiction hc
    subst hc
    rw [← hFe, open_frame hl] at ho5
    rw [← hFe, open_frame hl]
    refine num_ok.mono ?_
    rintro r w6 ⟨rfl, rfl⟩
    rw [SplitB_iff]
    refine ⟨fun _ => ?_, fun h => by simp at h⟩
    refine (same_ok ho5.rd (hr.upd hU5 (fun _ _ h => h))).mono ?_
    rintro r w6 ⟨rfl, rfl⟩
    exact ⟨hU5, by simp⟩
  · intro hc
    have hc : x ≠ y := hch.1 (by simpa using hc)
    rw [open_burst hl hFe hpp hxy hx4 hc] at ho5 hlen5
    rw [open_burst hl hFe hpp hxy hx4 hc]
    refine num_ok.mono ?_
    rintro r w6 ⟨rfl, rfl⟩
    rw [SplitB_iff]
    refine ⟨fun _ => ⟨hU5, by simp [hlen5]⟩, fun h => by simp at h⟩

/-- FrameBurst -/
theorem law9 {w : World} {p : Sl} {i : Int} {d : Nat → UInt8} {l : List UInt8} (hr : Rd w p 1 (bys l)) (ht : Tab w) : CallK Tryd.prog .bool 9 #[.slice p.a p.len p.cap, .int .i64 i, .agg #[.int .u8 ((d 0).toNat : Int), .int .u8 ((d 1).toNat : Int), .int .u8 ((d 2).toNat : Int), .int .u8 ((d 3).toNat : Int)]] w fun (r : Bool) w' => Upd w w' nobody ∧ r = true := by
  have hlen := hr.bys_len
  refine T9.calls (p2 := (((d 0).toNat : Int), ((d 1).toNat : Int), ((d 2).toNat : Int), ((d 3).toNat : Int), ())) ?_
  unfold T9
  obtain ⟨w0, hbox, hu0, hd0, hsz0⟩ := box46_ok w d
  refine RunN.of (kd := .addr) (x := ⟨w.heap.size, 0, none⟩) hbox ?_
  rw [SplitB_iff]
  refine ⟨fun _ => ⟨hu0, rfl⟩, fun h => ?_⟩
  have h : ¬ (p.len : Int) > 4096 := of_decide_eq_false h
  have hl : l.length ≤ 4096 := by omega
  refine (alive_ok (ht.upd hu0 (fun h => h))).mono ?_
  rintro a w1 ⟨hu1, rfl⟩
  have hU1 := hu0.trans hu1
  have hr1 := hr.upd hU1 (fun _ _ h => h)
  refine (sealed_ok hr1 (ht.upd hU1 (fun h => h)) hl).mono ?_
  rintro ⟨(s2 : Sl), b2, ⟨⟩⟩ w2 ⟨hu2, h2, ho2⟩
  dsimp only at h2 ho2
  subst h2
  have hU2 := hU1.trans hu2
  have hd2 : ∀ j, j < 4 → w2.cell? ⟨w.heap.size, j, none⟩ = some (u8v (d j)) := fun j hj => hu2.cell (hu1.cell (hd0 j hj) (fun h => h)) (fun h => h)
  have hlen2 := ho2.rd.bys_len
  have hfl := frame_length l
  have hsz1 := hu1.size
  dsimp only [JoinX]
  rw [SplitB_iff]
  refine ⟨fun h => by simp at h, fun _ => ?_⟩
  rw [SplitB_iff]
  refine ⟨fun h => by simp at h, fun _ => ?_⟩
  rw [IntWalk.i64_in ((s2.len : Int) - 3) ⟨by omega, by omega⟩]
  refine (slot_ok (by omega) (by omega)).mono ?_
  rintro (c : Int) w3 ⟨rfl, hc0, hc1⟩
  generalize hF : frame l = F at *
  refine ⟨fun st w4 => ∃ (k : Nat) (pp x y q : List UInt8), k ≤ 4 ∧ st.2.1 = (k : Int) ∧ F = pp ++ x ++ q ∧ pp.length = 3 + c.toNat ∧ x.length = k ∧ y.length = k ∧
      Ow w4 w1.heap.size 5 1 s2 (bys (pp ++ y ++ q)) ∧ (st.1 = true ↔ x ≠ y) ∧ Upd w w4 nobody ∧ (∀ j, j < 4 → w4.cell? ⟨w.heap.size, j, none⟩ = some (u8v (d j))), fun st _ => 4 - st.2.1.toNat,
    ⟨0, F.take (3 + c.toNat), [], [], F.drop (3 + c.toNat), by omega, rfl, by simp, by simp; omega, rfl, rfl, by simpa using ho2, by simp, hU2, hd2⟩, ?_⟩
  rintro ⟨ch, (i4 : Int), ⟨⟩⟩ w4 ⟨k, pp, x, y, q, hk, h1, hFe, hpp, hx, hy, ho4, hch, hU4, hd4⟩
  dsimp only at h1 hch
  subst h1
  have hqlen : F.length = 3 + c.toNat + k + q.length := by rw [hFe]; simp; omega
  have stop : (k = 4 ∨ q = []) → _ := fun _ => burst_end (ch := ch) hr ht hl (hF.trans hFe) (by omega) (hx.trans hy.symm) (by omega) ho4 hch hU4
  rw [SplitB_iff]
  constructor
  · intro hk4
    have hk4 : (k : Int) < 4 := of_decide_eq_true hk4
    rw [IntWalk.i64_in (3 + c) ⟨by omega, by omega⟩, IntWalk.i64_in (3 + c + (k : Int)) ⟨by omega, by omega⟩]
    rw [SplitB_iff]
    constructor
    · intro hlt
      have hlt : 3 + c + (k : Int) < (s2.len : Int) := of_decide_eq_true hlt
      have hin : 3 + c.toNat + k < (pp ++ y ++ q).length := by simp; omega
      obtain ⟨g, o, ha, hb, hf, hcell, hset⟩ := ho4.place (i := 3 + c.toNat + k) (by simpa using hin)
      have hq : q ≠ [] := by intro e; rw [e] at hqlen; simp at hqlen; omega
      obtain ⟨z, q', rfl⟩ := List.exists_cons_of_ne_nil hq
      have hz : (pp ++ y ++ z :: q')[3 + c.toNat + k]'hin = z := by
        rw [List.getElem_append_right (by simp; omega)]
        simp [hpp, hy]
      have hcell : w4.cell? ⟨g, o + (3 + c.toNat + k), none⟩ = some (u8v z) := by
        rw [hcell]; simp only [bys, List.getElem_map]; exact congrArg (fun z => some (u8v z)) hz
      have hix : (3 + c + (k : Int)).toNat = 3 + c.toNat + k := by omega
      have hud : Upd w4 w4.drew nobody := Upd.drew _ _
      refine ReadN.of (kd := .addr) (run_idx et22 ha (by omega) (by omega)) ?_
      simp only [hix, Nat.mul_one]
      have hcelld : w4.drew.cell? ⟨g, o + (3 + c.toNat + k), none⟩ = some (u8v z) := hcell
      have hd4d : w4.drew.cell? ⟨w.heap.size, k, none⟩ = some (u8v (d k)) := hd4 k (by omega)
      have hfd : w4.drew.frozen? ⟨g, o + (3 + c.toNat + k), none⟩ = false := hf
      refine ReadN.load sc5 (kd := .int .u8) (x := (z.toNat : Int)) hcelld ?_
      refine ReadN.of (kd := .addr) (run_arr4 _ _ _ (by omega) (by omega)) ?_
      simp only [Int.toNat_natCast]
      refine ReadN.load sc5 (kd := .int .u8) (x := ((d k).toNat : Int)) hd4d ?_
      refine ReadN.of (kd := .addr) (run_idx et22 ha (by omega) (by omega)) ?_
      simp only [hix, Nat.mul_one]
      rw [bitXor8]
      refine RunU.stor (u := u8v z) sc5 rfl hcelld hfd ?_
      have hge := (ho4.lt hb).1
      have hs5 := hset (u8v (z ^^^ d k))
      rw [bys_set] at hs5
      have hnew : (pp ++ y ++ z :: q').set (3 + c.toNat + k) (z ^^^ d k) = pp ++ (y ++ [z ^^^ d k]) ++ q' := by
        rw [List.set_append_right _ _ (by simp; omega)]
        simp [hpp, hy]
      rw [hnew] at hs5
      have hu5 : Upd w4 (w4.drew.setCell ⟨g, o + (3 + c.toNat + k), none⟩ (u8v (z ^^^ d k))) (fun j => j = g) := (Upd.drew _ _).trans (Upd.setCell _ _ _ rfl)
      have hU5 := hU4.trans' hu5 (fun j hj hlt => by omega)
      have hd5 : ∀ j, j < 4 → (w4.drew.setCell ⟨g, o + (3 + c.toNat + k), none⟩ (u8v (z ^^^ d k))).cell? ⟨w.heap.size, j, none⟩ = some (u8v (d j)) := fun j hj => hu5.cell (hd4 j hj) (by dsimp only; omega)
      have next : ∀ ch' : Prop, (ch' ↔ (ch = true ∨ d k ≠ 0)) → _ := fun ch' hch' => (⟨⟨k + 1, pp, x ++ [z], y ++ [z ^^^ d k], q', by omega, by omega, by rw [hFe]; simp, hpp, by simp [hx], by simp [hy], hs5, (by
        rw [hch', hch]
        constructor
        · rintro (h | h) he
          · exact h (List.append_inj he (by omega)).1
          · have := (List.append_inj he (by omega)).2
            exact h (xor_same.1 (by simpa using this.symm))
        · intro h
          by_cases hxy : x = y
          · right
            intro h0
            apply h
            rw [hxy, h0]; simp
          · exact .inl hxy), hU5, hd5⟩, (by omega)⟩ : (∃ (k_1 : Nat) (pp x y q : List UInt8), k_1 ≤ 4 ∧ ((k : Int) + 1) = (k_1 : Int) ∧ F = pp ++ x ++ q ∧ pp.length = 3 + c.toNat ∧ x.length = k_1 ∧ y.length = k_1 ∧
            Ow (w4.drew.setCell ⟨g, o + (3 + c.toNat + k), none⟩ (u8v (z ^^^ d k))) w1.heap.size 5 1 s2 (bys (pp ++ y ++ q)) ∧ (ch' ↔ x ≠ y) ∧ Upd w (w4.drew.setCell ⟨g, o + (3 + c.toNat + k), none⟩ (u8v (z ^^^ d k))) nobody ∧ (∀ j, j < 4 → (w4.drew.setCell ⟨g, o + (3 + c.toNat + k), none⟩ (u8v (z ^^^ d k))).cell? ⟨w.heap.size, j, none⟩ = some (u8v (d j)))) ∧ 4 - ((k : Int) + 1).toNat < 4 - (k : Int).toNat)
      rw [IntWalk.i64_in ((k : Int) + 1) ⟨by omega, by omega⟩]
      rw [SplitB_iff]
      constructor
      · intro hc1
        exact next _ (by simp [show ch = true from hc1])
      · intro hc0
        refine RunN.of (kd := .addr) (run_arr4 _ _ _ (by omega) (by omega)) ?_
        simp only [Int.toNat_natCast]
        refine RunN.load sc5 (kd := .int .u8) (x := ((d k).toNat : Int)) (hd5 k (by omega)) ?_
        refine next _ ?_
        have hc0 : ch = false := hc0
        rw [hc0]
        have h0 := u8_zero (b := d k)
        simp
        rw [← h0]; omega
    · intro hge
      have hge : ¬ 3 + c + (k : Int) < (s2.len : Int) := of_decide_eq_false hge
      exact stop (.inr (List.eq_nil_of_length_eq_zero (by omega)))
  · intro hk4
    have hk4 : ¬ (k : Int) < 4 := of_decide_eq_false hk4
    rw [SplitB_iff]
    exact ⟨fun h => by simp at h, fun _ => stop (.inl (by omega))⟩
end Go.Proofs.YtaocddmmgefeoaaDoor
