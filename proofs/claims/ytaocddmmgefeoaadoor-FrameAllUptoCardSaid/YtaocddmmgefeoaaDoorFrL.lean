/- The frame's laws: each answers yes. -/
import Derived.Test.YtaocddmmgefeoaaDoorFrS
import Derived.Test.YtaocddmmgefeoaaDoorFrR
import Derived.Lib.SlBytesConst
namespace Go.Proofs.YtaocddmmgefeoaaDoor
open Go Go.Fw Go.RowKit Go.Frm
set_option linter.unusedVariables false
set_option linter.unusedSimpArgs false

theorem bs7 (w : World) (a b c d e f g : Int) : (Instr.buildSlice 22 7 #[(0, .int .u8 a), (1, .int .u8 b), (2, .int .u8 c), (3, .int .u8 d), (4, .int .u8 e), (5, .int .u8 f), (6, .int .u8 g)]).run Tryd.prog w = .ok (.slice (some ⟨w.heap.size, 0, none⟩) 7 7) (w.alloc (.cells ⟨[.int .u8 a, .int .u8 b, .int .u8 c, .int .u8 d, .int .u8 e, .int .u8 f, .int .u8 g]⟩ 5)) := by kernel_rfl
theorem bs10 (w : World) (a b c d e f g h i j : Int) : (Instr.buildSlice 22 10 #[(0, .int .u8 a), (1, .int .u8 b), (2, .int .u8 c), (3, .int .u8 d), (4, .int .u8 e), (5, .int .u8 f), (6, .int .u8 g), (7, .int .u8 h), (8, .int .u8 i), (9, .int .u8 j)]).run Tryd.prog w = .ok (.slice (some ⟨w.heap.size, 0, none⟩) 10 10) (w.alloc (.cells ⟨[.int .u8 a, .int .u8 b, .int .u8 c, .int .u8 d, .int .u8 e, .int .u8 f, .int .u8 g, .int .u8 h, .int .u8 i, .int .u8 j]⟩ 5)) := by kernel_rfl

theorem lit_rdf {w : World} {l : List UInt8} {n : Nat} {fr : Nat × Nat} (hn : n = l.length) : Rd (w.alloc (.cells ⟨bys l⟩ 5 fr)) ⟨some ⟨w.heap.size, 0, none⟩, n, n⟩ 1 (bys l) := by
  subst hn
  refine ⟨by simp, .inr ⟨w.heap.size, 0, rfl, fun i v hv => ?_⟩, Nat.le_refl _⟩
  rw [cell_of_row _ _ _ ⟨bys l⟩ 5 fr (heap_alloc_new w _)]
  simpa using hv

theorem alive_ok {w : World} (ht : Tab w) : CallK Tryd.prog .bool 11 #[] w fun (r : Bool) w' => Upd w w' nobody ∧ r = true := by
  refine T11.calls ?_
  unfold T11
  refine RunN.of (kd := .sl) (x := ⟨some ⟨w.heap.size, 0, none⟩, 3, 3⟩) (bs3 w _ _ _) ?_
  have hu1 : Upd w (w.alloc (.cells ⟨bys [97, 98, 99]⟩ 5 (3, 4))) nobody := Upd.alloc _ _ _
  have hr1 := lit_rdf (w := w) (l := [97, 98, 99]) (n := 3) (fr := (3, 4)) rfl
  refine RunN.of (kd := .sl) (x := ⟨some ⟨w.heap.size, 0, none⟩, 3, 3⟩) (w' := w.alloc (.cells ⟨bys [97, 98, 99]⟩ 5 (3, 4))) (Lib.run_convert_bytes_const w 22 5 ⟨bys [97, 98, 99]⟩ 3 3 et22.ht (by kernel_rfl)) ?_
  refine (seal_ok hr1 (ht.upd hu1 (fun h => h)) (by decide)).mono ?_
  rintro ⟨s2, e2, ⟨⟩⟩ w2 ⟨hu2, h2⟩
  rcases h2 with ⟨h, _⟩ | ⟨_, h2, ho2, _⟩
  · simp at h
  dsimp only at h2 ho2
  subst h2
  have hU2 := hu1.trans hu2
  refine RunN.of (kd := .sl) (x := ⟨some ⟨w2.heap.size, 0, none⟩, 7, 7⟩) (bs7 w2 _ _ _ _ _ _ _) ?_
  have hu3 : Upd w2 (w2.alloc (.cells ⟨bys [1, 0, 0, 37, 179, 131, 254]⟩ 5)) nobody := Upd.alloc _ _ _
  have hr3 := lit_rd (w := w2) (l := [1, 0, 0, 37, 179, 131, 254]) (n := 7) rfl
  have hU3 := hU2.trans hu3
  refine (open_ok hr3 (ht.upd hU3 (fun h => h)) (by decide)).mono ?_
  rintro ⟨s4, e4, ⟨⟩⟩ w4 ⟨hu4, h4, ho4⟩
  dsimp only at h4 ho4
  rw [alive2] at h4 ho4
  subst h4
  have hU4 := hU3.trans hu4
  refine RunN.of (kd := .sl) (x := ⟨some ⟨w4.heap.size, 0, none⟩, 7, 7⟩) (bs7 w4 _ _ _ _ _ _ _) ?_
  have hu5 : Upd w4 (w4.alloc (.cells ⟨bys [1, 0, 0, 37, 179, 131, 255]⟩ 5)) nobody := Upd.alloc _ _ _
  have hr5 := lit_rd (w := w4) (l := [1, 0, 0, 37, 179, 131, 255]) (n := 7) rfl
  have hU5 := hU4.trans hu5
  refine (open_ok hr5 (ht.upd hU5 (fun h => h)) (by decide)).mono ?_
  rintro ⟨s6, e6, ⟨⟩⟩ w6 ⟨hu6, h6, ho6⟩
  dsimp only at h6 ho6
  rw [alive3] at h6 ho6
  subst h6
  have hU6 := hU5.trans hu6
  refine num_ok.mono ?_
  rintro r w7 ⟨rfl, rfl⟩
  rw [SplitB_iff]
  refine ⟨fun _ => ?_, fun h => by simp at h⟩
  refine RunN.of (kd := .sl) (x := ⟨some ⟨w7.heap.size, 0, none⟩, 10, 10⟩) (bs10 w7 _ _ _ _ _ _ _ _ _ _) ?_
  have hu7 : Upd w7 (w7.alloc (.cells ⟨bys [1, 3, 0, 97, 98, 99, 6, 144, 91, 247]⟩ 5)) nobody := Upd.alloc _ _ _
  have hr7 := lit_rd (w := w7) (l := [1, 3, 0, 97, 98, 99, 6, 144, 91, 247]) (n := 10) rfl
  have hU7 := hU6.trans hu7
  have hr2 := (((ho2.rd.upd hu3 (fun _ _ h => h)).upd hu4 (fun _ _ h => h)).upd hu5 (fun _ _ h => h)).upd hu6 (fun _ _ h => h) |>.upd hu7 (fun _ _ h => h)
  rw [alive1] at hr2
  refine (same_ok hr2 hr7).mono ?_
  rintro r w8 ⟨rfl, rfl⟩
  rw [SplitB_iff]
  refine ⟨fun _ => ?_, fun h => by simp at h⟩
  refine num_ok.mono ?_
  rintro r w8 ⟨rfl, rfl⟩
  rw [SplitB_iff]
  refine ⟨fun _ => ?_, fun h => by simp at h⟩
  have hl4 := ho4.rd.bys_len
  rw [SplitB_iff]
  refine ⟨fun _ => ?_, fun h => by simp [hl4] at h⟩
  refine num_ok.mono ?_
  rintro r w9 ⟨rfl, rfl⟩
  exact ⟨hU7, rfl⟩

theorem sealed_ok {w : World} {p : Sl} {l : List UInt8} (hr : Rd w p 1 (bys l)) (ht : Tab w) (hl : l.length ≤ 4096) :
    CallK Tryd.prog (.tup (.cons .sl (.cons .bool .nilT))) 20 #[.slice p.a p.len p.cap] w fun (r : Sl × Bool × Unit) w' => Upd w w' nobody ∧ r.2.1 = true ∧ Ow w' w.heap.size 5 1 r.1 (bys (frame l)) := by
  have hlen := hr.bys_len
  refine T20.calls ?_
  unfold T20
  refine RunN.app et22 (by decide) (s := ⟨none, 0, 0⟩) (Ow.nil w w.heap.size 5 1) (Src.ofRd et22 (by decide) hr (bys_one _)) (Nat.le_refl _) (by simp only [maxLen]; omega) (by dsimp only; omega) ?_
  intro s1 w1 h1 ho1 hu1 hb1
  rw [List.nil_append] at ho1
  have hU1 : Upd w w1 nobody := hu1.mono (fun i _ h => by simp [Sl.blk] at h)
  have hs1 := hU1.size
  refine (seal_ok ho1.rd (ht.upd hU1 (fun h => h)) (by omega)).mono ?_
  rintro ⟨s2, e2, ⟨⟩⟩ w2 ⟨hu2, h2⟩
  rcases h2 with ⟨h, _⟩ | ⟨_, h2, ho2, _⟩
  · omega
  dsimp only at h2 ho2
  subst h2
  refine num_ok.mono ?_
  rintro r w3 ⟨rfl, rfl⟩
  rw [SplitB_iff]
  refine ⟨fun _ => ?_, fun h => by simp at h⟩
  have hl2 := ho2.rd.bys_len
  rw [frame_length] at hl2
  refine ⟨hU1.trans hu2, ?_, ho2.base (fun b hb => by have := (ho2.lt hb).1; omega)⟩
  rw [IntWalk.i64_in _ ⟨by omega, by omega⟩]
  simp; omega

/-- What every law needs of its world. -/
theorem copy_ok {w : World} {p : Sl} {l : List UInt8} (hr : Rd w p 1 (bys l)) (hl : l.length ≤ 1048576) {K : Sl → World → Prop}
    (h : ∀ s' w', s'.len = l.length → Ow w' w.heap.size 5 1 s' (bys l) → Upd w w' nobody → K s' w') :
    RunN Tryd.prog .sl (V (Builtin.append_ #[22, 22] 22 #[.slice none 0 0, .slice p.a p.len p.cap])) w K := by
  have hlen := hr.bys_len
  refine RunN.app et22 (by decide) (s := ⟨none, 0, 0⟩) (Ow.nil w w.heap.size 5 1) (Src.ofRd et22 (by decide) hr (bys_one _)) (Nat.le_refl _) (by simp only [maxLen]; omega) (by dsimp only; omega) ?_
  intro s1 w1 h1 ho1 hu1 hb1
  rw [List.nil_append] at ho1
  exact h s1 w1 (by dsimp only at h1; omega) ho1 (hu1.mono (fun i _ h => by simp [Sl.blk] at h))

/-- FrameBack -/
theorem law6 {w : World} {p : Sl} {l : List UInt8} (hr : Rd w p 1 (bys l)) (ht : Tab w) : CallK Tryd.prog .bool 6 #[.slice p.a p.len p.cap] w fun (r : Bool) w' => Upd w w' nobody ∧ r = true := by
  have hlen := hr.bys_len
  refine T6.calls ?_
  unfold T6
  rw [SplitB_iff]
  refine ⟨fun _ => ⟨Upd.refl _ _, rfl⟩, fun h => ?_⟩
  have h : ¬ (p.len : Int) > 65536 := of_decide_eq_false h
  refine (alive_ok ht).mono ?_
  rintro a w1 ⟨hu1, rfl⟩
  rw [SplitB_iff]
  refine ⟨fun h => by simp at h, fun _ => ?_⟩
  have hr1 := hr.upd hu1 (fun _ _ h => h)
  have ht1 := ht.upd hu1 (fun h => h)
  rw [SplitB_iff]
  constructor
  · intro h4
    have h4 : (p.len : Int) > 4096 := of_decide_eq_true h4
    refine (seal_ok hr1 ht1 (by omega)).mono ?_
    rintro ⟨s2, e2, ⟨⟩⟩ w2 ⟨hu2, h2⟩
    rcases h2 with ⟨_, h2⟩ | ⟨h2, _⟩
    · cases h2
      refine num_ok.mono ?_
      rintro r w3 ⟨rfl, rfl⟩
      rw [SplitB_iff]
      exact ⟨fun _ => ⟨hu1.trans hu2, rfl⟩, fun h => by simp at h⟩
    · omega
  · intro h4
    have h4 : ¬ (p.len : Int) > 4096 := of_decide_eq_false h4
    have hl : l.length ≤ 4096 := by omega
    refine (sealed_ok hr1 ht1 hl).mono ?_
    rintro ⟨s2, b2, ⟨⟩⟩ w2 ⟨hu2, h2, ho2⟩
    dsimp only at h2 ho2
    subst h2
    have hU2 := hu1.trans hu2
    refine (open_ok ho2.rd (ht.upd hU2 (fun h => h)) (by rw [frame_length]; omega)).mono ?_
    rintro ⟨s3, e3, ⟨⟩⟩ w3 ⟨hu3, h3, ho3⟩
    dsimp only at h3 ho3
    rw [open_frame hl] at h3 ho3
    subst h3
    rw [SplitB_iff]
    refine ⟨fun _ => ?_, fun h => by simp at h⟩
    refine num_ok.mono ?_
    rintro r w4 ⟨rfl, rfl⟩
    rw [SplitB_iff]
    refine ⟨fun _ => ?_, fun h => by simp at h⟩
    refine (same_ok ho3.rd ((hr1.upd hu2 (fun _ _ h => h)).upd hu3 (fun _ _ h => h))).mono ?_
    rintro r w5 ⟨rfl, rfl⟩
    exact ⟨hU2.trans hu3, by simp⟩

/-- FrameForm -/
theorem law7 {w : World} {p : Sl} {l : List UInt8} (hr : Rd w p 1 (bys l)) (ht : Tab w) : CallK Tryd.prog .bool 7 #[.slice p.a p.len p.cap] w fun (r : Bool) w' => Upd w w' nobody ∧ r = true := by
  have hlen := hr.bys_len
  refine T7.calls ?_
  unfold T7
  rw [SplitB_iff]
  refine ⟨fun _ => ⟨Upd.refl _ _, rfl⟩, fun h => ?_⟩
  have h : ¬ (p.len : Int) > 65536 := of_decide_eq_false h
  refine (alive_ok ht).mono ?_
  rintro a w1 ⟨hu1, rfl⟩
  have hr1 := hr.upd hu1 (fun _ _ h => h)
  refine copy_ok hr1 (by omega) ?_
  intro s2 w2 hl2 ho2 hu2
  have hU2 := hu1.trans hu2
  refine (open_ok ho2.rd (ht.upd hU2 (fun h => h)) (by omega)).mono ?_
  rintro ⟨s3, e3, ⟨⟩⟩ w3 ⟨hu3, h3, ho3⟩
  dsimp only at h3 ho3
  subst h3
  have hU3 := hU2.trans hu3
  have hr3 := (hr1.upd hu2 (fun _ _ h => h)).upd hu3 (fun _ _ h => h)
  have hlen3 := ho3.rd.bys_len
  dsimp only [JoinX]
  rw [SplitB_iff]
  refine ⟨fun h => by simp at h, fun _ => ?_⟩
  refine num_ok.mono ?_
  rintro r w4 ⟨rfl, rfl⟩
  rw [SplitB_iff]
  constructor
  · intro hne
    have hne : (openS l).2 ≠ 0 := by simpa using hne
    have hnil := open_err hne
    rw [SplitB_iff]
    refine ⟨fun _ => ?_, fun h => by simp at h⟩
    rw [SplitB_iff]
    refine ⟨fun _ => ?_, fun h => by simp [hlen3, hnil] at h⟩
    refine num_ok.mono ?_
    rintro r w5 ⟨rfl, rfl⟩
    rw [SplitB_iff]
    refine ⟨fun _ => ⟨hU3, rfl⟩, fun h10 => ?_⟩
    refine num_ok.mono ?_
    rintro r w5 ⟨rfl, rfl⟩
    rw [SplitB_iff]
    refine ⟨fun _ => ⟨hU3, rfl⟩, fun h11 => ?_⟩
    refine num_ok.mono ?_
    rintro r w5 ⟨rfl, rfl⟩
    refine ⟨hU3, ?_⟩
    rcases open_cases l with h0 | ⟨_, h0 | h0 | h0⟩
    · exact absurd h0 hne
    · rw [h0] at h10; simp at h10
    · rw [h0] at h11; simp at h11
    · rw [h0]; rfl
  · intro he
    have he : (openS l).2 = 0 := by simpa using he
    obtain ⟨hpl, hfr⟩ := open_form he
    refine (sealed_ok ho3.rd (ht.upd hU3 (fun h => h)) hpl).mono ?_
    rintro ⟨s5, b5, ⟨⟩⟩ w5 ⟨hu5, h5, ho5⟩
    dsimp only at h5 ho5
    subst h5
    rw [hfr] at ho5
    rw [SplitB_iff]
    refine ⟨fun _ => ?_, fun h => by simp at h⟩
    refine (same_ok ho5.rd (hr3.upd hu5 (fun _ _ h => h))).mono ?_
    rintro r w6 ⟨rfl, rfl⟩
    exact ⟨hU3.trans hu5, by simp⟩

/-- FrameEnds -/
theorem law10 {w : World} {p m : Sl} {i : Int} {l k : List UInt8} (hr : Rd w p 1 (bys l)) (hm : Rd w m 1 (bys k)) (ht : Tab w) : CallK Tryd.prog .bool 10 #[.slice p.a p.len p.cap, .int .i64 i, .slice m.a m.len m.cap] w fun (r : Bool) w' => Upd w w' nobody ∧ r = true := by
  have hlen := hr.bys_len
  have hlenk := hm.bys_len
  refine T10.calls ?_
  unfold T10
  dsimp only [JoinX]
  rw [SplitB_iff]
  refine ⟨fun _ => ?_, fun h => ?_⟩
  · rw [SplitB_iff]; exact ⟨fun _ => ⟨Upd.refl _ _, rfl⟩, fun h => by simp at h⟩
  have h : ¬ (p.len : Int) > 4096 := of_decide_eq_false h
  rw [SplitB_iff]
  refine ⟨fun _ => ⟨Upd.refl _ _, rfl⟩, fun h' => ?_⟩
  have h' : ¬ (m.len : Int) > 4096 := of_decide_eq_false h'
  have hl : l.length ≤ 4096 := by omega
  refine (alive_ok ht).mono ?_
  rintro a w1 ⟨hu1, rfl⟩
  have hr1 := hr.upd hu1 (fun _ _ h => h)
  refine (sealed_ok hr1 (ht.upd hu1 (fun h => h)) hl).mono ?_
  rintro ⟨s2, b2, ⟨⟩⟩ w2 ⟨hu2, h2, ho2⟩
  dsimp only at h2 ho2
  subst h2
  have hU2 := hu1.trans hu2
  have hlen2 := ho2.rd.bys_len
  have hfl := frame_length l
  rw [SplitB_iff]
  refine ⟨fun h => by simp at h, fun _ => ?_⟩
  rw [SplitB_iff]
  refine ⟨fun h => by simp at h, fun _ => ?_⟩
  dsimp only
  refine (slot_ok (by omega) (by omega)).mono ?_
  rintro c w3 ⟨rfl, hc0, hc1⟩
  have hcap2 := ho2.rd.2.2
  refine RunN.subH et22 hc0 (by omega) ?_
  have hs := ho2.rd.sub (lo := 0) (hi := c.toNat) (m := s2.cap) (Nat.zero_le _) (by omega) (by omega)
  have e1 : (List.drop (0 * 1) (bys (frame l))).take ((c.toNat - 0) * 1) = bys ((frame l).take c.toNat) := by simp [bys, List.map_take]
  rw [e1] at hs
  refine (open_ok hs (ht.upd hU2 (fun h => h)) (by simp; omega)).mono ?_
  rintro ⟨s4, e4, ⟨⟩⟩ w4 ⟨hu4, h4, ho4⟩
  dsimp only at h4 ho4
  rw [open_take hl (by omega)] at h4 ho4
  subst h4
  have hU4 := hU2.trans hu4
  have hlen4 := ho4.rd.bys_len
  refine copy_ok (ho2.rd.upd hu4 (fun _ _ h => h)) (by omega) ?_
  intro s5 w5 hl5 ho5 hu5
  have hU5 := hU4.trans hu5
  have hm5 := hm.upd hU5 (fun _ _ h => h)
  have hsz5 := hu5.size
  refine RunN.app et22 (by decide) ho5 (Src.ofRd et22 (by decide) hm5 (bys_one _)) (by omega) (by simp only [maxLen]; omega) (by omega) ?_
  intro s6 w6 h6 ho6 hu6 hb6
  rw [← bys_append] at ho6
  have hU6 : Upd w w6 nobody := hU5.trans' hu6 (fun i hi hlt => by have := (ho5.lt hi).1; have := hU4.size; omega)
  refine (open_ok ho6.rd (ht.upd hU6 (fun h => h)) (by simp; omega)).mono ?_
  rintro ⟨s7, e7, ⟨⟩⟩ w7 ⟨hu7, h7, ho7⟩
  dsimp only at h7 ho7
  have hU7 := hU6.trans hu7
  have hlen7 := ho7.rd.bys_len
  subst h7
  refine num_ok.mono ?_
  rintro r w8 ⟨rfl, rfl⟩
  rw [SplitB_iff]
  refine ⟨fun h => by simp at h, fun _ => ?_⟩
  rw [SplitB_iff]
  refine ⟨fun h => by simp [hlen4] at h, fun _ => ?_⟩
  rw [SplitB_iff]
  constructor
  · intro hz
    have hz : m.len = 0 := by simpa using hz
    have hk : k = [] := List.eq_nil_of_length_eq_zero (by omega)
    subst hk
    rw [List.append_nil, open_frame hl] at *
    refine num_ok.mono ?_
    rintro r w8 ⟨rfl, rfl⟩
    rw [SplitB_iff]
    refine ⟨fun _ => ?_, fun h => by simp at h⟩
    refine (same_ok ho7.rd (hr.upd hU7 (fun _ _ h => h))).mono ?_
    rintro r w9 ⟨rfl, rfl⟩
    exact ⟨hU7, by simp⟩
  · intro hz
    have hz : m.len ≠ 0 := by simpa using hz
    have hk : k ≠ [] := by intro e; subst e; simp at hlenk; exact hz hlenk
    rw [open_more hl hk] at *
    refine num_ok.mono ?_
    rintro r w8 ⟨rfl, rfl⟩
    rw [SplitB_iff]
    refine ⟨fun _ => ⟨hU7, by simp [hlen7]⟩, fun h => by simp at h⟩
end Go.Proofs.YtaocddmmgefeoaaDoor
