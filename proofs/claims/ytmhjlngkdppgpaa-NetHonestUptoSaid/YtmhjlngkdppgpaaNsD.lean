/- A letter moved; the document's own bag. -/
import Derived.Test.YtmhjlngkdppgpaaNsC
namespace Go.Proofs.Ytmhjlngkdppgpaa
open Go Go.Fw Go.RowKit
set_option linter.unusedVariables false
set_option linter.unusedSimpArgs false
set_option maxRecDepth 4000
variable {w0 w : World} {F : Grps} {B : Nat} {cap : Int} {s : Sl} {xs : List (Ltr × Sl)} {ty : Nat}

theorem move_perm {α : Type} (xs : List α) {a b : Nat} (ha : a < xs.length) (hb : b < xs.length) : ((xs.eraseIdx a).insertIdx b xs[a]).Perm xs := by
  rw [insertIdx_td _ _ _ (by rw [List.length_eraseIdx_of_lt ha]; omega)]
  refine List.perm_middle.trans ?_
  rw [List.take_append_drop]
  have := nthO_perm (l := xs) (n := a) (x := xs[a]) (by rw [nthO_get]; simp [ha])
  have e : delO xs a = xs.eraseIdx a := by
    have := delO_map (fun x : α => x) xs a
    simpa using this
  rw [e] at this
  exact this.symm
/-- The letters of a group in another order. -/
theorem lettersPerm {c r : Ent} {xs ys : List (Ltr × Sl)} (h : St w0 w ((c :: r :: xs.map lrow) :: F)) (p : xs.Perm ys) : St w0 w ((c :: r :: ys.map lrow) :: F) := by
  refine h.perm ?_
  simp only [List.flatten_cons]
  exact (((p.map lrow).cons r).cons c).append_right _
theorem move_st (h : St w0 w (bagG 54 B cap s xs :: F)) (hlen : xs.length ≤ 65536) {i j : Int} :
    CallK Try.prog (.int .i64) 15 #[.pointer (some ⟨B, 0, none⟩), .int .i64 i, .int .i64 j] w fun (r : Int) w' =>
      (¬ ((0 ≤ i ∧ i < (xs.length : Int)) ∧ (0 ≤ j ∧ j < (xs.length : Int))) ∧ r = 40 ∧ St w0 w' (bagG 54 B cap s xs :: F)) ∨
      (∃ (a b : Nat) (ha : a < xs.length), b < xs.length ∧ i = (a : Int) ∧ j = (b : Int) ∧ r = 0 ∧ St w0 w' (bagG 54 B cap s ((xs.eraseIdx a).insertIdx b xs[a]) :: F)) := by
  have hl := bag_len h
  refine T15.calls ?_
  unfold T15
  refine JoinX.mk (fun jj w' => w' = w ∧ (jj.1 = false ↔ ((0 ≤ i ∧ i < (xs.length : Int)) ∧ (0 ≤ j ∧ j < (xs.length : Int))))) ?_ ?_
  · rintro ⟨b, ⟨⟩⟩ w ⟨rfl, hb⟩
    rw [SplitB_iff]
    refine ⟨fun hc => ?_, fun hc => ?_⟩
    · dsimp only at hb hc
      subst hc
      exact .inl ⟨fun hh => by simp [hh] at hb, rfl, h⟩
    · dsimp only at hb hc
      subst hc
      obtain ⟨hc, hd⟩ := hb.1 rfl
      obtain ⟨a, rfl⟩ : ∃ k : Nat, i = (k : Int) := ⟨i.toNat, by omega⟩
      obtain ⟨b, rfl⟩ : ∃ k : Nat, j = (k : Int) := ⟨j.toNat, by omega⟩
      have ha : a < xs.length := by omega
      have hb : b < xs.length := by omega
      obtain ⟨g, o, hsa, hlc, hcm⟩ := nil_row h (k := 0) (i := 1) ⟨_, rfl, rfl⟩ (by omega) (by decide)
      repeat (first | (with_reducible refine NilP.mk ?_) | ((with_reducible refine RunN.isLoad ?_); (first | refine h.loadB 0 0 ⟨_, rfl, rfl⟩ rfl rfl ?_ | refine h.drew.loadB 0 0 ⟨_, rfl, rfl⟩ rfl rfl ?_)) | ((with_reducible refine ReadN.isLoad ?_); (first | refine h.readB 0 0 ⟨_, rfl, rfl⟩ rfl rfl ?_ | refine h.drew.readB 0 0 ⟨_, rfl, rfl⟩ rfl rfl ?_)) | ((with_reducible refine StillV.isLoad ?_); (first | refine ⟨h.stillB 0 0 ⟨_, rfl, rfl⟩ rfl rfl, ?_⟩)) | ((with_reducible refine RunU.isStor ?_); (first | (refine h.storB 0 0 ⟨_, rfl, rfl⟩ rfl rfl rfl ?_; intro w h; dsimp only [updG, setO] at h) | (refine h.drew.storB 0 0 ⟨_, rfl, rfl⟩ rfl rfl rfl ?_; intro w h; dsimp only [updG, setO] at h))) | ((with_reducible refine RunN.isBox ?_); (first | (refine h.newB run_boxA rfl ?_; intro bn w h; try dsimp only at h) | (refine h.drew.newB run_boxA rfl ?_; intro bn w h; try dsimp only at h))) | ((with_reducible refine RunN.isNew ?_); (first | (refine h.newB (NewC.run _) rfl ?_; intro bn w h) | (refine h.drew.newB (NewC.run _) rfl ?_; intro bn w h))))
      refine (h.rd (k := 0) (i := 1) ⟨_, rfl, rfl⟩).idxK a rfl (by omega) ?_
      intro b' o' hb'
      refine (h.rd (k := 0) (i := 1) ⟨_, rfl, rfl⟩).elA hb' (a * 3) rfl (xs[a].1.f, xs[a].1.t, xs[a].2, ()) (row_at _ _ ha) ?_
      first | refine h.newB (NewC.run _) rfl ?_ | refine h.drew.newB (NewC.run _) rfl ?_
      intro t7 w h
      try dsimp only at h
      refine h.storA 0 0 ⟨_, rfl, rfl⟩ rfl (hk := ?_)
      intro w h
      dsimp only [updG, setO] at h
      simp only [List.take_zero, List.drop, List.nil_append, List.append_nil, Nat.zero_add] at h
      refine JoinX.mk (fun _ w' => ∃ (zs : List (Ltr × Sl)), zs.length = xs.length ∧ zs.take b ++ [xs[a]] ++ zs.drop (b + 1) = (xs.eraseIdx a).insertIdx b xs[a] ∧
        St w0 w' ([.cel t7 31 [.int .i64 xs[a].1.f, .int .i64 xs[a].1.t, .slice xs[a].2.a xs[a].2.len xs[a].2.cap]] :: (.cel B 54 [.int .i64 cap, .slice s.a s.len s.cap] :: .row 31 3 s (row zs) :: xs.map lrow) :: F)) ?_ ?_
      · rintro ⟨⟩ w ⟨zs, hzl, hz, h⟩
        repeat (first | (with_reducible refine NilP.mk ?_) | ((with_reducible refine RunN.isLoad ?_); (first | refine h.loadB 0 0 ⟨_, rfl, rfl⟩ rfl rfl ?_ | refine h.loadB 1 0 ⟨_, rfl, rfl⟩ rfl rfl ?_ | refine h.drew.loadB 0 0 ⟨_, rfl, rfl⟩ rfl rfl ?_ | refine h.drew.loadB 1 0 ⟨_, rfl, rfl⟩ rfl rfl ?_)) | ((with_reducible refine ReadN.isLoad ?_); (first | refine h.readB 0 0 ⟨_, rfl, rfl⟩ rfl rfl ?_ | refine h.readB 1 0 ⟨_, rfl, rfl⟩ rfl rfl ?_ | refine h.drew.readB 0 0 ⟨_, rfl, rfl⟩ rfl rfl ?_ | refine h.drew.readB 1 0 ⟨_, rfl, rfl⟩ rfl rfl ?_)) | ((with_reducible refine StillV.isLoad ?_); (first | refine ⟨h.stillB 0 0 ⟨_, rfl, rfl⟩ rfl rfl, ?_⟩ | refine ⟨h.stillB 1 0 ⟨_, rfl, rfl⟩ rfl rfl, ?_⟩)) | ((with_reducible refine RunU.isStor ?_); (first | (refine h.storB 0 0 ⟨_, rfl, rfl⟩ rfl rfl rfl ?_; intro w h; dsimp only [updG, setO] at h) | (refine h.storB 1 0 ⟨_, rfl, rfl⟩ rfl rfl rfl ?_; intro w h; dsimp only [updG, setO] at h) | (refine h.drew.storB 0 0 ⟨_, rfl, rfl⟩ rfl rfl rfl ?_; intro w h; dsimp only [updG, setO] at h) | (refine h.drew.storB 1 0 ⟨_, rfl, rfl⟩ rfl rfl rfl ?_; intro w h; dsimp only [updG, setO] at h))) | ((with_reducible refine RunN.isBox ?_); (first | (refine h.newB run_boxA rfl ?_; intro bn w h; try dsimp only at h) | (refine h.drew.newB run_boxA rfl ?_; intro bn w h; try dsimp only at h))) | ((with_reducible refine RunN.isNew ?_); (first | (refine h.newB (NewC.run _) rfl ?_; intro bn w h) | (refine h.drew.newB (NewC.run _) rfl ?_; intro bn w h))))
        refine h.drew.readA 0 0 ⟨_, rfl, rfl⟩ rfl (xs[a].1.f, xs[a].1.t, xs[a].2, ()) (hk := ?_)
        refine (h.drew.rd (k := 1) (i := 1) ⟨_, rfl, rfl⟩).idxR b rfl (by omega) ?_
        intro b'' o'' hb''
        refine h.drew.storRA 1 1 ⟨_, rfl, rfl⟩ hb'' (b * 3) rfl (by rw [row_len]; omega) (hk := ?_)
        intro w h
        dsimp only [updG, setO] at h
        have e : List.take (b * 3) (row zs) ++ [.int .i64 xs[a].1.f, .int .i64 xs[a].1.t, .slice xs[a].2.a xs[a].2.len xs[a].2.cap] ++ List.drop (b * 3 + 3) (row zs) = row ((xs.eraseIdx a).insertIdx b xs[a]) := by
          rw [← hz, row_append, row_append, row_take, show b * 3 + 3 = (b + 1) * 3 by omega, row_drop]
          rfl
        rw [e] at h
        exact .inr ⟨a, b, ha, hb, rfl, rfl, rfl, lettersPerm (h.drop 0) (move_perm xs ha hb).symm⟩
      · intro k hk
        rw [SplitB_iff]
        refine ⟨fun hij => ?_, fun hij => ?_⟩
        · have hij : a < b := by have := of_decide_eq_true hij; omega
          repeat (first | (with_reducible refine NilP.mk ?_) | ((with_reducible refine RunN.isLoad ?_); (first | refine h.loadB 0 0 ⟨_, rfl, rfl⟩ rfl rfl ?_ | refine h.loadB 1 0 ⟨_, rfl, rfl⟩ rfl rfl ?_ | refine h.drew.loadB 0 0 ⟨_, rfl, rfl⟩ rfl rfl ?_ | refine h.drew.loadB 1 0 ⟨_, rfl, rfl⟩ rfl rfl ?_)) | ((with_reducible refine ReadN.isLoad ?_); (first | refine h.readB 0 0 ⟨_, rfl, rfl⟩ rfl rfl ?_ | refine h.readB 1 0 ⟨_, rfl, rfl⟩ rfl rfl ?_ | refine h.drew.readB 0 0 ⟨_, rfl, rfl⟩ rfl rfl ?_ | refine h.drew.readB 1 0 ⟨_, rfl, rfl⟩ rfl rfl ?_)) | ((with_reducible refine StillV.isLoad ?_); (first | refine ⟨h.stillB 0 0 ⟨_, rfl, rfl⟩ rfl rfl, ?_⟩ | refine ⟨h.stillB 1 0 ⟨_, rfl, rfl⟩ rfl rfl, ?_⟩)) | ((with_reducible refine RunU.isStor ?_); (first | (refine h.storB 0 0 ⟨_, rfl, rfl⟩ rfl rfl rfl ?_; intro w h; dsimp only [updG, setO] at h) | (refine h.storB 1 0 ⟨_, rfl, rfl⟩ rfl rfl rfl ?_; intro w h; dsimp only [updG, setO] at h) | (refine h.drew.storB 0 0 ⟨_, rfl, rfl⟩ rfl rfl rfl ?_; intro w h; dsimp only [updG, setO] at h) | (refine h.drew.storB 1 0 ⟨_, rfl, rfl⟩ rfl rfl rfl ?_; intro w h; dsimp only [updG, setO] at h))) | ((with_reducible refine RunN.isBox ?_); (first | (refine h.newB run_boxA rfl ?_; intro bn w h; try dsimp only at h) | (refine h.drew.newB run_boxA rfl ?_; intro bn w h; try dsimp only at h))) | ((with_reducible refine RunN.isNew ?_); (first | (refine h.newB (NewC.run _) rfl ?_; intro bn w h) | (refine h.drew.newB (NewC.run _) rfl ?_; intro bn w h))))
          refine ReadN.sLH a b rfl rfl (by omega) (by omega) ?_
          repeat (first | (with_reducible refine NilP.mk ?_) | ((with_reducible refine RunN.isLoad ?_); (first | refine h.loadB 0 0 ⟨_, rfl, rfl⟩ rfl rfl ?_ | refine h.loadB 1 0 ⟨_, rfl, rfl⟩ rfl rfl ?_ | refine h.drew.loadB 0 0 ⟨_, rfl, rfl⟩ rfl rfl ?_ | refine h.drew.loadB 1 0 ⟨_, rfl, rfl⟩ rfl rfl ?_)) | ((with_reducible refine ReadN.isLoad ?_); (first | refine h.readB 0 0 ⟨_, rfl, rfl⟩ rfl rfl ?_ | refine h.readB 1 0 ⟨_, rfl, rfl⟩ rfl rfl ?_ | refine h.drew.readB 0 0 ⟨_, rfl, rfl⟩ rfl rfl ?_ | refine h.drew.readB 1 0 ⟨_, rfl, rfl⟩ rfl rfl ?_)) | ((with_reducible refine StillV.isLoad ?_); (first | refine ⟨h.stillB 0 0 ⟨_, rfl, rfl⟩ rfl rfl, ?_⟩ | refine ⟨h.stillB 1 0 ⟨_, rfl, rfl⟩ rfl rfl, ?_⟩)) | ((with_reducible refine RunU.isStor ?_); (first | (refine h.storB 0 0 ⟨_, rfl, rfl⟩ rfl rfl rfl ?_; intro w h; dsimp only [updG, setO] at h) | (refine h.storB 1 0 ⟨_, rfl, rfl⟩ rfl rfl rfl ?_; intro w h; dsimp only [updG, setO] at h) | (refine h.drew.storB 0 0 ⟨_, rfl, rfl⟩ rfl rfl rfl ?_; intro w h; dsimp only [updG, setO] at h) | (refine h.drew.storB 1 0 ⟨_, rfl, rfl⟩ rfl rfl rfl ?_; intro w h; dsimp only [updG, setO] at h))) | ((with_reducible refine RunN.isBox ?_); (first | (refine h.newB run_boxA rfl ?_; intro bn w h; try dsimp only at h) | (refine h.drew.newB run_boxA rfl ?_; intro bn w h; try dsimp only at h))) | ((with_reducible refine RunN.isNew ?_); (first | (refine h.newB (NewC.run _) rfl ?_; intro bn w h) | (refine h.drew.newB (NewC.run _) rfl ?_; intro bn w h))))
          refine ReadN.sL (a + 1) (by rw [wr (by omega)]; omega) (by omega) ?_
          have hrd := (h.drew.rd (k := 1) (i := 1) ⟨_, rfl, rfl⟩).suf (lo := a + 1) (by omega)
          rw [row_drop] at hrd
          refine h.drew.copy 1 1 ⟨_, rfl, rfl⟩ a (fun b o hb _ => subS_addr hb (by omega)) (by simp only [subS]; omega) hrd (row_one _) ?_
          intro w h
          dsimp only [updG, setO, bagG] at h
          have hmin : Nat.min (subS s (a + 1) s.len 3).len (subS s a b 3).len = b - a := by
            simp only [subS]; exact Nat.min_eq_right (by omega)
          rw [hmin, row_take, row_take, row_drop, ← row_append, ← row_append, show a + (b - a) = b by omega] at h
          refine hk () w ⟨_, ?_, move_list1 xs hij hb xs[a], h⟩
          simp; omega
        · have hij : b ≤ a := by have := of_decide_eq_false hij; omega
          repeat (first | (with_reducible refine NilP.mk ?_) | ((with_reducible refine RunN.isLoad ?_); (first | refine h.loadB 0 0 ⟨_, rfl, rfl⟩ rfl rfl ?_ | refine h.loadB 1 0 ⟨_, rfl, rfl⟩ rfl rfl ?_ | refine h.drew.loadB 0 0 ⟨_, rfl, rfl⟩ rfl rfl ?_ | refine h.drew.loadB 1 0 ⟨_, rfl, rfl⟩ rfl rfl ?_)) | ((with_reducible refine ReadN.isLoad ?_); (first | refine h.readB 0 0 ⟨_, rfl, rfl⟩ rfl rfl ?_ | refine h.readB 1 0 ⟨_, rfl, rfl⟩ rfl rfl ?_ | refine h.drew.readB 0 0 ⟨_, rfl, rfl⟩ rfl rfl ?_ | refine h.drew.readB 1 0 ⟨_, rfl, rfl⟩ rfl rfl ?_)) | ((with_reducible refine StillV.isLoad ?_); (first | refine ⟨h.stillB 0 0 ⟨_, rfl, rfl⟩ rfl rfl, ?_⟩ | refine ⟨h.stillB 1 0 ⟨_, rfl, rfl⟩ rfl rfl, ?_⟩)) | ((with_reducible refine RunU.isStor ?_); (first | (refine h.storB 0 0 ⟨_, rfl, rfl⟩ rfl rfl rfl ?_; intro w h; dsimp only [updG, setO] at h) | (refine h.storB 1 0 ⟨_, rfl, rfl⟩ rfl rfl rfl ?_; intro w h; dsimp only [updG, setO] at h) | (refine h.drew.storB 0 0 ⟨_, rfl, rfl⟩ rfl rfl rfl ?_; intro w h; dsimp only [updG, setO] at h) | (refine h.drew.storB 1 0 ⟨_, rfl, rfl⟩ rfl rfl rfl ?_; intro w h; dsimp only [updG, setO] at h))) | ((with_reducible refine RunN.isBox ?_); (first | (refine h.newB run_boxA rfl ?_; intro bn w h; try dsimp only at h) | (refine h.drew.newB run_boxA rfl ?_; intro bn w h; try dsimp only at h))) | ((with_reducible refine RunN.isNew ?_); (first | (refine h.newB (NewC.run _) rfl ?_; intro bn w h) | (refine h.drew.newB (NewC.run _) rfl ?_; intro bn w h))))
          refine ReadN.sLH (b + 1) (a + 1) (by rw [wr (by omega)]; omega) (by rw [wr (by omega)]; omega) (by omega) (by omega) ?_
          repeat (first | (with_reducible refine NilP.mk ?_) | ((with_reducible refine RunN.isLoad ?_); (first | refine h.loadB 0 0 ⟨_, rfl, rfl⟩ rfl rfl ?_ | refine h.loadB 1 0 ⟨_, rfl, rfl⟩ rfl rfl ?_ | refine h.drew.loadB 0 0 ⟨_, rfl, rfl⟩ rfl rfl ?_ | refine h.drew.loadB 1 0 ⟨_, rfl, rfl⟩ rfl rfl ?_)) | ((with_reducible refine ReadN.isLoad ?_); (first | refine h.readB 0 0 ⟨_, rfl, rfl⟩ rfl rfl ?_ | refine h.readB 1 0 ⟨_, rfl, rfl⟩ rfl rfl ?_ | refine h.drew.readB 0 0 ⟨_, rfl, rfl⟩ rfl rfl ?_ | refine h.drew.readB 1 0 ⟨_, rfl, rfl⟩ rfl rfl ?_)) | ((with_reducible refine StillV.isLoad ?_); (first | refine ⟨h.stillB 0 0 ⟨_, rfl, rfl⟩ rfl rfl, ?_⟩ | refine ⟨h.stillB 1 0 ⟨_, rfl, rfl⟩ rfl rfl, ?_⟩)) | ((with_reducible refine RunU.isStor ?_); (first | (refine h.storB 0 0 ⟨_, rfl, rfl⟩ rfl rfl rfl ?_; intro w h; dsimp only [updG, setO] at h) | (refine h.storB 1 0 ⟨_, rfl, rfl⟩ rfl rfl rfl ?_; intro w h; dsimp only [updG, setO] at h) | (refine h.drew.storB 0 0 ⟨_, rfl, rfl⟩ rfl rfl rfl ?_; intro w h; dsimp only [updG, setO] at h) | (refine h.drew.storB 1 0 ⟨_, rfl, rfl⟩ rfl rfl rfl ?_; intro w h; dsimp only [updG, setO] at h))) | ((with_reducible refine RunN.isBox ?_); (first | (refine h.newB run_boxA rfl ?_; intro bn w h; try dsimp only at h) | (refine h.drew.newB run_boxA rfl ?_; intro bn w h; try dsimp only at h))) | ((with_reducible refine RunN.isNew ?_); (first | (refine h.newB (NewC.run _) rfl ?_; intro bn w h) | (refine h.drew.newB (NewC.run _) rfl ?_; intro bn w h))))
          refine ReadN.sL b rfl (by omega) ?_
          have hrd := (h.drew.rd (k := 1) (i := 1) ⟨_, rfl, rfl⟩).suf (lo := b) (by omega)
          rw [row_drop] at hrd
          refine h.drew.copy 1 1 ⟨_, rfl, rfl⟩ (b + 1) (fun b' o hb' h0 => subS_addr hb' (by simp only [subS] at h0; omega)) (by simp only [subS]; omega) hrd (row_one _) ?_
          intro w h
          dsimp only [updG, setO, bagG] at h
          have hmin : Nat.min (subS s b s.len 3).len (subS s (b + 1) (a + 1) 3).len = a - b := by
            simp only [subS]; exact (Nat.min_eq_right (by omega)).trans (by omega)
          rw [hmin, row_take, row_take, row_drop, ← row_append, ← row_append, show b + 1 + (a - b) = a + 1 by omega] at h
          refine hk () w ⟨_, ?_, move_list2 xs hij ha xs[a], h⟩
          simp; omega
  · intro k hk
    refine (in_st h (i := i)).mono ?_
    rintro r w ⟨rfl, rfl⟩
    rw [SplitB_iff]
    refine ⟨fun hc => ?_, fun hc => ?_⟩
    · have hc : ¬ (0 ≤ i ∧ i < (xs.length : Int)) := by simp at hc; omega
      exact hk _ _ ⟨rfl, by simp; omega⟩
    · have hc : 0 ≤ i ∧ i < (xs.length : Int) := by simpa using hc
      refine (in_st h (i := j)).mono ?_
      rintro r w ⟨rfl, rfl⟩
      refine hk _ _ ⟨rfl, ?_⟩
      simp; omega

/-! ### the document's own -/
theorem rnew_st (h : St w0 w F) {n : Int} : CallK Try.prog (.tup (.cons .ptr (.cons (.int .i64) .nilT))) 31 #[.int .i64 n] w fun (r : Option Addr × Int × Unit) w' =>
    (1 ≤ n ∧ n ≤ 1024 ∧ ∃ B, r = (some ⟨B, 0, none⟩, 0, ()) ∧ St w0 w' (bagG 72 B n ⟨none, 0, 0⟩ [] :: F)) ∨ (¬ (1 ≤ n ∧ n ≤ 1024) ∧ r = (none, 1, ()) ∧ St w0 w' F) := by
  refine T31.calls ?_
  unfold T31
  dsimp only [JoinX]
  rw [SplitB_iff]
  refine ⟨fun h1 => ?_, fun h1 => ?_⟩
  · have h1 : n < 1 := of_decide_eq_true h1
    exact .inr ⟨by omega, rfl, h⟩
  · have h1 : ¬ n < 1 := of_decide_eq_false h1
    rw [SplitB_iff]
    refine ⟨fun h2 => ?_, fun h2 => ?_⟩
    · have h2 : n > 1024 := of_decide_eq_true h2
      exact .inr ⟨by omega, rfl, h⟩
    · have h2 : ¬ n > 1024 := of_decide_eq_false h2
      refine h.newB (run_box rfl) rfl ?_
      intro B w h
      refine .inl ⟨by omega, by omega, B, rfl, ?_⟩
      have h := ((h.nilrow 31 3).bring 1 rfl)
      exact h.perm (by simp [delO, bagG, row])
theorem rin_st (h : St w0 w (bagG ty B cap s xs :: F)) {i : Int} : CallK Try.prog .bool 43 #[.pointer (some ⟨B, 0, none⟩), .int .i64 i] w fun (r : Bool) w' => w' = w ∧ r = decide (0 ≤ i ∧ i < (xs.length : Int)) := by
  have hl := bag_len h
  refine T43.calls ?_
  unfold T43
  rw [SplitB_iff]
  refine ⟨fun h0 => ?_, fun h0 => ?_⟩
  · have h0 : i ≥ 0 := of_decide_eq_true h0
    repeat (first | (with_reducible refine NilP.mk ?_) | ((with_reducible refine RunN.isLoad ?_); (first | refine h.loadB 0 0 ⟨_, rfl, rfl⟩ rfl rfl ?_ | refine h.drew.loadB 0 0 ⟨_, rfl, rfl⟩ rfl rfl ?_)) | ((with_reducible refine ReadN.isLoad ?_); (first | refine h.readB 0 0 ⟨_, rfl, rfl⟩ rfl rfl ?_ | refine h.drew.readB 0 0 ⟨_, rfl, rfl⟩ rfl rfl ?_)) | ((with_reducible refine StillV.isLoad ?_); (first | refine ⟨h.stillB 0 0 ⟨_, rfl, rfl⟩ rfl rfl, ?_⟩)) | ((with_reducible refine RunU.isStor ?_); (first | (refine h.storB 0 0 ⟨_, rfl, rfl⟩ rfl rfl rfl ?_; intro w h; dsimp only [updG, setO] at h) | (refine h.drew.storB 0 0 ⟨_, rfl, rfl⟩ rfl rfl rfl ?_; intro w h; dsimp only [updG, setO] at h))) | ((with_reducible refine RunN.isBox ?_); (first | (refine h.newB run_boxA rfl ?_; intro bn w h; try dsimp only at h) | (refine h.drew.newB run_boxA rfl ?_; intro bn w h; try dsimp only at h))) | ((with_reducible refine RunN.isNew ?_); (first | (refine h.newB (NewC.run _) rfl ?_; intro bn w h) | (refine h.drew.newB (NewC.run _) rfl ?_; intro bn w h))))
    refine ⟨rfl, ?_⟩
    rw [hl]; simp; omega
  · have h0 : ¬ i ≥ 0 := of_decide_eq_false h0
    exact ⟨rfl, by simp; omega⟩
theorem bs29 (w : World) (x : Int) : (Instr.buildSlice 29 1 #[(0, .int .u8 x)]).run Try.prog w = .ok (.slice (some ⟨w.heap.size, 0, none⟩) 1 1) (w.alloc (.cells ⟨[.int .u8 x]⟩ 5)) := by kernel_rfl
theorem bys_take_succ {m : List UInt8} {k : Nat} (h : k < m.length) : bys (m.take (k + 1)) = bys (m.take k) ++ [u8v m[k]] := by
  rw [List.take_succ_eq_append_getElem h, bys_append]; rfl
theorem rown_st {wi : World} {f t : Int} {p : Sl} {m : List UInt8} (hr : Rd wi p 1 (bys m)) (hm : m.length ≤ big) :
    CallK Try.prog KL 44 #[.agg #[.int .i64 f, .int .i64 t, .slice p.a p.len p.cap]] wi fun (r : Int × Int × Sl × Unit) w' => r.1 = f ∧ r.2.1 = t ∧ St wi w' [[.row 5 1 r.2.2.1 (bys m)]] := by
  have hpl := hr.bys_len
  have hmb : m.length ≤ 140737488355328 := hm
  refine T44.calls (p0 := (f, t, p, ())) ?_
  unfold T44
  have h := St.init wi
  first | refine h.newB run_boxA rfl ?_ | refine h.drew.newB run_boxA rfl ?_
  intro t1 w h
  try dsimp only at h
  first | refine h.newB (NewC.run _) rfl ?_ | refine h.drew.newB (NewC.run _) rfl ?_
  intro t2 w h
  try dsimp only at h
  have h := h.nilrow 5 1
  refine LoopX.mk (fun st w' => ∃ k, k ≤ m.length ∧ st.2.1 = (k : Int) ∧ St wi w' ([.row 5 1 st.1 (bys (m.take k))] :: [.cel t2 31 [.int .i64 0, .int .i64 0, .slice none 0 0]] :: [.cel t1 31 [.int .i64 f, .int .i64 t, .slice p.a p.len p.cap]] :: [])) (fun st => m.length - st.2.1.toNat) ⟨0, Nat.zero_le _, rfl, h⟩ ?_
  rintro ⟨q, i, ⟨⟩⟩ w ⟨k, hk, hi, h⟩ K hK
  dsimp only at hi h
  subst hi
  have hql := (h.rd (k := 0) (i := 0) ⟨_, rfl, rfl⟩).1
  rw [bys_length, List.length_take] at hql
  repeat (first | (with_reducible refine NilP.mk ?_) | ((with_reducible refine RunN.isLoad ?_); (first | refine h.loadB 0 0 ⟨_, rfl, rfl⟩ rfl rfl ?_ | refine h.loadB 1 0 ⟨_, rfl, rfl⟩ rfl rfl ?_ | refine h.loadB 2 0 ⟨_, rfl, rfl⟩ rfl rfl ?_ | refine h.drew.loadB 0 0 ⟨_, rfl, rfl⟩ rfl rfl ?_ | refine h.drew.loadB 1 0 ⟨_, rfl, rfl⟩ rfl rfl ?_ | refine h.drew.loadB 2 0 ⟨_, rfl, rfl⟩ rfl rfl ?_)) | ((with_reducible refine ReadN.isLoad ?_); (first | refine h.readB 0 0 ⟨_, rfl, rfl⟩ rfl rfl ?_ | refine h.readB 1 0 ⟨_, rfl, rfl⟩ rfl rfl ?_ | refine h.readB 2 0 ⟨_, rfl, rfl⟩ rfl rfl ?_ | refine h.drew.readB 0 0 ⟨_, rfl, rfl⟩ rfl rfl ?_ | refine h.drew.readB 1 0 ⟨_, rfl, rfl⟩ rfl rfl ?_ | refine h.drew.readB 2 0 ⟨_, rfl, rfl⟩ rfl rfl ?_)) | ((with_reducible refine StillV.isLoad ?_); (first | refine ⟨h.stillB 0 0 ⟨_, rfl, rfl⟩ rfl rfl, ?_⟩ | refine ⟨h.stillB 1 0 ⟨_, rfl, rfl⟩ rfl rfl, ?_⟩ | refine ⟨h.stillB 2 0 ⟨_, rfl, rfl⟩ rfl rfl, ?_⟩)) | ((with_reducible refine RunU.isStor ?_); (first | (refine h.storB 0 0 ⟨_, rfl, rfl⟩ rfl rfl rfl ?_; intro w h; dsimp only [updG, setO] at h) | (refine h.storB 1 0 ⟨_, rfl, rfl⟩ rfl rfl rfl ?_; intro w h; dsimp only [updG, setO] at h) | (refine h.storB 2 0 ⟨_, rfl, rfl⟩ rfl rfl rfl ?_; intro w h; dsimp only [updG, setO] at h) | (refine h.drew.storB 0 0 ⟨_, rfl, rfl⟩ rfl rfl rfl ?_; intro w h; dsimp only [updG, setO] at h) | (refine h.drew.storB 1 0 ⟨_, rfl, rfl⟩ rfl rfl rfl ?_; intro w h; dsimp only [updG, setO] at h) | (refine h.drew.storB 2 0 ⟨_, rfl, rfl⟩ rfl rfl rfl ?_; intro w h; dsimp only [updG, setO] at h))) | ((with_reducible refine RunN.isBox ?_); (first | (refine h.newB run_boxA rfl ?_; intro bn w h; try dsimp only at h) | (refine h.drew.newB run_boxA rfl ?_; intro bn w h; try dsimp only at h))) | ((with_reducible refine RunN.isNew ?_); (first | (refine h.newB (NewC.run _) rfl ?_; intro bn w h) | (refine h.drew.newB (NewC.run _) rfl ?_; intro bn w h))))
  rw [SplitB_iff]
  refine ⟨fun hc => ?_, fun hc => ?_⟩
  · have hc : k < m.length := by have := of_decide_eq_true hc; simp only [hpl] at this; omega
    repeat (first | (with_reducible refine NilP.mk ?_) | ((with_reducible refine RunN.isLoad ?_); (first | refine h.loadB 0 0 ⟨_, rfl, rfl⟩ rfl rfl ?_ | refine h.loadB 1 0 ⟨_, rfl, rfl⟩ rfl rfl ?_ | refine h.loadB 2 0 ⟨_, rfl, rfl⟩ rfl rfl ?_ | refine h.drew.loadB 0 0 ⟨_, rfl, rfl⟩ rfl rfl ?_ | refine h.drew.loadB 1 0 ⟨_, rfl, rfl⟩ rfl rfl ?_ | refine h.drew.loadB 2 0 ⟨_, rfl, rfl⟩ rfl rfl ?_)) | ((with_reducible refine ReadN.isLoad ?_); (first | refine h.readB 0 0 ⟨_, rfl, rfl⟩ rfl rfl ?_ | refine h.readB 1 0 ⟨_, rfl, rfl⟩ rfl rfl ?_ | refine h.readB 2 0 ⟨_, rfl, rfl⟩ rfl rfl ?_ | refine h.drew.readB 0 0 ⟨_, rfl, rfl⟩ rfl rfl ?_ | refine h.drew.readB 1 0 ⟨_, rfl, rfl⟩ rfl rfl ?_ | refine h.drew.readB 2 0 ⟨_, rfl, rfl⟩ rfl rfl ?_)) | ((with_reducible refine StillV.isLoad ?_); (first | refine ⟨h.stillB 0 0 ⟨_, rfl, rfl⟩ rfl rfl, ?_⟩ | refine ⟨h.stillB 1 0 ⟨_, rfl, rfl⟩ rfl rfl, ?_⟩ | refine ⟨h.stillB 2 0 ⟨_, rfl, rfl⟩ rfl rfl, ?_⟩)) | ((with_reducible refine RunU.isStor ?_); (first | (refine h.storB 0 0 ⟨_, rfl, rfl⟩ rfl rfl rfl ?_; intro w h; dsimp only [updG, setO] at h) | (refine h.storB 1 0 ⟨_, rfl, rfl⟩ rfl rfl rfl ?_; intro w h; dsimp only [updG, setO] at h) | (refine h.storB 2 0 ⟨_, rfl, rfl⟩ rfl rfl rfl ?_; intro w h; dsimp only [updG, setO] at h) | (refine h.drew.storB 0 0 ⟨_, rfl, rfl⟩ rfl rfl rfl ?_; intro w h; dsimp only [updG, setO] at h) | (refine h.drew.storB 1 0 ⟨_, rfl, rfl⟩ rfl rfl rfl ?_; intro w h; dsimp only [updG, setO] at h) | (refine h.drew.storB 2 0 ⟨_, rfl, rfl⟩ rfl rfl rfl ?_; intro w h; dsimp only [updG, setO] at h))) | ((with_reducible refine RunN.isBox ?_); (first | (refine h.newB run_boxA rfl ?_; intro bn w h; try dsimp only at h) | (refine h.drew.newB run_boxA rfl ?_; intro bn w h; try dsimp only at h))) | ((with_reducible refine RunN.isNew ?_); (first | (refine h.newB (NewC.run _) rfl ?_; intro bn w h) | (refine h.drew.newB (NewC.run _) rfl ?_; intro bn w h))))
    refine (h.old hr).idxK k rfl (by omega) ?_
    intro b o hb
    refine (h.old hr).el hb (k * 1) rfl (kd := .int .u8) (x := (m[k].toNat : Int)) (by rw [Nat.mul_one]; exact bys_get hc) ?_
    refine h.newS 1 (bs29 _ _) rfl rfl rfl ?_
    intro s4 w h1 h2 h3 h
    refine h.app 1 0 ⟨_, rfl, rfl⟩ (h.rd (k := 0) (i := 0) ⟨_, rfl, rfl⟩) (fun v hv => by simp at hv; subst hv; rfl) (by simp only [maxLen]; omega) (by omega) ?_
    intro s5 w h5 h
    dsimp only [updG, setO] at h
    have h := h.drop 0
    refine hK _ _ ⟨k + 1, hc, by dsimp only; rw [wr (by omega)]; omega, ?_⟩ (by dsimp only; rw [wr (by omega)]; omega)
    rw [bys_take_succ hc]; exact h
  · have hc : k = m.length := by have := of_decide_eq_false hc; simp only [hpl] at this; omega
    subst hc
    rw [List.take_length] at h
    repeat (first | (with_reducible refine NilP.mk ?_) | ((with_reducible refine RunN.isLoad ?_); (first | refine h.loadB 0 0 ⟨_, rfl, rfl⟩ rfl rfl ?_ | refine h.loadB 1 0 ⟨_, rfl, rfl⟩ rfl rfl ?_ | refine h.loadB 2 0 ⟨_, rfl, rfl⟩ rfl rfl ?_ | refine h.drew.loadB 0 0 ⟨_, rfl, rfl⟩ rfl rfl ?_ | refine h.drew.loadB 1 0 ⟨_, rfl, rfl⟩ rfl rfl ?_ | refine h.drew.loadB 2 0 ⟨_, rfl, rfl⟩ rfl rfl ?_)) | ((with_reducible refine ReadN.isLoad ?_); (first | refine h.readB 0 0 ⟨_, rfl, rfl⟩ rfl rfl ?_ | refine h.readB 1 0 ⟨_, rfl, rfl⟩ rfl rfl ?_ | refine h.readB 2 0 ⟨_, rfl, rfl⟩ rfl rfl ?_ | refine h.drew.readB 0 0 ⟨_, rfl, rfl⟩ rfl rfl ?_ | refine h.drew.readB 1 0 ⟨_, rfl, rfl⟩ rfl rfl ?_ | refine h.drew.readB 2 0 ⟨_, rfl, rfl⟩ rfl rfl ?_)) | ((with_reducible refine StillV.isLoad ?_); (first | refine ⟨h.stillB 0 0 ⟨_, rfl, rfl⟩ rfl rfl, ?_⟩ | refine ⟨h.stillB 1 0 ⟨_, rfl, rfl⟩ rfl rfl, ?_⟩ | refine ⟨h.stillB 2 0 ⟨_, rfl, rfl⟩ rfl rfl, ?_⟩)) | ((with_reducible refine RunU.isStor ?_); (first | (refine h.storB 0 0 ⟨_, rfl, rfl⟩ rfl rfl rfl ?_; intro w h; dsimp only [updG, setO] at h) | (refine h.storB 1 0 ⟨_, rfl, rfl⟩ rfl rfl rfl ?_; intro w h; dsimp only [updG, setO] at h) | (refine h.storB 2 0 ⟨_, rfl, rfl⟩ rfl rfl rfl ?_; intro w h; dsimp only [updG, setO] at h) | (refine h.drew.storB 0 0 ⟨_, rfl, rfl⟩ rfl rfl rfl ?_; intro w h; dsimp only [updG, setO] at h) | (refine h.drew.storB 1 0 ⟨_, rfl, rfl⟩ rfl rfl rfl ?_; intro w h; dsimp only [updG, setO] at h) | (refine h.drew.storB 2 0 ⟨_, rfl, rfl⟩ rfl rfl rfl ?_; intro w h; dsimp only [updG, setO] at h))) | ((with_reducible refine RunN.isBox ?_); (first | (refine h.newB run_boxA rfl ?_; intro bn w h; try dsimp only at h) | (refine h.drew.newB run_boxA rfl ?_; intro bn w h; try dsimp only at h))) | ((with_reducible refine RunN.isNew ?_); (first | (refine h.newB (NewC.run _) rfl ?_; intro bn w h) | (refine h.drew.newB (NewC.run _) rfl ?_; intro bn w h))))
    refine h.storA 1 0 ⟨_, rfl, rfl⟩ rfl (hk := ?_)
    intro w h
    refine h.readA 1 0 ⟨_, rfl, rfl⟩ rfl (f, t, q, ()) (hk := ?_)
    exact ⟨rfl, rfl, (h.drop 1).drop 1⟩

theorem zs_row (xs : List (Ltr × Sl)) {i : Nat} (hi : i < xs.length) : row (xs.take (i + 1)) = row (xs.take i) ++ lc xs[i].1.f xs[i].1.t xs[i].2 := by
  rw [List.take_succ_eq_append_getElem hi, row_append]; simp [row]
/-- The list without one of its letters, in a row of its own. -/
theorem without_st (h : St w0 w (bagG 72 B cap s xs :: F)) (hlen : xs.length ≤ 65536) {n : Nat} (hn : n < xs.length) :
    CallK Try.prog .sl 42 #[.pointer (some ⟨B, 0, none⟩), .int .i64 (n : Int)] w fun (r : Sl) w' => St w0 w' ([.row 31 3 r (row (xs.eraseIdx n))] :: bagG 72 B cap s xs :: F) := by
  have hl := bag_len h
  refine T42.calls ?_
  unfold T42
  have h := h.nilrow 31 3
  refine LoopX.mk (fun st w' => ∃ k, k ≤ xs.length ∧ st.2.1 = (k : Int) ∧ St w0 w' ([.row 31 3 st.1 (row ((xs.take k).eraseIdx n))] :: bagG 72 B cap s xs :: F)) (fun st => xs.length - st.2.1.toNat) ⟨0, Nat.zero_le _, rfl, by simpa [row] using h⟩ ?_
  rintro ⟨q, i, ⟨⟩⟩ w ⟨k, hk, hi, h⟩ K hK
  dsimp only at hi h hK ⊢
  subst hi
  have hql := (h.rd (k := 0) (i := 0) ⟨_, rfl, rfl⟩).1
  rw [row_len] at hql
  have hle : ((xs.take k).eraseIdx n).length ≤ k := by rw [List.length_eraseIdx]; split <;> simp <;> omega
  repeat (first | (with_reducible refine NilP.mk ?_) | ((with_reducible refine RunN.isLoad ?_); (first | refine h.loadB 0 0 ⟨_, rfl, rfl⟩ rfl rfl ?_ | refine h.loadB 1 0 ⟨_, rfl, rfl⟩ rfl rfl ?_ | refine h.drew.loadB 0 0 ⟨_, rfl, rfl⟩ rfl rfl ?_ | refine h.drew.loadB 1 0 ⟨_, rfl, rfl⟩ rfl rfl ?_)) | ((with_reducible refine ReadN.isLoad ?_); (first | refine h.readB 0 0 ⟨_, rfl, rfl⟩ rfl rfl ?_ | refine h.readB 1 0 ⟨_, rfl, rfl⟩ rfl rfl ?_ | refine h.drew.readB 0 0 ⟨_, rfl, rfl⟩ rfl rfl ?_ | refine h.drew.readB 1 0 ⟨_, rfl, rfl⟩ rfl rfl ?_)) | ((with_reducible refine StillV.isLoad ?_); (first | refine ⟨h.stillB 0 0 ⟨_, rfl, rfl⟩ rfl rfl, ?_⟩ | refine ⟨h.stillB 1 0 ⟨_, rfl, rfl⟩ rfl rfl, ?_⟩)) | ((with_reducible refine RunU.isStor ?_); (first | (refine h.storB 0 0 ⟨_, rfl, rfl⟩ rfl rfl rfl ?_; intro w h; dsimp only [updG, setO] at h) | (refine h.storB 1 0 ⟨_, rfl, rfl⟩ rfl rfl rfl ?_; intro w h; dsimp only [updG, setO] at h) | (refine h.drew.storB 0 0 ⟨_, rfl, rfl⟩ rfl rfl rfl ?_; intro w h; dsimp only [updG, setO] at h) | (refine h.drew.storB 1 0 ⟨_, rfl, rfl⟩ rfl rfl rfl ?_; intro w h; dsimp only [updG, setO] at h))) | ((with_reducible refine RunN.isBox ?_); (first | (refine h.newB run_boxA rfl ?_; intro bn w h; try dsimp only at h) | (refine h.drew.newB run_boxA rfl ?_; intro bn w h; try dsimp only at h))) | ((with_reducible refine RunN.isNew ?_); (first | (refine h.newB (NewC.run _) rfl ?_; intro bn w h) | (refine h.drew.newB (NewC.run _) rfl ?_; intro bn w h))))
  rw [SplitB_iff]
  refine ⟨fun hc => ?_, fun hc => ?_⟩
  · have hc : k < xs.length := by have := of_decide_eq_true hc; omega
    refine JoinX.mk (fun j w' => St w0 w' ([.row 31 3 j.1 (row ((xs.take (k + 1)).eraseIdx n))] :: bagG 72 B cap s xs :: F)) ?_ ?_
    · rintro ⟨j, ⟨⟩⟩ w h
      dsimp only at h ⊢
      exact hK _ _ ⟨k + 1, hc, by dsimp only; rw [wr (by omega)]; omega, h⟩ (by dsimp only; rw [wr (by omega)]; omega)
    · intro k' hk'
      rw [SplitB_iff]
      refine ⟨fun hkn => ?_, fun hkn => ?_⟩
      · have hkn : k ≠ n := by intro e; subst e; simp at hkn
        repeat (first | (with_reducible refine NilP.mk ?_) | ((with_reducible refine RunN.isLoad ?_); (first | refine h.loadB 0 0 ⟨_, rfl, rfl⟩ rfl rfl ?_ | refine h.loadB 1 0 ⟨_, rfl, rfl⟩ rfl rfl ?_ | refine h.drew.loadB 0 0 ⟨_, rfl, rfl⟩ rfl rfl ?_ | refine h.drew.loadB 1 0 ⟨_, rfl, rfl⟩ rfl rfl ?_)) | ((with_reducible refine ReadN.isLoad ?_); (first | refine h.readB 0 0 ⟨_, rfl, rfl⟩ rfl rfl ?_ | refine h.readB 1 0 ⟨_, rfl, rfl⟩ rfl rfl ?_ | refine h.drew.readB 0 0 ⟨_, rfl, rfl⟩ rfl rfl ?_ | refine h.drew.readB 1 0 ⟨_, rfl, rfl⟩ rfl rfl ?_)) | ((with_reducible refine StillV.isLoad ?_); (first | refine ⟨h.stillB 0 0 ⟨_, rfl, rfl⟩ rfl rfl, ?_⟩ | refine ⟨h.stillB 1 0 ⟨_, rfl, rfl⟩ rfl rfl, ?_⟩)) | ((with_reducible refine RunU.isStor ?_); (first | (refine h.storB 0 0 ⟨_, rfl, rfl⟩ rfl rfl rfl ?_; intro w h; dsimp only [updG, setO] at h) | (refine h.storB 1 0 ⟨_, rfl, rfl⟩ rfl rfl rfl ?_; intro w h; dsimp only [updG, setO] at h) | (refine h.drew.storB 0 0 ⟨_, rfl, rfl⟩ rfl rfl rfl ?_; intro w h; dsimp only [updG, setO] at h) | (refine h.drew.storB 1 0 ⟨_, rfl, rfl⟩ rfl rfl rfl ?_; intro w h; dsimp only [updG, setO] at h))) | ((with_reducible refine RunN.isBox ?_); (first | (refine h.newB run_boxA rfl ?_; intro bn w h; try dsimp only at h) | (refine h.drew.newB run_boxA rfl ?_; intro bn w h; try dsimp only at h))) | ((with_reducible refine RunN.isNew ?_); (first | (refine h.newB (NewC.run _) rfl ?_; intro bn w h) | (refine h.drew.newB (NewC.run _) rfl ?_; intro bn w h))))
        refine (h.rd (k := 1) (i := 1) ⟨_, rfl, rfl⟩).idxK k rfl (by omega) ?_
        intro b o hb
        refine (h.rd (k := 1) (i := 1) ⟨_, rfl, rfl⟩).elA hb (k * 3) rfl (xs[k].1.f, xs[k].1.t, xs[k].2, ()) (row_at _ _ hc) ?_
        refine h.newS 3 (bs22 _ _ _ _) rfl rfl rfl ?_
        intro s4 w h1 h2 h3 h
        refine h.app 1 0 ⟨_, rfl, rfl⟩ (h.rd (k := 0) (i := 0) ⟨_, rfl, rfl⟩) (lc_one _ _ _) (by simp only [maxLen]; omega) (by omega) ?_
        intro s5 w h5 h
        dsimp only [updG, setO] at h
        refine hk' (s5, ()) w ?_
        have e : (xs.take (k + 1)).eraseIdx n = (xs.take k).eraseIdx n ++ [xs[k]] := by
          rw [List.take_succ_eq_append_getElem hc]
          rcases Nat.lt_or_ge n k with hlt | hge
          · rw [List.eraseIdx_append_of_lt_length (by simp; omega)]
          · rw [List.eraseIdx_of_length_le (by simp; omega), List.eraseIdx_of_length_le (by simp; omega)]
        rw [e, row_append]
        have e2 : row [xs[k]] = lc xs[k].1.f xs[k].1.t xs[k].2 := by simp [row]
        rw [e2]
        exact h.drop 0
      · have hkn : k = n := by have : (k : Int) = (n : Int) := by simpa using hkn
                               omega
        subst hkn
        refine hk' (q, ()) w ?_
        have e : (xs.take (k + 1)).eraseIdx k = (xs.take k).eraseIdx k := by
          have hlk : (xs.take k).length = k := by simp; omega
          rw [List.take_succ_eq_append_getElem hc, List.eraseIdx_of_length_le (l := xs.take k) (by omega), List.eraseIdx_append_of_length_le (by omega), hlk]
          simp
        rw [e]; exact h
  · have hc : k = xs.length := by have := of_decide_eq_false hc; omega
    subst hc
    rw [List.take_length] at h
    exact h

theorem rat_st (h : St w0 w (bagG 72 B cap s xs :: F)) (hlen : xs.length ≤ 65536) (hm : ∀ x ∈ xs, x.1.m.length ≤ big) {i : Int} :
    CallK Try.prog (.tup (.cons KL (.cons (.int .i64) .nilT))) 38 #[.pointer (some ⟨B, 0, none⟩), .int .i64 i] w fun (r : (Int × Int × Sl × Unit) × Int × Unit) w' =>
      (∃ (n : Nat) (hn : n < xs.length), i = (n : Int) ∧ ∃ q, r = ((xs[n].1.f, xs[n].1.t, q, ()), 0, ()) ∧ St w0 w' ([lrow (xs[n].1, q)] :: bagG 72 B cap s xs :: F)) ∨
      (¬ (0 ≤ i ∧ i < (xs.length : Int)) ∧ r = ((0, 0, ⟨none, 0, 0⟩, ()), 40, ()) ∧ St w0 w' (bagG 72 B cap s xs :: F)) := by
  have hl := bag_len h
  refine T38.calls ?_
  unfold T38
  repeat (first | (with_reducible refine NilP.mk ?_) | ((with_reducible refine RunN.isLoad ?_); (first | refine h.loadB 0 0 ⟨_, rfl, rfl⟩ rfl rfl ?_ | refine h.drew.loadB 0 0 ⟨_, rfl, rfl⟩ rfl rfl ?_)) | ((with_reducible refine ReadN.isLoad ?_); (first | refine h.readB 0 0 ⟨_, rfl, rfl⟩ rfl rfl ?_ | refine h.drew.readB 0 0 ⟨_, rfl, rfl⟩ rfl rfl ?_)) | ((with_reducible refine StillV.isLoad ?_); (first | refine ⟨h.stillB 0 0 ⟨_, rfl, rfl⟩ rfl rfl, ?_⟩)) | ((with_reducible refine RunU.isStor ?_); (first | (refine h.storB 0 0 ⟨_, rfl, rfl⟩ rfl rfl rfl ?_; intro w h; dsimp only [updG, setO] at h) | (refine h.drew.storB 0 0 ⟨_, rfl, rfl⟩ rfl rfl rfl ?_; intro w h; dsimp only [updG, setO] at h))) | ((with_reducible refine RunN.isBox ?_); (first | (refine h.newB run_boxA rfl ?_; intro bn w h; try dsimp only at h) | (refine h.drew.newB run_boxA rfl ?_; intro bn w h; try dsimp only at h))) | ((with_reducible refine RunN.isNew ?_); (first | (refine h.newB (NewC.run _) rfl ?_; intro bn w h) | (refine h.drew.newB (NewC.run _) rfl ?_; intro bn w h))))
  refine (rin_st (h.bring 1 rfl) (i := i)).mono ?_
  rintro r w ⟨rfl, rfl⟩
  rw [SplitB_iff]
  refine ⟨fun hc => ?_, fun hc => ?_⟩
  · simp only [Bool.not_eq_true', decide_eq_false_iff_not] at hc
    refine h.storA 0 0 ⟨_, rfl, rfl⟩ rfl (hk := ?_)
    intro w h
    refine h.readA 0 0 ⟨_, rfl, rfl⟩ rfl (0, 0, ⟨none, 0, 0⟩, ()) (hk := ?_)
    exact .inr ⟨hc, rfl, h.drop 0⟩
  · simp only [Bool.not_eq_false', decide_eq_true_eq] at hc
    obtain ⟨n, rfl⟩ : ∃ n : Nat, i = (n : Int) := ⟨i.toNat, by omega⟩
    have hn : n < xs.length := by omega
    repeat (first | (with_reducible refine NilP.mk ?_) | ((with_reducible refine RunN.isLoad ?_); (first | refine h.loadB 0 0 ⟨_, rfl, rfl⟩ rfl rfl ?_ | refine h.loadB 1 0 ⟨_, rfl, rfl⟩ rfl rfl ?_ | refine h.drew.loadB 0 0 ⟨_, rfl, rfl⟩ rfl rfl ?_ | refine h.drew.loadB 1 0 ⟨_, rfl, rfl⟩ rfl rfl ?_)) | ((with_reducible refine ReadN.isLoad ?_); (first | refine h.readB 0 0 ⟨_, rfl, rfl⟩ rfl rfl ?_ | refine h.readB 1 0 ⟨_, rfl, rfl⟩ rfl rfl ?_ | refine h.drew.readB 0 0 ⟨_, rfl, rfl⟩ rfl rfl ?_ | refine h.drew.readB 1 0 ⟨_, rfl, rfl⟩ rfl rfl ?_)) | ((with_reducible refine StillV.isLoad ?_); (first | refine ⟨h.stillB 0 0 ⟨_, rfl, rfl⟩ rfl rfl, ?_⟩ | refine ⟨h.stillB 1 0 ⟨_, rfl, rfl⟩ rfl rfl, ?_⟩)) | ((with_reducible refine RunU.isStor ?_); (first | (refine h.storB 0 0 ⟨_, rfl, rfl⟩ rfl rfl rfl ?_; intro w h; dsimp only [updG, setO] at h) | (refine h.storB 1 0 ⟨_, rfl, rfl⟩ rfl rfl rfl ?_; intro w h; dsimp only [updG, setO] at h) | (refine h.drew.storB 0 0 ⟨_, rfl, rfl⟩ rfl rfl rfl ?_; intro w h; dsimp only [updG, setO] at h) | (refine h.drew.storB 1 0 ⟨_, rfl, rfl⟩ rfl rfl rfl ?_; intro w h; dsimp only [updG, setO] at h))) | ((with_reducible refine RunN.isBox ?_); (first | (refine h.newB run_boxA rfl ?_; intro bn w h; try dsimp only at h) | (refine h.drew.newB run_boxA rfl ?_; intro bn w h; try dsimp only at h))) | ((with_reducible refine RunN.isNew ?_); (first | (refine h.newB (NewC.run _) rfl ?_; intro bn w h) | (refine h.drew.newB (NewC.run _) rfl ?_; intro bn w h))))
    refine (h.rd (k := 1) (i := 1) ⟨_, rfl, rfl⟩).idxK n rfl (by omega) ?_
    intro b o hb
    refine (h.rd (k := 1) (i := 1) ⟨_, rfl, rfl⟩).elA hb (n * 3) rfl (xs[n].1.f, xs[n].1.t, xs[n].2, ()) (row_at _ _ hn) ?_
    refine (rown_st (h.rd (letter_has (k := 1) rfl hn)) (hm _ (List.getElem_mem _))).mono ?_
    rintro ⟨f', t', q, ⟨⟩⟩ w ⟨e1, e2, hq⟩
    dsimp only at e1 e2 hq
    subst e1; subst e2
    have h := h.join hq
    refine h.storA 1 0 ⟨_, rfl, rfl⟩ rfl (hk := ?_)
    intro w h
    refine h.readA 1 0 ⟨_, rfl, rfl⟩ rfl (xs[n].1.f, xs[n].1.t, q, ()) (hk := ?_)
    exact .inl ⟨n, hn, rfl, q, rfl, h.drop 1⟩
theorem erase_has {xs : List (Ltr × Sl)} {n : Nat} {c e : Ent} (h : St w0 w ((c :: e :: xs.map lrow) :: F)) (hn : n < xs.length) : St w0 w ((c :: e :: (xs.eraseIdx n).map lrow) :: F) := by
  have h := h.rest (k := 0) (i := n + 2) (e := lrow xs[n]) ⟨_, rfl, nthO_map lrow xs hn⟩
  dsimp only [updG, delO] at h
  rw [delO_map] at h
  exact h
theorem rdeliver_st (h : St w0 w (bagG 72 B cap s xs :: F)) (hlen : xs.length ≤ 65536) (hm : ∀ x ∈ xs, x.1.m.length ≤ big) {i : Int} :
    CallK Try.prog (.tup (.cons KL (.cons (.int .i64) .nilT))) 33 #[.pointer (some ⟨B, 0, none⟩), .int .i64 i] w fun (r : (Int × Int × Sl × Unit) × Int × Unit) w' =>
      (∃ (n : Nat) (hn : n < xs.length), i = (n : Int) ∧ ∃ q s', r = ((xs[n].1.f, xs[n].1.t, q, ()), 0, ()) ∧ St w0 w' ([lrow (xs[n].1, q)] :: bagG 72 B cap s' (xs.eraseIdx n) :: F)) ∨
      (¬ (0 ≤ i ∧ i < (xs.length : Int)) ∧ r = ((0, 0, ⟨none, 0, 0⟩, ()), 40, ()) ∧ St w0 w' (bagG 72 B cap s xs :: F)) := by
  refine T33.calls ?_
  unfold T33
  first | refine h.newB (NewC.run _) rfl ?_ | refine h.drew.newB (NewC.run _) rfl ?_
  intro t4 w h
  try dsimp only at h
  refine (rat_st (h.bring 1 rfl) hlen hm (i := i)).mono ?_
  rintro r w (⟨n, hn, rfl, q, rfl, h⟩ | ⟨hc, rfl, h⟩)
  · dsimp only [delO] at h
    first | refine h.newB (NewC.run _) rfl ?_ | refine h.drew.newB (NewC.run _) rfl ?_
    intro t6 w h
    try dsimp only at h
    refine h.storA 0 0 ⟨_, rfl, rfl⟩ rfl (hk := ?_)
    intro w h
    dsimp only [updG, setO] at h
    refine JoinX.mk (fun _ w' => ∃ s', St w0 w' ([.cel t6 31 [.int .i64 xs[n].1.f, .int .i64 xs[n].1.t, .slice q.a q.len q.cap]] :: [lrow (xs[n].1, q)] :: bagG 72 B cap s' (xs.eraseIdx n) :: [.cel t4 31 [.int .i64 0, .int .i64 0, .slice none 0 0]] :: F)) ?_ ?_
    · rintro ⟨⟩ w ⟨s', h⟩
      refine h.loadA 0 0 ⟨_, rfl, rfl⟩ rfl (xs[n].1.f, xs[n].1.t, q, ()) (hk := ?_)
      refine h.storA 3 0 ⟨_, rfl, rfl⟩ rfl (hk := ?_)
      intro w h
      refine h.readA 3 0 ⟨_, rfl, rfl⟩ rfl (xs[n].1.f, xs[n].1.t, q, ()) (hk := ?_)
      exact .inl ⟨n, hn, rfl, q, s', rfl, (h.drop 0).drop 2⟩
    · intro k hk
      rw [SplitB_iff]
      refine ⟨fun hz => ?_, fun hz => ?_⟩
      · refine (without_st (h.bring 2 rfl) hlen hn).mono ?_
        intro r w h
        dsimp only [delO, bagG] at h
        refine h.storB 1 0 ⟨_, rfl, rfl⟩ rfl rfl rfl ?_
        intro w h
        dsimp only [updG, setO] at h
        have h := erase_has (h.swapRow) hn
        exact hk () w ⟨r, (h.bring 1 rfl).perm (by
          simp only [delO, bagG, List.flatten_cons, List.cons_append, List.nil_append, List.append_assoc]
          refine .cons _ ?_
          exact (List.perm_middle (l₁ := _ :: _ :: (xs.eraseIdx n).map lrow)))⟩
      · simp at hz
  · dsimp only [delO] at h
    first | refine h.newB (NewC.run _) rfl ?_ | refine h.drew.newB (NewC.run _) rfl ?_
    intro t6 w h
    try dsimp only at h
    refine h.storA 0 0 ⟨_, rfl, rfl⟩ rfl (hk := ?_)
    intro w h
    dsimp only [updG, setO] at h
    dsimp only [JoinX]
    rw [SplitB_iff]
    refine ⟨fun hz => ?_, fun hz => ?_⟩
    · simp at hz
    · refine h.loadA 0 0 ⟨_, rfl, rfl⟩ rfl (0, 0, ⟨none, 0, 0⟩, ()) (hk := ?_)
      refine h.storA 2 0 ⟨_, rfl, rfl⟩ rfl (hk := ?_)
      intro w h
      refine h.readA 2 0 ⟨_, rfl, rfl⟩ rfl (0, 0, ⟨none, 0, 0⟩, ()) (hk := ?_)
      exact .inr ⟨hc, rfl, (h.drop 0).drop 1⟩
end Go.Proofs.Ytmhjlngkdppgpaa
