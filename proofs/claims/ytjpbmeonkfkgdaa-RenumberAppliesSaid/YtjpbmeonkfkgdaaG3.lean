/- renumber.effect, the law's effectOf, checkMark, Of. -/
import Derived.Test.YtjpbmeonkfkgdaaG2
namespace Go.Proofs.Ytjpbmeonkfkgdaa
open Go.RowKit

def effP (ls : List Lv) (L : Nat) (restart : Int) (j : Nat) : Eff := fun k => if k = L then (if 0 < restart then ⟨true, true, restart, 0⟩ else ⟨false, false, 0, 1⟩) else if L < k ∧ k < j ∧ (L : Int) + 1 ≤ (gL ls k).restart then ⟨true, false, 0, 0⟩ else chZ
/-- the effect of a paragraph of the level L + 1. -/
def effF (ls : List Lv) (n L : Nat) (restart : Int) : Eff := effP ls L restart n
theorem effP_at (ls : List Lv) (L : Nat) (restart : Int) (j k : Nat) : effP ls L restart j k = if k = L then (if 0 < restart then ⟨true, true, restart, 0⟩ else ⟨false, false, 0, 1⟩) else if L < k ∧ k < j ∧ (L : Int) + 1 ≤ (gL ls k).restart then ⟨true, false, 0, 0⟩ else chZ := rfl
theorem upd_at {α : Type} (E : Nat → α) (k : Nat) (c : α) (i : Nat) : upd E k c i = if i = k then c else E i := rfl
theorem effP_start (ls : List Lv) (L : Nat) (restart : Int) (c : Ch) (hc : c = if 0 < restart then ⟨true, true, restart, 0⟩ else ⟨false, false, 0, 1⟩) : effP ls L restart (L + 1) = upd effZ L c := by
  funext k
  rw [effP_at, upd_at]
  by_cases h : k = L
  · rw [if_pos h, if_pos h]; exact hc.symm
  · rw [if_neg h, if_neg h, if_neg (by omega)]; rfl
theorem effP_in (ls : List Lv) (L : Nat) (restart : Int) {j : Nat} (hj : L < j) (h : (L : Int) + 1 ≤ (gL ls j).restart) : effP ls L restart (j + 1) = upd (effP ls L restart j) j ⟨true, false, 0, 0⟩ := by
  funext k
  rw [effP_at, upd_at]
  by_cases e : k = j
  · subst e; rw [if_neg (by omega), if_pos ⟨hj, by omega, h⟩, if_pos rfl]
  · rw [if_neg e, effP_at]
    by_cases e2 : k = L
    · rw [if_pos e2, if_pos e2]
    · rw [if_neg e2, if_neg e2]
      by_cases e3 : L < k ∧ k < j ∧ (L : Int) + 1 ≤ (gL ls k).restart
      · rw [if_pos ⟨e3.1, by omega, e3.2.2⟩, if_pos e3]
      · rw [if_neg (fun q => e3 ⟨q.1, by omega, q.2.2⟩), if_neg e3]
theorem effP_out (ls : List Lv) (L : Nat) (restart : Int) {j : Nat} (h : ¬ (L : Int) + 1 ≤ (gL ls j).restart) : effP ls L restart (j + 1) = effP ls L restart j := by
  funext k
  rw [effP_at, effP_at]
  by_cases e2 : k = L
  · rw [if_pos e2, if_pos e2]
  · rw [if_neg e2, if_neg e2]
    by_cases e3 : L < k ∧ k < j ∧ (L : Int) + 1 ≤ (gL ls k).restart
    · rw [if_pos ⟨e3.1, by omega, e3.2.2⟩, if_pos e3]
    · refine (if_neg (fun q => e3 ⟨q.1, ?_, q.2.2⟩)).trans (if_neg e3).symm
      have : k ≠ j := fun e => h (e ▸ q.2.2)
      omega
structure EW (w : World) (B p6 p7 : Nat) (Z : Eff) : Prop where
  b6 : Blk w p6 33 (effA effZ)
  b7 : Blk w p7 33 (effA Z)
  n6 : p7 ≠ p6
  m6 : B ≤ p6
  m7 : B ≤ p7
theorem EW.new (w : World) : EW ((w.alloc (.cells (effA effZ) 33)).alloc (.cells (effA effZ) 33)) w.heap.size w.heap.size (w.heap.size + 1) effZ := by
  have e1 := Blk.new w 33 (effA effZ)
  have e2 := Blk.new (w.alloc (.cells (effA effZ) 33)) 33 (effA effZ)
  rw [World.size_alloc] at e2
  exact ⟨e1.alloc _, e2, by omega, by omega, by omega⟩
theorem EW.set {w : World} {B p6 p7 : Nat} {Z : Eff} (h : EW w B p6 p7 Z) {k : Nat} (hk : k < 9) (a b : Bool) (n m : Int) {Z' : Eff} (e : Z' = upd Z k ⟨a, b, n, m⟩) : EW ((((w.setCell ⟨p7, k * 4, none⟩ (.bool a)).setCell ⟨p7, k * 4 + 1, none⟩ (.bool b)).setCell ⟨p7, k * 4 + 2, none⟩ (.int .i64 n)).setCell ⟨p7, k * 4 + 3, none⟩ (.int .i64 m)) B p6 p7 Z' := by
  subst e
  have g := only_set4 w p7 (k * 4) (.bool a) (.bool b) (.int .i64 n) (.int .i64 m)
  exact ⟨h.b6.keep g (fun e => h.n6 (by injection e)), h.b7.set4 hk a b n m, h.n6, h.m6, h.m7⟩
theorem upd_upd {α : Type} (E : Nat → α) (k : Nat) (c d : α) : upd (upd E k c) k d = upd E k d := by
  funext i
  by_cases h : i = k
  · simp [upd_at, h]
  · simp [upd_at, h]

set_option maxHeartbeats 8000000 in
set_option maxRecDepth 100000 in
theorem effect_any (A : Option Addr) (n c : Nat) (ls : List Lv) (L : Nat) (restart : Int) (w : World) (ha : Sl w 4 lvC A n ls) (hn : n ≤ 9) (hL : L < n) :
    Calls Try.prog 22 #[.slice A n c, .int .i64 ((L : Int) + 1), .int .i64 restart] w fun e w' => e = .returned (.agg (effA (effF ls n L restart))) ∧ Below w.heap.size w w' := by
  have T0 := EW.new w
  have hb0 := ((Below.refl w.heap.size w).alloc (Nat.le_refl _) (.cells (effA effZ) 33)).alloc (by simp) (.cells (effA effZ) 33)
  have HF := Lib.hid (show effF ls n L restart = effP ls L restart n from rfl)
  have S0 := Lib.hid (effP_start ls L restart)
  go_enter Try.func22, Try.ntmps22
  go_upto_region 1 with fail
  go_cut [6, 7] (fun v6 v7 wx => ∃ p6 p7, v6 = .pointer (some ⟨p6, 0, none⟩) ∧ v7 = .pointer (some ⟨p7, 0, none⟩) ∧ EW wx w.heap.size p6 p7 effZ ∧ Below w.heap.size w wx)
  case first =>
    go_wp2_with fail
    go_meet
    case rel => exact ⟨_, _, rfl, rfl, T0, hb0⟩
  case rest =>
  obtain ⟨p6, p7, rfl, rfl, T1, hb1⟩ := hcut
  clear T0 hb0
  have L9 : L < 9 := by omega
  have L9' : (L : Int) < 9 := by omega
  obtain ⟨z0, z1, z2, z3⟩ := T1.b7.eff L9
  have f0 := T1.b7.frozen (L * 4)
  have f1 := T1.b7.frozen (L * 4 + 1)
  have f2 := T1.b7.frozen (L * 4 + 2)
  have f3 := T1.b7.frozen (L * 4 + 3)
  go_upto_region 2 with fail
  go_cut [7] (fun v7 wx => v7 = .pointer (some ⟨p7, 0, none⟩) ∧ EW wx w.heap.size p6 p7 (upd effZ L ⟨false, false, 0, 1⟩) ∧ Below w.heap.size w wx)
  case first =>
    go_wp2_with fail
    go_meet
    case rel => exact ⟨rfl, T1.set L9 _ _ _ _ rfl, below_set4 hb1 T1.m7 _ _ _ _ _⟩
  case rest =>
  obtain ⟨rfl, T2, hb2⟩ := hcut
  clear T1 hb1 z0 z1 z2 z3 f0 f1 f2 f3
  obtain ⟨z0, z1, z2, z3⟩ := T2.b7.eff L9
  have f0 := T2.b7.frozen (L * 4)
  have f1 := T2.b7.frozen (L * 4 + 1)
  have f2 := T2.b7.frozen (L * 4 + 2)
  have f3 := T2.b7.frozen (L * 4 + 3)
  by_cases hr : 0 < restart
  · have T3 : EW ((((wc.setCell ⟨p7, L * 4, none⟩ (.bool true)).setCell ⟨p7, L * 4 + 1, none⟩ (.bool true)).setCell ⟨p7, L * 4 + 2, none⟩ (.int .i64 restart)).setCell ⟨p7, L * 4 + 3, none⟩ (.int .i64 0)) w.heap.size p6 p7 (effP ls L restart (L + 1)) := T2.set L9 _ _ _ _ (by rw [S0.out ⟨true, true, restart, 0⟩ (if_pos hr).symm, upd_upd])
    have hb3 := below_set4 hb2 T2.m7 (L * 4) (.bool true) (.bool true) (.int .i64 restart) (.int .i64 0)
    go_wp2_with fail
    go_loopw [8] (fun vi wr => ∃ j : Nat, vi = .int .i64 j ∧ L < j ∧ j ≤ n ∧ EW wr w.heap.size p6 p7 (effP ls L restart j) ∧ Below w.heap.size w wr) (fun vi _ => n - (intOf vi).toNat)
    case atStart => exact ⟨L + 1, by simp, by omega, by omega, T3, hb3⟩
    case round =>
      obtain ⟨j, rfl, hLj, hj, T4, hbw⟩ := hrel
      clear T3 hb3
      by_cases hlt : j < n
      · obtain ⟨ad, e, hl2, k0, k1, k2, k3⟩ := (ha.below hbw).lv hlt
        subst e
        have j9 : j < 9 := by omega
        have j9' : (j : Int) < 9 := by omega
        have HI := Lib.hid (effP_in ls L restart hLj)
        have HO := Lib.hid (effP_out ls L restart (j := j))
        generalize gL ls j = lv at *
        obtain ⟨xf, xs, xt, xr⟩ := lv
        simp only at k0 k1 k2 k3 HI HO
        obtain ⟨z0, z1, z2, z3⟩ := T4.b7.eff j9
        have f0 := T4.b7.frozen (j * 4)
        have f1 := T4.b7.frozen (j * 4 + 1)
        have f2 := T4.b7.frozen (j * 4 + 2)
        have f3 := T4.b7.frozen (j * 4 + 3)
        by_cases hxr : (L : Int) + 1 ≤ xr
        · go_wp2_with fail
          go_roundw
          case measure => rw [intOf, intOf]; omega
          case rel => exact ⟨j + 1, by simp, by omega, by omega, T4.set j9 _ _ _ _ (HI.out hxr), below_set4 hbw T4.m7 _ _ _ _ _⟩
        · go_wp2_with fail
          go_roundw
          case measure => rw [intOf, intOf]; omega
          case rel => exact ⟨j + 1, by simp, by omega, by omega, by rw [HO.out hxr]; exact T4, hbw⟩
      · have : j = n := by omega
        subst this
        go_upto_region 10 with fail
        have B6 := T4.b6
        have B7 := T4.b7
        unfold Blk at B6 B7
        go_wp2_with (first | (refine wpList_load_row rfl 33 _ rfl p7 rfl 33 _ (0, 0) _ B7 Try.underlying33 rfl (by kernel_rfl) ?_) | (refine wpList_store_row rfl 33 _ _ rfl p6 _ rfl rfl 33 _ B6 (by kernel_rfl) rfl (effA_one _) ?_))
        refine bodyPost_ret (results_cell_row rfl _ _ p6 33 _ (0, 0) _ rfl (setRow_heap wr p6 _ _ _ _ B6) Try.underlying33 rfl (by kernel_rfl)) rfl ?_
        exact ⟨by rw [HF.out], below_setRow hbw T4.m6 _⟩
  · skip
    have T3 : EW wc w.heap.size p6 p7 (effP ls L restart (L + 1)) := by rw [S0.out ⟨false, false, 0, 1⟩ (if_neg hr).symm]; exact T2
    have hb3 := hb2
    go_wp2_with fail
    go_loopw [8] (fun vi wr => ∃ j : Nat, vi = .int .i64 j ∧ L < j ∧ j ≤ n ∧ EW wr w.heap.size p6 p7 (effP ls L restart j) ∧ Below w.heap.size w wr) (fun vi _ => n - (intOf vi).toNat)
    case atStart => exact ⟨L + 1, by simp, by omega, by omega, T3, hb3⟩
    case round =>
      obtain ⟨j, rfl, hLj, hj, T4, hbw⟩ := hrel
      clear T3 hb3
      by_cases hlt : j < n
      · obtain ⟨ad, e, hl2, k0, k1, k2, k3⟩ := (ha.below hbw).lv hlt
        subst e
        have j9 : j < 9 := by omega
        have j9' : (j : Int) < 9 := by omega
        have HI := Lib.hid (effP_in ls L restart hLj)
        have HO := Lib.hid (effP_out ls L restart (j := j))
        generalize gL ls j = lv at *
        obtain ⟨xf, xs, xt, xr⟩ := lv
        simp only at k0 k1 k2 k3 HI HO
        obtain ⟨z0, z1, z2, z3⟩ := T4.b7.eff j9
        have f0 := T4.b7.frozen (j * 4)
        have f1 := T4.b7.frozen (j * 4 + 1)
        have f2 := T4.b7.frozen (j * 4 + 2)
        have f3 := T4.b7.frozen (j * 4 + 3)
        by_cases hxr : (L : Int) + 1 ≤ xr
        · go_wp2_with fail
          go_roundw
          case measure => rw [intOf, intOf]; omega
          case rel => exact ⟨j + 1, by simp, by omega, by omega, T4.set j9 _ _ _ _ (HI.out hxr), below_set4 hbw T4.m7 _ _ _ _ _⟩
        · go_wp2_with fail
          go_roundw
          case measure => rw [intOf, intOf]; omega
          case rel => exact ⟨j + 1, by simp, by omega, by omega, by rw [HO.out hxr]; exact T4, hbw⟩
      · have : j = n := by omega
        subst this
        go_upto_region 10 with fail
        have B6 := T4.b6
        have B7 := T4.b7
        unfold Blk at B6 B7
        go_wp2_with (first | (refine wpList_load_row rfl 33 _ rfl p7 rfl 33 _ (0, 0) _ B7 Try.underlying33 rfl (by kernel_rfl) ?_) | (refine wpList_store_row rfl 33 _ _ rfl p6 _ rfl rfl 33 _ B6 (by kernel_rfl) rfl (effA_one _) ?_))
        refine bodyPost_ret (results_cell_row rfl _ _ p6 33 _ (0, 0) _ rfl (setRow_heap wr p6 _ _ _ _ B6) Try.underlying33 rfl (by kernel_rfl)) rfl ?_
        exact ⟨by rw [HF.out], below_setRow hbw T4.m6 _⟩


set_option maxHeartbeats 8000000 in
set_option maxRecDepth 100000 in
theorem effectOf_any (A : Option Addr) (n c : Nat) (ls : List Lv) (L : Nat) (restart : Int) (w : World) (ha : Sl w 4 lvC A n ls) (hn : n ≤ 9) (hL : L < n) (h0 : 0 ≤ restart) :
    Calls Try.prog 15 #[.slice A n c, .int .i64 ((L : Int) + 1), .int .i64 restart] w fun e w' => e = .returned (.agg (effA (effF ls n L restart))) ∧ Below w.heap.size w w' := by
  have T0 := EW.new w
  have hb0 := ((Below.refl w.heap.size w).alloc (Nat.le_refl _) (.cells (effA effZ) 33)).alloc (by simp) (.cells (effA effZ) 33)
  have HF := Lib.hid (show effF ls n L restart = effP ls L restart n from rfl)
  have S0 := Lib.hid (effP_start ls L restart)
  go_enter Try.func15, Try.ntmps15
  go_upto_region 1 with fail
  go_cut [6, 7] (fun v6 v7 wx => ∃ p6 p7, v6 = .pointer (some ⟨p6, 0, none⟩) ∧ v7 = .pointer (some ⟨p7, 0, none⟩) ∧ EW wx w.heap.size p6 p7 effZ ∧ Below w.heap.size w wx)
  case first =>
    go_wp2_with fail
    go_meet
    case rel => exact ⟨_, _, rfl, rfl, T0, hb0⟩
  case rest =>
  obtain ⟨p6, p7, rfl, rfl, T1, hb1⟩ := hcut
  clear T0 hb0
  have L9 : L < 9 := by omega
  have L9' : (L : Int) < 9 := by omega
  obtain ⟨z0, z1, z2, z3⟩ := T1.b7.eff L9
  have f0 := T1.b7.frozen (L * 4)
  have f1 := T1.b7.frozen (L * 4 + 1)
  have f2 := T1.b7.frozen (L * 4 + 2)
  have f3 := T1.b7.frozen (L * 4 + 3)
  go_upto_region 2 with fail
  go_cut [7] (fun v7 wx => v7 = .pointer (some ⟨p7, 0, none⟩) ∧ EW wx w.heap.size p6 p7 (upd effZ L ⟨false, false, 0, 1⟩) ∧ Below w.heap.size w wx)
  case first =>
    go_wp2_with fail
    go_meet
    case rel => exact ⟨rfl, T1.set L9 _ _ _ _ rfl, below_set4 hb1 T1.m7 _ _ _ _ _⟩
  case rest =>
  obtain ⟨rfl, T2, hb2⟩ := hcut
  clear T1 hb1 z0 z1 z2 z3 f0 f1 f2 f3
  obtain ⟨z0, z1, z2, z3⟩ := T2.b7.eff L9
  have f0 := T2.b7.frozen (L * 4)
  have f1 := T2.b7.frozen (L * 4 + 1)
  have f2 := T2.b7.frozen (L * 4 + 2)
  have f3 := T2.b7.frozen (L * 4 + 3)
  by_cases hr : 0 < restart
  · have T3 : EW ((((wc.setCell ⟨p7, L * 4, none⟩ (.bool true)).setCell ⟨p7, L * 4 + 1, none⟩ (.bool true)).setCell ⟨p7, L * 4 + 2, none⟩ (.int .i64 restart)).setCell ⟨p7, L * 4 + 3, none⟩ (.int .i64 0)) w.heap.size p6 p7 (effP ls L restart (L + 1)) := T2.set L9 _ _ _ _ (by rw [S0.out ⟨true, true, restart, 0⟩ (if_pos hr).symm, upd_upd])
    have hb3 := below_set4 hb2 T2.m7 (L * 4) (.bool true) (.bool true) (.int .i64 restart) (.int .i64 0)
    have hne : restart ≠ 0 := by omega
    go_wp2_with fail
    go_loopw [8] (fun vi wr => ∃ j : Nat, vi = .int .i64 j ∧ L < j ∧ j ≤ n ∧ EW wr w.heap.size p6 p7 (effP ls L restart j) ∧ Below w.heap.size w wr) (fun vi _ => n - (intOf vi).toNat)
    case atStart => exact ⟨L + 1, by simp, by omega, by omega, T3, hb3⟩
    case round =>
      obtain ⟨j, rfl, hLj, hj, T4, hbw⟩ := hrel
      clear T3 hb3
      by_cases hlt : j < n
      · obtain ⟨ad, e, hl2, k0, k1, k2, k3⟩ := (ha.below hbw).lv hlt
        subst e
        have j9 : j < 9 := by omega
        have j9' : (j : Int) < 9 := by omega
        have HI := Lib.hid (effP_in ls L restart hLj)
        have HO := Lib.hid (effP_out ls L restart (j := j))
        generalize gL ls j = lv at *
        obtain ⟨xf, xs, xt, xr⟩ := lv
        simp only at k0 k1 k2 k3 HI HO
        obtain ⟨z0, z1, z2, z3⟩ := T4.b7.eff j9
        have f0 := T4.b7.frozen (j * 4)
        have f1 := T4.b7.frozen (j * 4 + 1)
        have f2 := T4.b7.frozen (j * 4 + 2)
        have f3 := T4.b7.frozen (j * 4 + 3)
        by_cases hxr : (L : Int) + 1 ≤ xr
        · go_wp2_with fail
          go_roundw
          case measure => rw [intOf, intOf]; omega
          case rel => exact ⟨j + 1, by simp, by omega, by omega, T4.set j9 _ _ _ _ (HI.out hxr), below_set4 hbw T4.m7 _ _ _ _ _⟩
        · go_wp2_with fail
          go_roundw
          case measure => rw [intOf, intOf]; omega
          case rel => exact ⟨j + 1, by simp, by omega, by omega, by rw [HO.out hxr]; exact T4, hbw⟩
      · have : j = n := by omega
        subst this
        go_upto_region 10 with fail
        have B6 := T4.b6
        have B7 := T4.b7
        unfold Blk at B6 B7
        go_wp2_with (first | (refine wpList_load_row rfl 33 _ rfl p7 rfl 33 _ (0, 0) _ B7 Try.underlying33 rfl (by kernel_rfl) ?_) | (refine wpList_store_row rfl 33 _ _ rfl p6 _ rfl rfl 33 _ B6 (by kernel_rfl) rfl (effA_one _) ?_))
        refine bodyPost_ret (results_cell_row rfl _ _ p6 33 _ (0, 0) _ rfl (setRow_heap wr p6 _ _ _ _ B6) Try.underlying33 rfl (by kernel_rfl)) rfl ?_
        exact ⟨by rw [HF.out], below_setRow hbw T4.m6 _⟩
  · have he : restart = 0 := by omega
    subst he
    have T3 : EW wc w.heap.size p6 p7 (effP ls L 0 (L + 1)) := by rw [S0.out ⟨false, false, 0, 1⟩ (if_neg hr).symm]; exact T2
    have hb3 := hb2
    go_wp2_with fail
    go_loopw [8] (fun vi wr => ∃ j : Nat, vi = .int .i64 j ∧ L < j ∧ j ≤ n ∧ EW wr w.heap.size p6 p7 (effP ls L 0 j) ∧ Below w.heap.size w wr) (fun vi _ => n - (intOf vi).toNat)
    case atStart => exact ⟨L + 1, by simp, by omega, by omega, T3, hb3⟩
    case round =>
      obtain ⟨j, rfl, hLj, hj, T4, hbw⟩ := hrel
      clear T3 hb3
      by_cases hlt : j < n
      · obtain ⟨ad, e, hl2, k0, k1, k2, k3⟩ := (ha.below hbw).lv hlt
        subst e
        have j9 : j < 9 := by omega
        have j9' : (j : Int) < 9 := by omega
        have HI := Lib.hid (effP_in ls L 0 hLj)
        have HO := Lib.hid (effP_out ls L 0 (j := j))
        generalize gL ls j = lv at *
        obtain ⟨xf, xs, xt, xr⟩ := lv
        simp only at k0 k1 k2 k3 HI HO
        obtain ⟨z0, z1, z2, z3⟩ := T4.b7.eff j9
        have f0 := T4.b7.frozen (j * 4)
        have f1 := T4.b7.frozen (j * 4 + 1)
        have f2 := T4.b7.frozen (j * 4 + 2)
        have f3 := T4.b7.frozen (j * 4 + 3)
        by_cases hxr : (L : Int) + 1 ≤ xr
        · go_wp2_with fail
          go_roundw
          case measure => rw [intOf, intOf]; omega
          case rel => exact ⟨j + 1, by simp, by omega, by omega, T4.set j9 _ _ _ _ (HI.out hxr), below_set4 hbw T4.m7 _ _ _ _ _⟩
        · go_wp2_with fail
          go_roundw
          case measure => rw [intOf, intOf]; omega
          case rel => exact ⟨j + 1, by simp, by omega, by omega, by rw [HO.out hxr]; exact T4, hbw⟩
      · have : j = n := by omega
        subst this
        go_upto_region 10 with fail
        have B6 := T4.b6
        have B7 := T4.b7
        unfold Blk at B6 B7
        go_wp2_with (first | (refine wpList_load_row rfl 33 _ rfl p7 rfl 33 _ (0, 0) _ B7 Try.underlying33 rfl (by kernel_rfl) ?_) | (refine wpList_store_row rfl 33 _ _ rfl p6 _ rfl rfl 33 _ B6 (by kernel_rfl) rfl (effA_one _) ?_))
        refine bodyPost_ret (results_cell_row rfl _ _ p6 33 _ (0, 0) _ rfl (setRow_heap wr p6 _ _ _ _ B6) Try.underlying33 rfl (by kernel_rfl)) rfl ?_
        exact ⟨by rw [HF.out], below_setRow hbw T4.m6 _⟩

end Go.Proofs.Ytjpbmeonkfkgdaa
