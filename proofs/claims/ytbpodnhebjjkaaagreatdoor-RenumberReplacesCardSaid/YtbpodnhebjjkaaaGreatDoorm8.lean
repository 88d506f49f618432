/- numbering.checked, step, Next. Words for memory: slices of slices. No program in sight. leveltext.digits, check; numbering.numbers, Shown. numbering.numbers, Shown. Templates, plain: bounds of the parts. numbering.Shown; leveltext.Fill, plain. -/
import Derived.Test.YtbpodnhebjjkaaaGreatDoorm7
import Derived.Test.YtbpodnhebjjkaaaGreatDoorm6
import Derived.Deep.CutBlock
import Derived.Test.YtbpodnhebjjkaaaGreatDoorm1
import Derived.Test.YtbpodnhebjjkaaaGreatDoorm3
import Derived.Test.YtbpodnhebjjkaaaGreatDoorm5
namespace Go.Proofs.YtbpodnhebjjkaaaGreatDoor
open Go.RowKit

def ckE (ls : List Lv) (n : Nat) (level : Int) : Int := if clE ls ≠ 0 then clE ls else if level < 1 ∨ (n : Int) < level then 2 else 0
set_option maxHeartbeats 4000000 in
theorem checked_any (A : Option Addr) (n c : Nat) (ls : List Lv) (level : Int) (w : World) (ha : Sl w 4 lvC A n ls) :
    Calls Tryz.prog 53 #[.slice A n c, .int .i64 level] w fun e w' => e = .returned (.int .i64 (ckE ls n level)) ∧ Below w.heap.size w w' := by
  have HE := Lib.hid (show ckE ls n level = if clE ls ≠ 0 then clE ls else if level < 1 ∨ (n : Int) < level then 2 else 0 from rfl)
  have cl := checkLevels_any A n c ls w ha
  by_cases hc : clE ls = 0
  · rw [hc] at cl
    have HE2 := Lib.hid (HE.out.trans (if_neg (by rw [hc]; simp)))
    clear HE hc
    by_cases h1 : level < 1
    · go_enter Tryz.func53, Tryz.ntmps53
      go_wp2_with (first | (go_at_call 15; refine cl.mono ?_; rintro er w2 ⟨rfl, hb2⟩))
      go_ret
      exact ⟨ret_int (by rw [HE2.out, if_pos (.inl h1)]), hb2⟩
    by_cases h2 : (n : Int) < level
    · go_enter Tryz.func53, Tryz.ntmps53
      go_wp2_with (first | (go_at_call 15; refine cl.mono ?_; rintro er w2 ⟨rfl, hb2⟩))
      go_ret
      exact ⟨ret_int (by rw [HE2.out, if_pos (.inr h2)]), hb2⟩
    go_enter Tryz.func53, Tryz.ntmps53
    go_wp2_with (first | (go_at_call 15; refine cl.mono ?_; rintro er w2 ⟨rfl, hb2⟩))
    go_ret
    exact ⟨ret_int (by rw [HE2.out, if_neg (by omega)]), hb2⟩
  · have HE2 := Lib.hid (HE.out.trans (if_pos hc))
    clear HE
    generalize clE ls = ce at *
    go_enter Tryz.func53, Tryz.ntmps53
    go_wp2_with (first | (go_at_call 15; refine cl.mono ?_; rintro er w2 ⟨rfl, hb2⟩))
    go_ret
    exact ⟨ret_int (by rw [HE2.out]), hb2⟩
def nextP (ls : List Lv) (c : Cn) (L : Nat) (x : Int × Bool) (j : Nat) : Cn := fun i => if i = L then x else if L < i ∧ i < j ∧ (L : Int) + 1 ≤ (gL ls i).restart then (0, false) else c i
theorem nextP_at (ls : List Lv) (c : Cn) (L : Nat) (x : Int × Bool) (j i : Nat) : nextP ls c L x j i = if i = L then x else if L < i ∧ i < j ∧ (L : Int) + 1 ≤ (gL ls i).restart then (0, false) else c i := rfl
theorem nextP_start (ls : List Lv) (c : Cn) (L : Nat) (x : Int × Bool) : nextP ls c L x (L + 1) = upd c L x := by
  funext i
  rw [nextP_at, upd_at]
  by_cases h : i = L
  · rw [if_pos h, if_pos h]
  · rw [if_neg h, if_neg h, if_neg (by omega)]
theorem nextP_in (ls : List Lv) (c : Cn) (L : Nat) (x : Int × Bool) {j : Nat} (hj : L < j) (h : (L : Int) + 1 ≤ (gL ls j).restart) : nextP ls c L x (j + 1) = upd (nextP ls c L x j) j (0, false) := by
  funext k
  rw [nextP_at, upd_at]
  by_cases e : k = j
  · subst e; rw [if_neg (by omega), if_pos ⟨hj, by omega, h⟩, if_pos rfl]
  · rw [if_neg e, nextP_at]
    by_cases e2 : k = L
    · rw [if_pos e2, if_pos e2]
    · rw [if_neg e2, if_neg e2]
      by_cases e3 : L < k ∧ k < j ∧ (L : Int) + 1 ≤ (gL ls k).restart
      · rw [if_pos ⟨e3.1, by omega, e3.2.2⟩, if_pos e3]
      · rw [if_neg (fun q => e3 ⟨q.1, by omega, q.2.2⟩), if_neg e3]
theorem nextP_out (ls : List Lv) (c : Cn) (L : Nat) (x : Int × Bool) {j : Nat} (h : ¬ (L : Int) + 1 ≤ (gL ls j).restart) : nextP ls c L x (j + 1) = nextP ls c L x j := by
  funext k
  rw [nextP_at, nextP_at]
  by_cases e2 : k = L
  · rw [if_pos e2, if_pos e2]
  · rw [if_neg e2, if_neg e2]
    by_cases e3 : L < k ∧ k < j ∧ (L : Int) + 1 ≤ (gL ls k).restart
    · rw [if_pos ⟨e3.1, by omega, e3.2.2⟩, if_pos e3]
    · refine (if_neg (fun q => e3 ⟨q.1, ?_, q.2.2⟩)).trans (if_neg e3).symm
      have : k ≠ j := fun e => h (e ▸ q.2.2)
      omega
structure CW (w : World) (B p5 p8 : Nat) (Z : Cn) : Prop where
  b5 : Blk w p5 87 (cnA Z)
  b8 : Blk w p8 87 (cnA cnZ)
  n : p5 ≠ p8
  m5 : B ≤ p5
  m8 : B ≤ p8
theorem CW.new (w : World) (c : Cn) : CW ((w.alloc (.cells (cnA c) 87)).alloc (.cells (cnA cnZ) 87)) w.heap.size w.heap.size (w.heap.size + 1) c := by
  have e1 := Blk.new w 87 (cnA c)
  have e2 := Blk.new (w.alloc (.cells (cnA c) 87)) 87 (cnA cnZ)
  rw [World.size_alloc] at e2
  exact ⟨e1.alloc _, e2, by omega, by omega, by omega⟩
theorem CW.below {w w' : World} {B p5 p8 : Nat} {Z : Cn} (h : CW w B p5 p8 Z) (hb : Below w.heap.size w w') : CW w' B p5 p8 Z := ⟨h.b5.below hb, h.b8.below hb, h.n, h.m5, h.m8⟩
theorem CW.drewN {w : World} {B p5 p8 : Nat} {Z : Cn} (h : CW w B p5 p8 Z) (q : Nat) : CW (w.drewN q) B p5 p8 Z := ⟨h.b5, h.b8, h.n, h.m5, h.m8⟩
theorem only_set2 (w : World) (g k j : Nat) (a b : Value) : w.grownBy ((w.setCell ⟨g, k, none⟩ a).setCell ⟨g, j, none⟩ b) (some g) := only_set (gset w g k a) _ b
theorem CW.setns {w : World} {B p5 p8 : Nat} {Z : Cn} (h : CW w B p5 p8 Z) {k : Nat} (hk : k < 9) (n : Int) (b : Bool) : CW ((w.setCell ⟨p5, k, none⟩ (.int .i64 n)).setCell ⟨p5, 9 + k, none⟩ (.bool b)) B p5 p8 (upd Z k (n, b)) :=
  ⟨h.b5.setns hk n b, h.b8.keep (only_set2 w p5 _ _ _ _) (fun e => h.n (by injection e)), h.n, h.m5, h.m8⟩
theorem CW.setsn {w : World} {B p5 p8 : Nat} {Z : Cn} (h : CW w B p5 p8 Z) {k : Nat} (hk : k < 9) (n : Int) (b : Bool) : CW ((w.setCell ⟨p5, 9 + k, none⟩ (.bool b)).setCell ⟨p5, k, none⟩ (.int .i64 n)) B p5 p8 (upd Z k (n, b)) :=
  ⟨h.b5.setsn hk n b, h.b8.keep (only_set2 w p5 _ _ _ _) (fun e => h.n (by injection e)), h.n, h.m5, h.m8⟩
theorem below_set2 {B : Nat} {w0 w : World} (h : Below B w0 w) {g : Nat} (hg : B ≤ g) (k j : Nat) (a b : Value) : Below B w0 ((w.setCell ⟨g, k, none⟩ a).setCell ⟨g, j, none⟩ b) :=
  (h.setCell (p := ⟨g, k, none⟩) hg a).setCell (p := ⟨g, j, none⟩) hg b
set_option maxHeartbeats 8000000 in
set_option maxRecDepth 100000 in
theorem nstep_any (A : Option Addr) (n cA : Nat) (ls : List Lv) (c : Cn) (M : Int) (L : Nat) (r : Int) (w : World) (ha : Sl w 4 lvC A n ls) (hn : n ≤ 9) (hL : L < n) (hcL : 0 ≤ (c L).1 ∧ (c L).1 ≤ M) (hM : M ≤ 1099511627776) :
    Calls Tryz.prog 67 #[.slice A n cA, .agg (cnA c), .int .i64 ((L : Int) + 1), .int .i64 r] w fun e w' => e = .returned (.agg (cnA (nextC ls n c L r))) ∧ Below w.heap.size w w' := by
  have T0 := CW.new w c
  have hb0 := ((Below.refl w.heap.size w).alloc (Nat.le_refl _) (.cells (cnA c) 87)).alloc (by simp) (.cells (cnA cnZ) 87)
  have L9 : L < 9 := by omega
  have L9' : (L : Int) < 9 := by omega
  go_enter Tryz.func67, Tryz.ntmps67
  go_upto_region 0 with fail
  go_cut [5, 8] (fun v5 v8 wx => ∃ p5 p8, v5 = .pointer (some ⟨p5, 0, none⟩) ∧ v8 = .pointer (some ⟨p8, 0, none⟩) ∧ CW wx w.heap.size p5 p8 c ∧ Below w.heap.size w wx)
  case first =>
    go_wp2_with fail
    go_meet
    case rel => exact ⟨_, _, rfl, rfl, T0, hb0⟩
  case rest =>
  obtain ⟨p5, p8, rfl, rfl, T1, hb1⟩ := hcut
  clear T0 hb0
  obtain ⟨z0, z1⟩ := T1.b5.cn L9
  have f0 := T1.b5.frozen L
  have f1 := T1.b5.frozen (9 + L)
  have hN : ∀ x, (x = if r ≠ 0 then (r, true) else if (c L).2 = true then ((c L).1 + 1, true) else ((gL ls L).start, true)) → nextP ls c L x n = nextC ls n c L r := by
    intro x hx
    subst hx
    funext i
    rw [nextP_at]
    unfold nextC
    by_cases h : i = L
    · subst h; rw [if_pos rfl]
    · rw [if_neg h]
      exact (if_neg h).symm
  have HN := Lib.hid hN
  clear hN
  by_cases hr : r ≠ 0
  · have hr' : (r != 0) = true := bne_iff_ne.2 hr
    have HX := Lib.hid (HN.out (r, true) (by rw [if_pos hr]))
    have T3 : CW ((wc.setCell ⟨p5, L, none⟩ (.int .i64 r)).setCell ⟨p5, 9 + L, none⟩ (.bool true)) w.heap.size p5 p8 (nextP ls c L (r, true) (L + 1)) := by rw [nextP_start]; exact T1.setns L9 _ _
    have hb3 := below_set2 hb1 T1.m5 L (9 + L) (.int .i64 r) (.bool true)
    clear T1 hb1 HN
    go_wp2_with fail
    go_loopw [10] (fun vj wr => ∃ j : Nat, vj = .int .i64 j ∧ L < j ∧ j ≤ n ∧ CW wr w.heap.size p5 p8 (nextP ls c L (r, true) j) ∧ Below w.heap.size w wr) (fun vj _ => n - (intOf vj).toNat)
    case atStart => exact ⟨L + 1, by simp, by omega, by omega, T3, hb3⟩
    case round =>
      obtain ⟨j, rfl, hLj, hj, T4, hbw⟩ := hrel
      clear T3 hb3 z0 z1 f0 f1
      by_cases hlt : j < n
      · obtain ⟨ad, e, hl2, k0, k1, k2, k3⟩ := (ha.below hbw).lv hlt
        cases e
        have j9 : j < 9 := by omega
        have j9' : (j : Int) < 9 := by omega
        have HI := Lib.hid (nextP_in ls c L (r, true) hLj)
        have HO := Lib.hid (nextP_out ls c L (r, true) (j := j))
        generalize gL ls j = lv at *
        obtain ⟨xf, xs, xt, xr⟩ := lv
        simp only at k0 k1 k2 k3 HI HO
        obtain ⟨z0, z1⟩ := T4.b5.cn j9
        have f0 := T4.b5.frozen j
        have f1 := T4.b5.frozen (9 + j)
        by_cases hxr : (L : Int) + 1 ≤ xr
        · go_wp2_with fail
          go_roundw
          case measure => rw [intOf, intOf]; omega
          case rel => exact ⟨j + 1, by simp, by omega, by omega, by rw [HI.out hxr]; exact T4.setsn j9 _ _, below_set2 hbw T4.m5 _ _ _ _⟩
        · go_wp2_with fail
          go_roundw
          case measure => rw [intOf, intOf]; omega
          case rel => exact ⟨j + 1, by simp, by omega, by omega, by rw [HO.out hxr]; exact T4, hbw⟩
      · have : j = n := by omega
        subst this
        rw [HX.out] at T4
        go_upto_region 13 with fail
        have B5 := T4.b5
        have B8 := T4.b8
        unfold Blk at B5 B8
        go_wp2_with (first | (refine wpList_load_row rfl 87 _ rfl p5 rfl 87 _ (0, 0) _ B5 Tryz.underlying87 rfl (by kernel_rfl) ?_) | (refine wpList_store_row rfl 87 _ _ rfl p8 _ rfl rfl 87 _ B8 (by kernel_rfl) rfl (cnA_one _) ?_))
        refine bodyPost_ret (results_cell_row rfl _ _ p8 87 _ (0, 0) _ rfl (setRow_heap wr p8 _ _ _ _ B8) Tryz.underlying87 rfl (by kernel_rfl)) rfl ?_
        exact ⟨rfl, below_setRow hbw T4.m8 _⟩
  obtain rfl : r = 0 := by omega
  obtain ⟨ad, e, hl2, _, k1, _, _⟩ := (ha.below hb1).lv hL
  subst e
  by_cases hs : (c L).2 = true
  · have HX := Lib.hid (HN.out ((c L).1 + 1, true) (by rw [if_neg (by simp), if_pos hs]))
    have hcn : 0 ≤ (c L).1 ∧ (c L).1 + 1 ≤ 1099511627777 := by omega
    have T3 : CW ((wc.setCell ⟨p5, L, none⟩ (.int .i64 ((c L).1 + 1))).setCell ⟨p5, 9 + L, none⟩ (.bool true)) w.heap.size p5 p8 (nextP ls c L ((c L).1 + 1, true) (L + 1)) := by rw [nextP_start]; exact T1.setns L9 _ _
    have hb3 := below_set2 hb1 T1.m5 L (9 + L) (.int .i64 ((c L).1 + 1)) (.bool true)
    rw [hs] at z1
    clear T1 hb1 HN hs
    clear k1
    go_wp2_with fail
    go_loopw [10] (fun vj wr => ∃ j : Nat, vj = .int .i64 j ∧ L < j ∧ j ≤ n ∧ CW wr w.heap.size p5 p8 (nextP ls c L ((c L).1 + 1, true) j) ∧ Below w.heap.size w wr) (fun vj _ => n - (intOf vj).toNat)
    case atStart => exact ⟨L + 1, by simp, by omega, by omega, T3, hb3⟩
    case round =>
      obtain ⟨j, rfl, hLj, hj, T4, hbw⟩ := hrel
      clear T3 hb3 z0 z1 f0 f1
      by_cases hlt : j < n
      · obtain ⟨ad, e, hl2, k0, k1, k2, k3⟩ := (ha.below hbw).lv hlt
        cases e
        have j9 : j < 9 := by omega
        have j9' : (j : Int) < 9 := by omega
        have HI := Lib.hid (nextP_in ls c L ((c L).1 + 1, true) hLj)
        have HO := Lib.hid (nextP_out ls c L ((c L).1 + 1, true) (j := j))
        generalize gL ls j = lv at *
        obtain ⟨xf, xs, xt, xr⟩ := lv
        simp only at k0 k1 k2 k3 HI HO
        obtain ⟨z0, z1⟩ := T4.b5.cn j9
        have f0 := T4.b5.frozen j
        have f1 := T4.b5.frozen (9 + j)
        by_cases hxr : (L : Int) + 1 ≤ xr
        · go_wp2_with fail
          go_roundw
          case measure => rw [intOf, intOf]; omega
          case rel => exact ⟨j + 1, by simp, by omega, by omega, by rw [HI.out hxr]; exact T4.setsn j9 _ _, below_set2 hbw T4.m5 _ _ _ _⟩
        · go_wp2_with fail
          go_roundw
          case measure => rw [intOf, intOf]; omega
          case rel => exact ⟨j + 1, by simp, by omega, by omega, by rw [HO.out hxr]; exact T4, hbw⟩
      · have : j = n := by omega
        subst this
        rw [HX.out] at T4
        go_upto_region 13 with fail
        have B5 := T4.b5
        have B8 := T4.b8
        unfold Blk at B5 B8
        go_wp2_with (first | (refine wpList_load_row rfl 87 _ rfl p5 rfl 87 _ (0, 0) _ B5 Tryz.underlying87 rfl (by kernel_rfl) ?_) | (refine wpList_store_row rfl 87 _ _ rfl p8 _ rfl rfl 87 _ B8 (by kernel_rfl) rfl (cnA_one _) ?_))
        refine bodyPost_ret (results_cell_row rfl _ _ p8 87 _ (0, 0) _ rfl (setRow_heap wr p8 _ _ _ _ B8) Tryz.underlying87 rfl (by kernel_rfl)) rfl ?_
        exact ⟨rfl, below_setRow hbw T4.m8 _⟩
  · have HX := Lib.hid (HN.out ((gL ls L).start, true) (by rw [if_neg (by simp), if_neg hs]))
    have T3 : CW ((wc.setCell ⟨p5, L, none⟩ (.int .i64 (gL ls L).start)).setCell ⟨p5, 9 + L, none⟩ (.bool true)) w.heap.size p5 p8 (nextP ls c L ((gL ls L).start, true) (L + 1)) := by rw [nextP_start]; exact T1.setns L9 _ _
    have hb3 := below_set2 hb1 T1.m5 L (9 + L) (.int .i64 (gL ls L).start) (.bool true)
    rw [Bool.eq_false_iff.2 hs] at z1
    clear T1 hb1 HN hs
    go_wp2_with fail
    go_loopw [10] (fun vj wr => ∃ j : Nat, vj = .int .i64 j ∧ L < j ∧ j ≤ n ∧ CW wr w.heap.size p5 p8 (nextP ls c L ((gL ls L).start, true) j) ∧ Below w.heap.size w wr) (fun vj _ => n - (intOf vj).toNat)
    case atStart => exact ⟨L + 1, by simp, by omega, by omega, T3, hb3⟩
    case round =>
      obtain ⟨j, rfl, hLj, hj, T4, hbw⟩ := hrel
      clear T3 hb3 z0 z1 f0 f1
      by_cases hlt : j < n
      · obtain ⟨ad, e, hl2, k0, k1, k2, k3⟩ := (ha.below hbw).lv hlt
        cases e
        have j9 : j < 9 := by omega
        have j9' : (j : Int) < 9 := by omega
        have HI := Lib.hid (nextP_in ls c L ((gL ls L).start, true) hLj)
        have HO := Lib.hid (nextP_out ls c L ((gL ls L).start, true) (j := j))
        generalize gL ls j = lv at *
        obtain ⟨xf, xs, xt, xr⟩ := lv
        simp only at k0 k1 k2 k3 HI HO
        obtain ⟨z0, z1⟩ := T4.b5.cn j9
        have f0 := T4.b5.frozen j
        have f1 := T4.b5.frozen (9 + j)
        by_cases hxr : (L : Int) + 1 ≤ xr
        · go_wp2_with fail
          go_roundw
          case measure => rw [intOf, intOf]; omega
          case rel => exact ⟨j + 1, by simp, by omega, by omega, by rw [HI.out hxr]; exact T4.setsn j9 _ _, below_set2 hbw T4.m5 _ _ _ _⟩
        · go_wp2_with fail
          go_roundw
          case measure => rw [intOf, intOf]; omega
          case rel => exact ⟨j + 1, by simp, by omega, by omega, by rw [HO.out hxr]; exact T4, hbw⟩
      · have : j = n := by omega
        subst this
        rw [HX.out] at T4
        go_upto_region 13 with fail
        have B5 := T4.b5
        have B8 := T4.b8
        unfold Blk at B5 B8
        go_wp2_with (first | (refine wpList_load_row rfl 87 _ rfl p5 rfl 87 _ (0, 0) _ B5 Tryz.underlying87 rfl (by kernel_rfl) ?_) | (refine wpList_store_row rfl 87 _ _ rfl p8 _ rfl rfl 87 _ B8 (by kernel_rfl) rfl (cnA_one _) ?_))
        refine bodyPost_ret (results_cell_row rfl _ _ p8 87 _ (0, 0) _ rfl (setRow_heap wr p8 _ _ _ _ B8) Tryz.underlying87 rfl (by kernel_rfl)) rfl ?_
        exact ⟨rfl, below_setRow hbw T4.m8 _⟩
end Go.Proofs.YtbpodnhebjjkaaaGreatDoor

namespace Go.Proofs.YtbpodnhebjjkaaaGreatDoor
open Go.RowKit

section
variable {P : Program} {t e : TypeId} {s : Nat} {α : Type} {enc : α → List Value}
theorem Sl.drop_ {w : World} {ad : Addr} {n : Nat} {xs : List α} (h : Sl w s enc (some ad) n xs) {k : Nat} (hk : k ≤ n) : Sl w s enc (some (ad.add (k * s))) (n - k) (xs.drop k) := by
  refine ⟨by rw [List.length_drop, h.len], fun hn => ?_⟩
  obtain ⟨ad', e, hl, hc⟩ := h.rd (by omega)
  injection e with e
  subst e
  refine ⟨_, rfl, by rw [block_add]; exact hl, fun i x hx j u hu => ?_⟩
  rw [List.getElem?_drop] at hx
  have := hc (k + i) x hx j u hu
  rw [add_add_, show k * s + (i * s + j) = (k + i) * s + j by rw [Nat.add_mul]; omega]
  exact this
def cutA (A : Option Addr) (l c s : Nat) : Option Addr := if c = l then A else A.map (·.add (l * s))
theorem Sl.cut {w : World} {A : Option Addr} {n c : Nat} {xs : List α} (h : Sl w s enc A n xs) {l k : Nat} (h1 : l ≤ k) (h2 : k ≤ n) (hc : n ≤ c) : Sl w s enc (cutA A l c s) (k - l) ((xs.drop l).take (k - l)) := by
  by_cases h0 : k = l
  · subst h0
    rw [Nat.sub_self, List.take_zero]
    exact ⟨rfl, fun h => absurd h (by omega)⟩
  · obtain ⟨ad, e, _, _⟩ := h.rd (by omega)
    subst e
    unfold cutA
    rw [if_neg (by omega)]
    exact (h.drop_ (k := l) (by omega)).take (by omega)
theorem run_cut_lh (ht : P.underlying t = some (.slice e)) (hs : ∀ w, (sizeOf e).run P w = .ok s w) (A : Option Addr) {n c l k : Nat} (h1 : l ≤ k) (h2 : k ≤ n) (hc : n ≤ c) (w : World) :
    (Instr.slice t (.slice A n c) (some (.int .i64 l)) (some (.int .i64 k)) none).run P w = .ok (.slice (cutA A l c s) (k - l) (c - l)) w := by
  have he : P.elem t = e := by unfold Program.elem; rw [ht]
  rw [run_slice_lh w t A n c (by rw [he]; exact ht) _ _ _ _ (by omega) (by omega) (by omega), he, hs]
  simp only [Result.andThen, sliced, Int.toNat_natCast]
  rfl
theorem run_cut_l (ht : P.underlying t = some (.slice e)) (hs : ∀ w, (sizeOf e).run P w = .ok s w) (A : Option Addr) {n c l : Nat} (h1 : l ≤ n) (w : World) :
    (Instr.slice t (.slice A n c) (some (.int .i64 l)) none none).run P w = .ok (.slice (cutA A l c s) (n - l) (c - l)) w := by
  have he : P.elem t = e := by unfold Program.elem; rw [ht]
  rw [run_slice_l w t A n c (by rw [he]; exact ht) _ _ (by omega) (by omega), he, hs]
  simp only [Result.andThen, sliced, Int.toNat_natCast]
  rfl
theorem run_cut_h (ht : P.underlying t = some (.slice e)) (hs : ∀ w, (sizeOf e).run P w = .ok s w) (A : Option Addr) {n c k : Nat} (h2 : k ≤ n) (hc : n ≤ c) (w : World) :
    (Instr.slice t (.slice A n c) none (some (.int .i64 k)) none).run P w = .ok (.slice A k c) w := by
  have he : P.elem t = e := by unfold Program.elem; rw [ht]
  rw [run_slice_h w t A n c (by rw [he]; exact ht) _ _ (by omega) (by omega), he, hs]
  simp only [Result.andThen, sliced, Int.toNat_natCast, Nat.sub_zero, Nat.zero_mul]
  congr 2
  split
  · rfl
  · cases A
    · rfl
    · simp [Addr.add]
end
end Go.Proofs.YtbpodnhebjjkaaaGreatDoor

namespace Go.Proofs.YtbpodnhebjjkaaaGreatDoor
open Go.RowKit

def digF (f n : Int) (pl : Bool) : ByteArray := if pl = false ∧ formE f n = 0 then formB f n else if formE 1 n = 0 then formB 1 n else ⟨#[63]⟩
set_option maxHeartbeats 4000000 in
set_option maxRecDepth 100000 in
theorem digits_any (f n : Int) (pl : Bool) (w : World) (hg : Gl w) : Calls Tryz.prog 57 #[.int .i64 f, .int .i64 n, .bool pl] w fun e w' => e = .returned (.string (digF f n pl)) ∧ Below w.heap.size w w' := by
  have h1 := fun W hW => format_any f n W hW
  have h2 := fun W hW => format_any 1 n W hW
  have HD := Lib.hid (show digF f n pl = if pl = false ∧ formE f n = 0 then formB f n else if formE 1 n = 0 then formB 1 n else ⟨#[63]⟩ from rfl)
  have s1 : formE f n = 0 → formS f n = formB f n := fun h => if_pos h
  have s2 : formE 1 n = 0 → formS 1 n = formB 1 n := fun h => if_pos h
  have HS1 := Lib.hid s1
  have HS2 := Lib.hid s2
  clear s1 s2
  generalize formS f n = sf at *
  generalize formS 1 n = sd at *
  by_cases e1 : formE f n = 0
  · have es := HS1.out e1
    rw [e1] at h1
    cases pl
    · have HD2 := Lib.hid (HD.out.trans (if_pos ⟨rfl, e1⟩))
      subst es
      clear HD e1 h2
      go_enter Tryz.func57, Tryz.ntmps57
      go_wp2_with (first | (go_at_call 69; refine (h1 _ hg).mono ?_; rintro e w1 ⟨rfl, hb1⟩))
      go_ret
      exact ⟨by rw [HD2.out]; rfl, hb1⟩
    · have HD2 := Lib.hid (HD.out.trans (if_neg (by simp)))
      clear HD e1 h1 es
      by_cases e2 : formE 1 n = 0
      · have HD3 := Lib.hid (HD2.out.trans (if_pos e2))
        have es := HS2.out e2
        rw [e2] at h2
        subst es
        clear e2
        go_enter Tryz.func57, Tryz.ntmps57
        go_wp2_with (first | (go_at_call 69; refine (h2 _ hg).mono ?_; rintro e w1 ⟨rfl, hb1⟩))
        go_ret
        exact ⟨by rw [HD3.out]; rfl, hb1⟩
      · have HD3 := Lib.hid (HD2.out.trans (if_neg e2))
        have b2 : (formE 1 n == 0) = false := beq_eq_false_iff_ne.2 e2
        generalize formE 1 n = e2 at *
        go_enter Tryz.func57, Tryz.ntmps57
        go_wp2_with (first | (go_at_call 69; refine (h2 _ hg).mono ?_; rintro e w1 ⟨rfl, hb1⟩))
        go_ret
        exact ⟨by rw [HD3.out]; rfl, hb1⟩
  · have HD2 := Lib.hid (HD.out.trans (if_neg (fun h => e1 h.2)))
    have b1 : (formE f n == 0) = false := beq_eq_false_iff_ne.2 e1
    generalize formE f n = ef at *
    clear HD HS1
    by_cases e2 : formE 1 n = 0
    · have HD3 := Lib.hid (HD2.out.trans (if_pos e2))
      have es := HS2.out e2
      rw [e2] at h2
      subst es
      clear e2
      cases pl
      · go_enter Tryz.func57, Tryz.ntmps57
        go_wp2_with fail
        refine (h1 _ hg).mono ?_
        rintro e w1 ⟨rfl, hb1⟩
        go_wp2_with fail
        refine (h2 _ (hg.below hb1)).mono ?_
        rintro e w2 ⟨rfl, hb2⟩
        go_wp2_with fail
        go_ret
        exact ⟨by rw [HD3.out]; rfl, below_trans' hb1 hb1.size hb2⟩
      · go_enter Tryz.func57, Tryz.ntmps57
        go_wp2_with fail
        refine (h2 _ hg).mono ?_
        rintro e w2 ⟨rfl, hb2⟩
        go_wp2_with fail
        go_ret
        exact ⟨by rw [HD3.out]; rfl, hb2⟩
    · have HD3 := Lib.hid (HD2.out.trans (if_neg e2))
      have b2 : (formE 1 n == 0) = false := beq_eq_false_iff_ne.2 e2
      generalize formE 1 n = e2 at *
      cases pl
      · go_enter Tryz.func57, Tryz.ntmps57
        go_wp2_with fail
        refine (h1 _ hg).mono ?_
        rintro e w1 ⟨rfl, hb1⟩
        go_wp2_with fail
        refine (h2 _ (hg.below hb1)).mono ?_
        rintro e w2 ⟨rfl, hb2⟩
        go_wp2_with fail
        go_ret
        exact ⟨by rw [HD3.out]; rfl, below_trans' hb1 hb1.size hb2⟩
      · go_enter Tryz.func57, Tryz.ntmps57
        go_wp2_with fail
        refine (h2 _ hg).mono ?_
        rintro e w2 ⟨rfl, hb2⟩
        go_wp2_with fail
        go_ret
        exact ⟨by rw [HD3.out]; rfl, hb2⟩
set_option maxHeartbeats 4000000 in
set_option maxRecDepth 100000 in
theorem ltcheck_any (A : Option Addr) (n c : Nat) (ls : List Lv) (level : Int) (w : World) (ha : Sl w 4 lvC A n ls) :
    Calls Tryz.prog 55 #[.slice A n c, .int .i64 level] w fun e w' => e = .returned (.int .i64 (ckE ls n level)) ∧ Below w.heap.size w w' := by
  have HE := Lib.hid (show ckE ls n level = if clE ls ≠ 0 then clE ls else if level < 1 ∨ (n : Int) < level then 2 else 0 from rfl)
  have cl := checkLevels_any A n c ls w ha
  by_cases hc : clE ls = 0
  · rw [hc] at cl
    have HE2 := Lib.hid (HE.out.trans (if_neg (by rw [hc]; simp)))
    clear HE hc
    by_cases h1 : level < 1
    · go_enter Tryz.func55, Tryz.ntmps55
      go_wp2_with (first | (go_at_call 15; refine cl.mono ?_; rintro er w2 ⟨rfl, hb2⟩))
      go_ret
      exact ⟨ret_int (by rw [HE2.out, if_pos (.inl h1)]), hb2⟩
    by_cases h2 : (n : Int) < level
    · go_enter Tryz.func55, Tryz.ntmps55
      go_wp2_with (first | (go_at_call 15; refine cl.mono ?_; rintro er w2 ⟨rfl, hb2⟩))
      go_ret
      exact ⟨ret_int (by rw [HE2.out, if_pos (.inr h2)]), hb2⟩
    go_enter Tryz.func55, Tryz.ntmps55
    go_wp2_with (first | (go_at_call 15; refine cl.mono ?_; rintro er w2 ⟨rfl, hb2⟩))
    go_ret
    exact ⟨ret_int (by rw [HE2.out, if_neg (by omega)]), hb2⟩
  · have HE2 := Lib.hid (HE.out.trans (if_pos hc))
    clear HE
    generalize clE ls = ce at *
    go_enter Tryz.func55, Tryz.ntmps55
    go_wp2_with (first | (go_at_call 15; refine cl.mono ?_; rintro er w2 ⟨rfl, hb2⟩))
    go_ret
    exact ⟨ret_int (by rw [HE2.out]), hb2⟩
end Go.Proofs.YtbpodnhebjjkaaaGreatDoor

namespace Go.Proofs.YtbpodnhebjjkaaaGreatDoor
open Go.RowKit

theorem elemN : Elem Tryz.prog 110 3 1 8 := Elem.mk Tryz.underlying110 (z := .int .i64 0) (by kernel_rfl) rfl (by omega)
theorem intC_oneN (x : Int) : ∀ u ∈ intC x, u.oneCell' = true := by intro u hu; simp [intC] at hu; subst hu; rfl
theorem sizeLv (w : World) : (sizeOf 74).run Tryz.prog w = .ok 4 w := by kernel_rfl
/-- the numbers that are shown. -/
def numF (ls : List Lv) (c : Cn) (i : Nat) : Int := if (c i).2 = true then (c i).1 else (gL ls i).start
def numsF (ls : List Lv) (c : Cn) (k : Nat) : List Int := (List.range k).map (numF ls c)
theorem numsF_succ (ls : List Lv) (c : Cn) (k : Nat) : numsF ls c (k + 1) = numsF ls c k ++ [numF ls c k] := by simp [numsF, List.range_succ]
set_option maxHeartbeats 8000000 in
set_option maxRecDepth 100000 in
theorem numbers_any (A : Option Addr) (n cA : Nat) (ls : List Lv) (c : Cn) (L : Nat) (w : World) (ha : Sl w 4 lvC A n ls) (hn : n ≤ 9) (hL : L ≤ n) (hc : n ≤ cA) :
    Calls Tryz.prog 54 #[.slice A n cA, .agg (cnA c), .int .i64 L] w fun e w' => ∃ B cB, e = .returned (.slice B L cB) ∧ Own w' w.heap.size 3 1 intC B L cB (numsF ls c L) ∧ Below w.heap.size w w' := by
  have N0 := Blk.new w 87 (cnA c)
  have hb0 := (Below.refl w.heap.size w).alloc (Nat.le_refl _) (.cells (cnA c) 87)
  have hcut := run_cut_h Tryz.underlying25 sizeLv A hL hc
  have hs := ha.take hL
  have hg9 : ∀ i, i < L → gL (ls.take L) i = gL ls i := fun i hi => by
    unfold gL
    rw [List.getD_eq_getElem?_getD, List.getD_eq_getElem?_getD, List.getElem?_take, if_pos hi]
  have HG := Lib.hid hg9
  clear hg9
  generalize ls.take L = lt at *
  go_enter Tryz.func54, Tryz.ntmps54
  go_upto_region 0 with fail
  go_cut [4] (fun v4 wx => ∃ p4, v4 = .pointer (some ⟨p4, 0, none⟩) ∧ Blk wx p4 87 (cnA c) ∧ w.heap.size ≤ p4 ∧ Below w.heap.size w wx)
  case first =>
    go_wp2_with fail
    go_meet
    case rel => exact ⟨_, rfl, N0, Nat.le_refl _, hb0⟩
  case rest =>
  obtain ⟨p4, rfl, B4, hp4, hb1⟩ := hcut
  go_wp2_with fail
  go_loopw [7, 15] (fun vo vi wr => ∃ (i : Nat) (B : Option Addr) (cB : Nat), vo = .slice B i cB ∧ vi = .int .i64 i ∧ i ≤ L ∧ Own wr w.heap.size 3 1 intC B i cB (numsF ls c i) ∧ Blk wr p4 87 (cnA c) ∧ blk B ≠ some p4 ∧ Below w.heap.size w wr) (fun _ vi _ => L - (intOf vi).toNat)
  case atStart => exact ⟨0, none, 0, rfl, rfl, Nat.zero_le _, Own.nil_ _ _ _ _ _, B4, by simp [blk], hb1⟩
  case round =>
    obtain ⟨i, B, cB, rfl, rfl, hi, ho, B4', hne, hbw⟩ := hrel
    clear B4 hb1
    by_cases hlt : i < L
    · obtain ⟨ad, e, hl2, k0, k1, k2, k3⟩ := (hs.below hbw).lv hlt
      have hgl := HG.out i hlt
      have HS := numsF_succ ls c i
      rw [show numF ls c i = if (c i).2 = true then (c i).1 else (gL lt i).start by rw [hgl]; rfl] at HS
      have i9 : i < 9 := by omega
      have i9' : (i : Int) < 9 := by omega
      subst e
      generalize gL lt i = lv at *
      obtain ⟨xf, xs, xt, xr⟩ := lv
      simp only at k0 k1 k2 k3
      go_upto_region 4 with fail
      go_cut [8, 9] (fun v8 v9 wx => ∃ p, v8 = .int .i64 i ∧ v9 = .pointer (some ⟨p, 0, none⟩) ∧ Blk wx p 74 #[.int .i64 xf, .int .i64 xs, .string xt, .int .i64 xr] ∧ Below wr.heap.size wr wx)
      case first =>
        go_wp2_with fail
        go_meet
        case rel => exact ⟨_, rfl, rfl, Blk.new _ _ _, (Below.refl _ _).alloc (Nat.le_refl _) _⟩
      case rest =>
      obtain ⟨p9, rfl, rfl, B9, hb4⟩ := hcut
      clear k0 k1 k2 k3 hgl
      have q1 : wc.cell? ⟨p9, 1, none⟩ = some (.int .i64 xs) := B9.cell 1 rfl
      have B5 := B4'.below hb4
      have ho4 := ho.below hb4
      have hbc := below_trans' hbw hbw.size hb4
      have hne4 : blk B ≠ some p4 := hne
      obtain ⟨z0, z1⟩ := B5.cn i9
      clear B4' ho hbw hb4 B9
      generalize c i = ci at z0 z1 HS
      obtain ⟨cn, cs⟩ := ci
      simp only at z0 z1 HS
      have HS := Lib.hid HS
      by_cases hcs : cs = true
      · subst hcs
        have HS := Lib.hid (show numsF ls c (i + 1) = numsF ls c i ++ [cn] by rw [HS.out]; rfl)
        go_wp2_with (at_builtin; refine wpList_push elemN rfl (.tmp 30) (.tmp 32) rfl rfl _ rfl (ho4.alloc _) (cn) _ rfl rfl (intC_oneN _) rfl (by unfold maxLen; omega) (Nat.le_trans hbc.size (by simp)) ?_; intro A3 c3 w3 ho3 hg3 ha3)
        go_roundw
        case measure => rw [intOf, intOf]; omega
        case rel =>
          refine ⟨i + 1, A3, c3, rfl, by simp, by omega, by rw [HS.out]; exact ho3, (B5.alloc _).keep hg3 (fun e => hne4 e), ?_, (hbc.alloc hbc.size _).grown hg3 (Nat.le_trans hbc.size (by simp)) (fun k hk => (ho4.lt k hk).1)⟩
          rcases ha3 with h | h
          · rw [h]; exact hne4
          · rw [h]; intro e; injection e with e; have := B5.lt; simp at e; omega
      · have hcs : cs = false := by simpa using hcs
        subst hcs
        have HS := Lib.hid (show numsF ls c (i + 1) = numsF ls c i ++ [xs] by rw [HS.out]; rfl)
        go_wp2_with (at_builtin; refine wpList_push elemN rfl (.tmp 30) (.tmp 32) rfl rfl _ rfl (ho4.alloc _) (xs) _ rfl rfl (intC_oneN _) rfl (by unfold maxLen; omega) (Nat.le_trans hbc.size (by simp)) ?_; intro A3 c3 w3 ho3 hg3 ha3)
        go_roundw
        case measure => rw [intOf, intOf]; omega
        case rel =>
          refine ⟨i + 1, A3, c3, rfl, by simp, by omega, by rw [HS.out]; exact ho3, (B5.alloc _).keep hg3 (fun e => hne4 e), ?_, (hbc.alloc hbc.size _).grown hg3 (Nat.le_trans hbc.size (by simp)) (fun k hk => (ho4.lt k hk).1)⟩
          rcases ha3 with h | h
          · rw [h]; exact hne4
          · rw [h]; intro e; injection e with e; have := B5.lt; simp at e; omega
    · have : i = L := by omega
      subst this
      go_wp2_with fail
      go_ret
      exact ⟨_, _, rfl, ho, hbw⟩
end Go.Proofs.YtbpodnhebjjkaaaGreatDoor

namespace Go.Proofs.YtbpodnhebjjkaaaGreatDoor

def PtOk (p : Pt) : Prop := p.lit.length ≤ 100 ∧ 0 ≤ p.lev ∧ p.lev ≤ 9
theorem flushP_ok {lit : List UInt8} {ps : List Pt} (hp : ∀ p ∈ ps, PtOk p) (hl : lit.length ≤ 100) : (∀ p ∈ flushP lit ps, PtOk p) ∧ (flushP lit ps).length ≤ ps.length + 1 := by
  unfold flushP
  by_cases h : lit = []
  · rw [if_pos h]; exact ⟨hp, by omega⟩
  · rw [if_neg h]
    refine ⟨fun p q => ?_, by simp⟩
    rcases List.mem_append.1 q with q | q
    · exact hp p q
    · rw [List.mem_singleton.1 q]; exact ⟨hl, Int.le_refl _, by show (0 : Int) ≤ 9; omega⟩
theorem placeP_ok {lit : List UInt8} {ps : List Pt} {c : UInt8} {pl : Bool} (hp : ∀ p ∈ ps, PtOk p) (hl : lit.length ≤ 100) (hc : digB c = true) : (∀ p ∈ placeP lit ps c pl, PtOk p) ∧ (placeP lit ps c pl).length ≤ ps.length + 2 := by
  obtain ⟨h1, h2⟩ := flushP_ok hp hl
  unfold placeP
  unfold digB at hc
  simp only [Bool.and_eq_true, decide_eq_true_eq] at hc
  refine ⟨fun p q => ?_, by rw [List.length_append, List.length_singleton]; omega⟩
  rcases List.mem_append.1 q with q | q
  · exact h1 p q
  · rw [List.mem_singleton.1 q]; exact ⟨by simp, by show 0 ≤ (c.toNat : Int) - 48; omega, by show (c.toNat : Int) - 48 ≤ 9; omega⟩
theorem scanP_ok : ∀ (f : Nat) (l lit : List UInt8) (ps : List Pt) (pl : Nat), (∀ p ∈ ps, PtOk p) → lit.length + f ≤ 100 →
    (∀ p ∈ (scanP f l lit ps pl).2.1, PtOk p) ∧ (scanP f l lit ps pl).1.length ≤ 100 ∧ (scanP f l lit ps pl).2.1.length ≤ ps.length + 2 * f
  | 0, _, lit, ps, _, hp, hl => ⟨hp, by show lit.length ≤ _; omega, by show ps.length ≤ _; omega⟩
  | f + 1, [], lit, ps, _, hp, hl => ⟨hp, by show lit.length ≤ _; omega, by show ps.length ≤ _; omega⟩
  | f + 1, c :: r, lit, ps, pl, hp, hl => by
    have base : ∀ e : Int, (∀ p ∈ ((lit, ps, pl, e) : List UInt8 × List Pt × Nat × Int).2.1, PtOk p) ∧ lit.length ≤ 100 ∧ ps.length ≤ ps.length + 2 * (f + 1) := fun e => ⟨hp, by omega, by omega⟩
    unfold scanP
    by_cases hc : c = 37
    · rw [if_pos hc]
      match r with
      | [] => exact base 14
      | d :: r2 =>
        simp only
        by_cases hd : d = 37
        · rw [if_pos hd]
          have := scanP_ok f r2 (lit ++ [37]) ps pl hp (by rw [List.length_append, List.length_singleton]; omega)
          exact ⟨this.1, this.2.1, by omega⟩
        · rw [if_neg hd]
          by_cases hg : digB d = true
          · rw [if_pos hg]
            have h1 := placeP_ok (pl := false) hp (lit := lit) (by omega) hg
            have := scanP_ok f r2 [] _ (pl + 1) h1.1 (by simp; omega)
            exact ⟨this.1, this.2.1, by omega⟩
          · rw [if_neg hg]
            by_cases h100 : d = 100
            · rw [if_pos h100]
              match r2 with
              | [] => exact base 14
              | k :: r3 =>
                simp only
                by_cases hk : digB k = true
                · rw [if_pos hk]
                  have h1 := placeP_ok (pl := true) hp (lit := lit) (by omega) hk
                  have := scanP_ok f r3 [] _ (pl + 1) h1.1 (by simp; omega)
                  exact ⟨this.1, this.2.1, by omega⟩
                · rw [if_neg hk]; exact base 14
            · rw [if_neg h100]; exact base 14
    · rw [if_neg hc]
      have := scanP_ok f r (lit ++ [c]) ps pl hp (by rw [List.length_append, List.length_singleton]; omega)
      exact ⟨this.1, this.2.1, by omega⟩
theorem parseP_ok (s : ByteArray) : (∀ p ∈ parseP s, PtOk p) ∧ (parseP s).length ≤ 200 := by
  unfold parseP
  by_cases h : parseE s = 0
  · rw [if_pos h]
    have h64 : ¬ 64 < s.size := fun h64 => by unfold parseE at h; rw [if_pos h64] at h; omega
    have hl : s.data.toList.length = s.size := Array.length_toList
    obtain ⟨h1, h2, h3⟩ := scanP_ok (s.data.toList.length + 1) s.data.toList [] [] 0 (fun p q => absurd q List.not_mem_nil) (by simp; omega)
    have := flushP_ok h1 h2
    refine ⟨this.1, ?_⟩
    have h4 := this.2
    simp only [List.length_nil] at h3
    show (flushP _ _).length ≤ _
    omega
  · rw [if_neg h]; exact ⟨fun p q => absurd q List.not_mem_nil, by simp⟩
theorem lvE_at : ∀ (ls : List Lv) (i : Nat), clF i ls = 0 → ∀ j, j < ls.length → lvE (i + j) (gL ls j) = 0
  | [], _, _, j, hj => absurd hj (Nat.not_lt_zero j)
  | l :: r, i, h, j, hj => by
    rw [clF] at h
    by_cases h0 : lvE i l ≠ 0
    · rw [if_pos h0] at h; exact absurd h h0
    · rw [if_neg h0] at h
      rcases j with _ | j
      · exact Decidable.not_not.1 h0
      · have := lvE_at r (i + 1) h j (by simpa using hj)
        rw [show i + (j + 1) = i + 1 + j by omega]
        exact this
/-- of right levels: the format, the start, the restart, and what the template's parts name. -/
theorem lv_right {ls : List Lv} (h : clE ls = 0) {i : Nat} (hi : i < ls.length) : 1 ≤ (gL ls i).format ∧ (gL ls i).format ≤ 7 ∧ 0 ≤ (gL ls i).start ∧ (gL ls i).start ≤ 32767 ∧ 0 ≤ (gL ls i).restart ∧ (gL ls i).restart ≤ i ∧ parseE (gL ls i).text = 0 ∧ ∀ p ∈ parseP (gL ls i).text, p.lev ≤ (i : Int) + 1 := by
  unfold clE at h
  have h9 : ¬ 9 < ls.length := fun h9 => by rw [if_neg (by omega), if_pos h9] at h; omega
  rw [if_neg (by omega), if_neg h9] at h
  have e := lvE_at ls 0 h i hi
  rw [Nat.zero_add] at e
  generalize gL ls i = l at *
  unfold lvE at e
  by_cases a : l.format < 1 ∨ 7 < l.format
  · rw [if_pos a] at e; omega
  rw [if_neg a] at e
  by_cases b : l.start < 0 ∨ 32767 < l.start
  · rw [if_pos b] at e; omega
  rw [if_neg b] at e
  by_cases c : checkE l.text ((i : Int) + 1) ≠ 0
  · rw [if_pos c] at e; exact absurd e c
  rw [if_neg c] at e
  by_cases d : l.restart < 0 ∨ (i : Int) < l.restart
  · rw [if_pos d] at e; omega
  have c := Decidable.not_not.1 c
  unfold checkE at c
  rw [if_neg (by omega)] at c
  by_cases f : parseE l.text = 0 ∧ (parseP l.text).any (fun p => decide ((i : Int) + 1 < p.lev)) = true
  · rw [if_pos f] at c; omega
  · rw [if_neg f] at c
    refine ⟨by omega, by omega, by omega, by omega, by omega, by omega, c, fun p hp => ?_⟩
    by_cases h' : (i : Int) + 1 < p.lev
    · exact absurd ⟨c, List.any_eq_true.2 ⟨p, hp, by simpa using h'⟩⟩ f
    · omega
end Go.Proofs.YtbpodnhebjjkaaaGreatDoor

namespace Go.Proofs.YtbpodnhebjjkaaaGreatDoor
open Go.RowKit

theorem Own.others {α : Type} {w w' : World} {B s n c b : Nat} {e : TypeId} {enc : α → List Value} {A : Option Addr} {xs : List α} (h : Own w B e s enc A n c xs) (hk : Lib.OthersKept 5 (some b) w w') (he : e ≠ 5) (hb : blk A ≠ some b) : Own w' B e s enc A n c xs := by
  refine ⟨h.len, h.row.1, h.row.2.elim .inl ?_⟩
  rintro ⟨g, cap, cur, hv, hB, hg, r⟩
  have hA : A = some ⟨g, 0, none⟩ := by injection hv
  exact .inr ⟨g, cap, cur, hv, hB, hk g _ hg (fun e2 => hb (by rw [hA]; exact e2)) (fun c fz e2 => by injection e2 with _ e3 _; exact he e3), r⟩
def ShownPost (w : World) (ls : List Lv) (n : Nat) (c : Cn) (level : Int) (e : Ending) (w' : World) : Prop :=
  ∃ (B : Option Addr) (k cB : Nat), e = .returned (.tuple #[.slice B k cB, .int .i64 (ckE ls n level)]) ∧ (ckE ls n level = 0 → (k : Int) = level ∧ Own w' w.heap.size 3 1 intC B k cB (numsF ls c k)) ∧ (ckE ls n level ≠ 0 → B = none ∧ k = 0 ∧ cB = 0) ∧ Below w.heap.size w w'
theorem ckE_ok {ls : List Lv} {n : Nat} {level : Int} (hn : ls.length = n) (h : ckE ls n level = 0) : clE ls = 0 ∧ 1 ≤ level ∧ level ≤ n ∧ n ≤ 9 := by
  unfold ckE at h
  by_cases h1 : clE ls ≠ 0
  · rw [if_pos h1] at h; exact absurd h h1
  · rw [if_neg h1] at h
    have h1 := Decidable.not_not.1 h1
    have := clE_len h1
    by_cases h2 : level < 1 ∨ (n : Int) < level
    · rw [if_pos h2] at h; omega
    · exact ⟨h1, by omega, by omega, by omega⟩
set_option maxHeartbeats 4000000 in
set_option maxRecDepth 100000 in
theorem shown_any (A : Option Addr) (n cA : Nat) (ls : List Lv) (c : Cn) (level : Int) (w : World) (ha : Sl w 4 lvC A n ls) (hc : n ≤ cA) :
    Calls Tryz.prog 41 #[.slice A n cA, .agg (cnA c), .int .i64 level] w (ShownPost w ls n c level) := by
  have hlen := ha.len
  have N0 := Blk.new w 87 (cnA c)
  have hb0 := (Below.refl w.heap.size w).alloc (Nat.le_refl _) (.cells (cnA c) 87)
  have cc := checked_any A n cA ls level (w.alloc (.cells (cnA c) 87)) (ha.below hb0)
  by_cases hk : ckE ls n level = 0
  · obtain ⟨h1, h2, h3, h4⟩ := ckE_ok hlen hk
    obtain ⟨L, rfl⟩ : ∃ L : Nat, level = (L : Int) := ⟨level.toNat, by omega⟩
    have hnu := fun W (hW : Sl W 4 lvC A n ls) => numbers_any A n cA ls c L W hW h4 (by omega) hc
    have HP : ∀ e w', (∃ (B : Option Addr) (k cB : Nat), e = .returned (.tuple #[.slice B k cB, .int .i64 0]) ∧ (k : Int) = L ∧ Own w' w.heap.size 3 1 intC B k cB (numsF ls c k) ∧ Below w.heap.size w w') → ShownPost w ls n c L e w' := by
      rintro e w' ⟨B, k, cB, he, hk1, ho, hb⟩
      unfold ShownPost
      rw [hk]
      exact ⟨B, k, cB, he, fun _ => ⟨hk1, ho⟩, fun h => absurd rfl h, hb⟩
    have HP := Lib.hid HP
    rw [hk] at cc
    clear hk h1 h2 h3
    go_enter Tryz.func41, Tryz.ntmps41
    go_wp2_with (first | (go_at_call 53; refine cc.mono ?_; rintro er w2 ⟨rfl, hb2⟩; have b5 := N0.below hb2; have hb3 := below_trans' hb0 hb0.size hb2; unfold Blk at b5) | (refine wpList_load_row rfl 87 _ rfl w.heap.size rfl 87 _ (0, 0) _ b5 Tryz.underlying87 rfl (by kernel_rfl) ?_) | (go_at_call 54; refine (hnu _ (ha.below hb3)).mono ?_; rintro er w4 ⟨B, cB, rfl, ho, hb4⟩))
    go_ret2
    refine HP.out _ _ ⟨B, L, cB, rfl, rfl, ?_, below_trans' hb3 hb3.size hb4⟩
    exact ho.base hb3.size
  · have HP : ∀ e w', (e = .returned (.tuple #[.slice none 0 0, .int .i64 (ckE ls n level)]) ∧ Below w.heap.size w w') → ShownPost w ls n c level e w' := by
      rintro e w' ⟨he, hb⟩
      exact ⟨none, 0, 0, he, fun h => absurd h hk, fun _ => ⟨rfl, rfl, rfl⟩, hb⟩
    have HP := Lib.hid HP
    have b1 : (ckE ls n level != 0) = true := bne_iff_ne.2 hk
    clear hk
    generalize ckE ls n level = ce at *
    go_enter Tryz.func41, Tryz.ntmps41
    go_wp2_with (first | (go_at_call 53; refine cc.mono ?_; rintro er w2 ⟨rfl, hb2⟩))
    go_ret2
    exact HP.out _ _ ⟨rfl, below_trans' hb0 hb0.size hb2⟩
def fillP (ls : List Lv) (ns : List Int) (p : Pt) : List UInt8 := if p.lev = 0 then p.lit else (digF (gL ls (p.lev - 1).toNat).format (gI ns (p.lev - 1).toNat) p.plain).data.toList
/-- the first k parts of a label. -/
def fillL (ls : List Lv) (L : Nat) (ns : List Int) (k : Nat) : List UInt8 := ((parseP (gL ls L).text).take k).flatMap (fillP ls ns)
def fillB (ls : List Lv) (L : Nat) (ns : List Int) : ByteArray := ⟨((parseP (gL ls L).text).flatMap (fillP ls ns)).toArray⟩
theorem fillL_succ (ls : List Lv) (L : Nat) (ns : List Int) {k : Nat} (h : k < (parseP (gL ls L).text).length) : fillL ls L ns (k + 1) = fillL ls L ns k ++ fillP ls ns (gP (parseP (gL ls L).text) k) := by
  unfold fillL
  rw [List.take_succ_eq_append_getElem h, List.flatMap_append, gP_get _ h]
  simp
theorem upB_size (s : ByteArray) : (upB s).size = s.size := by
  show (Lib.toUpperA s.data.toList).toArray.size = _
  rw [List.size_toArray]
  unfold Lib.toUpperA
  rw [List.length_map]
  exact Array.length_toList
theorem formB_size (f n : Int) (h : formE f n = 0) : (formB f n).size ≤ 26000000 := by
  unfold formE at h
  by_cases hf : 1 ≤ f ∧ f ≤ 7
  · rw [if_pos hf] at h
    by_cases hb : n < rngL f ∨ rngG f < n
    · rw [if_pos hb] at h; omega
    · have h0 : 0 ≤ rngL f := by unfold rngL; repeat' split
                                 all_goals decide
      have h1 : rngG f ≤ 1000000 := by unfold rngG; repeat' split
                                       all_goals decide
      unfold formB
      have i1 := itoaB_size n (by omega) (by omega)
      have i2 := lettersB_size 20 n
      have i3 := romB_size n (by omega) (by omega)
      have i4 := ordB_size n (by omega) (by omega)
      have i5 := upB_size (lettersB 20 n)
      have i6 := upB_size (romB n)
      repeat' split
      all_goals first | omega | (show (3 : Nat) ≤ _; omega)
  · rw [if_neg hf] at h; omega
theorem digF_size (f n : Int) (pl : Bool) : (digF f n pl).size ≤ 26000000 := by
  unfold digF
  by_cases h1 : pl = false ∧ formE f n = 0
  · rw [if_pos h1]; exact formB_size f n h1.2
  · rw [if_neg h1]
    by_cases h2 : formE 1 n = 0
    · rw [if_pos h2]; exact formB_size 1 n h2
    · rw [if_neg h2]; show (1 : Nat) ≤ _; omega
theorem fillP_len (ls : List Lv) (ns : List Int) {p : Pt} (h : PtOk p) : (fillP ls ns p).length ≤ 26000000 := by
  unfold fillP
  split
  · have := h.1; omega
  · have := digF_size (gL ls (p.lev - 1).toNat).format (gI ns (p.lev - 1).toNat) p.plain
    have e : (digF (gL ls (p.lev - 1).toNat).format (gI ns (p.lev - 1).toNat) p.plain).data.toList.length = (digF (gL ls (p.lev - 1).toNat).format (gI ns (p.lev - 1).toNat) p.plain).size := Array.length_toList
    omega
theorem fillL_len (ls : List Lv) (L : Nat) (ns : List Int) : ∀ k, (fillL ls L ns k).length ≤ 26000000 * k
  | 0 => Nat.le_refl _
  | k + 1 => by
    by_cases h : k < (parseP (gL ls L).text).length
    · rw [fillL_succ ls L ns h, List.length_append]
      have h1 := fillL_len ls L ns k
      have h2 := fillP_len ls ns ((parseP_ok (gL ls L).text).1 _ (show gP (parseP (gL ls L).text) k ∈ parseP (gL ls L).text by rw [gP_get _ h]; exact List.getElem_mem h))
      omega
    · have h1 := fillL_len ls L ns k
      have e : fillL ls L ns (k + 1) = fillL ls L ns k := by
        unfold fillL
        rw [List.take_of_length_le (by omega), List.take_of_length_le (by omega)]
      rw [e]
      omega
end Go.Proofs.YtbpodnhebjjkaaaGreatDoor
