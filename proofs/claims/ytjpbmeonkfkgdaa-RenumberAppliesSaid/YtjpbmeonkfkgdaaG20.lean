/- numbering.checked, step, Next. -/
import Derived.Test.YtjpbmeonkfkgdaaG19
import Derived.Test.YtjpbmeonkfkgdaaG4
import Derived.Deep.CutBlock
namespace Go.Proofs.Ytjpbmeonkfkgdaa
open Go.RowKit

def ckE (ls : List Lv) (n : Nat) (level : Int) : Int := if clE ls ≠ 0 then clE ls else if level < 1 ∨ (n : Int) < level then 2 else 0
set_option maxHeartbeats 4000000 in
theorem checked_any (A : Option Addr) (n c : Nat) (ls : List Lv) (level : Int) (w : World) (ha : Sl w 4 lvC A n ls) :
    Calls Try.prog 23 #[.slice A n c, .int .i64 level] w fun e w' => e = .returned (.int .i64 (ckE ls n level)) ∧ Below w.heap.size w w' := by
  have HE := Lib.hid (show ckE ls n level = if clE ls ≠ 0 then clE ls else if level < 1 ∨ (n : Int) < level then 2 else 0 from rfl)
  have cl := checkLevels_any A n c ls w ha
  by_cases hc : clE ls = 0
  · rw [hc] at cl
    have HE2 := Lib.hid (HE.out.trans (if_neg (by rw [hc]; simp)))
    clear HE hc
    by_cases h1 : level < 1
    · go_enter Try.func23, Try.ntmps23
      go_wp2_with (first | (go_at_call 20; refine cl.mono ?_; rintro er w2 ⟨rfl, hb2⟩))
      go_ret
      exact ⟨ret_int (by rw [HE2.out, if_pos (.inl h1)]), hb2⟩
    by_cases h2 : (n : Int) < level
    · go_enter Try.func23, Try.ntmps23
      go_wp2_with (first | (go_at_call 20; refine cl.mono ?_; rintro er w2 ⟨rfl, hb2⟩))
      go_ret
      exact ⟨ret_int (by rw [HE2.out, if_pos (.inr h2)]), hb2⟩
    go_enter Try.func23, Try.ntmps23
    go_wp2_with (first | (go_at_call 20; refine cl.mono ?_; rintro er w2 ⟨rfl, hb2⟩))
    go_ret
    exact ⟨ret_int (by rw [HE2.out, if_neg (by omega)]), hb2⟩
  · have HE2 := Lib.hid (HE.out.trans (if_pos hc))
    clear HE
    generalize clE ls = ce at *
    go_enter Try.func23, Try.ntmps23
    go_wp2_with (first | (go_at_call 20; refine cl.mono ?_; rintro er w2 ⟨rfl, hb2⟩))
    go_ret
    exact ⟨ret_int (by rw [HE2.out]), hb2⟩
def nextP (ls : List Lv) (c : Cn) (L : Nat) (x : Int × Bool) (j : Nat) : Cn := fun i => if i = L then x else if L < i ∧ i < j ∧ (L : Int) + 1 ≤ (gL ls i).restart then (0, false) else c i
theorem nextP_at (ls : List Lv) (c : Cn) (L : Nat) (x : Int × Bool) (j i : Nat) : nextP ls c L x j i = if i = L then x else if L < i ∧ i < j ∧ (L : Int) + 1 ≤ (gL ls i).restart then (0, false) else c i := rfl
theorem nextP_start (ls : List Lv) (c : Cn) (L : Nat) (x : Int × Bool) : nextP ls c L x (L + 1) = upd c L x := by
  funext i
  rw [nextP_at, upd_at]
  by_cases h : i = L
  · rw [if_pos h, if_pos h]
  · rw [if_neg h, if_neg h, if_neg (by omega)]
theorem nextP_in (ls : List Lv) (c : Cn) (L : Nat) (x : Int × Bool) {j : Nat} (hj : L < j) (h : (L : Int) + 1 ≤ (gL ls j).restart) : nextP ls c L x (j + 1) = upd (nextP ls c L x j) j (0, false) := by
  funext k
  rw [nextP_at, upd_at]
  by_cases e : k = j
  · subst e; rw [if_neg (by omega), if_pos ⟨hj, by omega, h⟩, if_pos rfl]
  · rw [if_neg e, nextP_at]
    by_cases e2 : k = L
    · rw [if_pos e2, if_pos e2]
    · rw [if_neg e2, if_neg e2]
      by_cases e3 : L < k ∧ k < j ∧ (L : Int) + 1 ≤ (gL ls k).restart
      · rw [if_pos ⟨e3.1, by omega, e3.2.2⟩, if_pos e3]
      · rw [if_neg (fun q => e3 ⟨q.1, by omega, q.2.2⟩), if_neg e3]
theorem nextP_out (ls : List Lv) (c : Cn) (L : Nat) (x : Int × Bool) {j : Nat} (h : ¬ (L : Int) + 1 ≤ (gL ls j).restart) : nextP ls c L x (j + 1) = nextP ls c L x j := by
  funext k
  rw [nextP_at, nextP_at]
  by_cases e2 : k = L
  · rw [if_pos e2, if_pos e2]
  · rw [if_neg e2, if_neg e2]
    by_cases e3 : L < k ∧ k < j ∧ (L : Int) + 1 ≤ (gL ls k).restart
    · rw [if_pos ⟨e3.1, by omega, e3.2.2⟩, if_pos e3]
    · refine (if_neg (fun q => e3 ⟨q.1, ?_, q.2.2⟩)).trans (if_neg e3).symm
      have : k ≠ j := fun e => h (e ▸ q.2.2)
      omega
structure CW (w : World) (B p5 p8 : Nat) (Z : Cn) : Prop where
  b5 : Blk w p5 48 (cnA Z)
  b8 : Blk w p8 48 (cnA cnZ)
  n : p5 ≠ p8
  m5 : B ≤ p5
  m8 : B ≤ p8
theorem CW.new (w : World) (c : Cn) : CW ((w.alloc (.cells (cnA c) 48)).alloc (.cells (cnA cnZ) 48)) w.heap.size w.heap.size (w.heap.size + 1) c := by
  have e1 := Blk.new w 48 (cnA c)
  have e2 := Blk.new (w.alloc (.cells (cnA c) 48)) 48 (cnA cnZ)
  rw [World.size_alloc] at e2
  exact ⟨e1.alloc _, e2, by omega, by omega, by omega⟩
theorem CW.below {w w' : World} {B p5 p8 : Nat} {Z : Cn} (h : CW w B p5 p8 Z) (hb : Below w.heap.size w w') : CW w' B p5 p8 Z := ⟨h.b5.below hb, h.b8.below hb, h.n, h.m5, h.m8⟩
theorem CW.drewN {w : World} {B p5 p8 : Nat} {Z : Cn} (h : CW w B p5 p8 Z) (q : Nat) : CW (w.drewN q) B p5 p8 Z := ⟨h.b5, h.b8, h.n, h.m5, h.m8⟩
theorem only_set2 (w : World) (g k j : Nat) (a b : Value) : w.grownBy ((w.setCell ⟨g, k, none⟩ a).setCell ⟨g, j, none⟩ b) (some g) := only_set (gset w g k a) _ b
theorem CW.setns {w : World} {B p5 p8 : Nat} {Z : Cn} (h : CW w B p5 p8 Z) {k : Nat} (hk : k < 9) (n : Int) (b : Bool) : CW ((w.setCell ⟨p5, k, none⟩ (.int .i64 n)).setCell ⟨p5, 9 + k, none⟩ (.bool b)) B p5 p8 (upd Z k (n, b)) :=
  ⟨h.b5.setns hk n b, h.b8.keep (only_set2 w p5 _ _ _ _) (fun e => h.n (by injection e)), h.n, h.m5, h.m8⟩
theorem CW.setsn {w : World} {B p5 p8 : Nat} {Z : Cn} (h : CW w B p5 p8 Z) {k : Nat} (hk : k < 9) (n : Int) (b : Bool) : CW ((w.setCell ⟨p5, 9 + k, none⟩ (.bool b)).setCell ⟨p5, k, none⟩ (.int .i64 n)) B p5 p8 (upd Z k (n, b)) :=
  ⟨h.b5.setsn hk n b, h.b8.keep (only_set2 w p5 _ _ _ _) (fun e => h.n (by injection e)), h.n, h.m5, h.m8⟩
theorem below_set2 {B : Nat} {w0 w : World} (h : Below B w0 w) {g : Nat} (hg : B ≤ g) (k j : Nat) (a b : Value) : Below B w0 ((w.setCell ⟨g, k, none⟩ a).setCell ⟨g, j, none⟩ b) :=
  (h.setCell (p := ⟨g, k, none⟩) hg a).setCell (p := ⟨g, j, none⟩) hg b
set_option maxHeartbeats 8000000 in
set_option maxRecDepth 100000 in
theorem nstep_any (A : Option Addr) (n cA : Nat) (ls : List Lv) (c : Cn) (M : Int) (L : Nat) (r : Int) (w : World) (ha : Sl w 4 lvC A n ls) (hn : n ≤ 9) (hL : L < n) (hcL : 0 ≤ (c L).1 ∧ (c L).1 ≤ M) (hM : M ≤ 1099511627776) :
    Calls Try.prog 24 #[.slice A n cA, .agg (cnA c), .int .i64 ((L : Int) + 1), .int .i64 r] w fun e w' => e = .returned (.agg (cnA (nextC ls n c L r))) ∧ Below w.heap.size w w' := by
  have T0 := CW.new w c
  have hb0 := ((Below.refl w.heap.size w).alloc (Nat.le_refl _) (.cells (cnA c) 48)).alloc (by simp) (.cells (cnA cnZ) 48)
  have L9 : L < 9 := by omega
  have L9' : (L : Int) < 9 := by omega
  go_enter Try.func24, Try.ntmps24
  go_upto_region 0 with fail
  go_cut [5, 8] (fun v5 v8 wx => ∃ p5 p8, v5 = .pointer (some ⟨p5, 0, none⟩) ∧ v8 = .pointer (some ⟨p8, 0, none⟩) ∧ CW wx w.heap.size p5 p8 c ∧ Below w.heap.size w wx)
  case first =>
    go_wp2_with fail
    go_meet
    case rel => exact ⟨_, _, rfl, rfl, T0, hb0⟩
  case rest =>
  obtain ⟨p5, p8, rfl, rfl, T1, hb1⟩ := hcut
  clear T0 hb0
  obtain ⟨z0, z1⟩ := T1.b5.cn L9
  have f0 := T1.b5.frozen L
  have f1 := T1.b5.frozen (9 + L)
  have hN : ∀ x, (x = if r ≠ 0 then (r, true) else if (c L).2 = true then ((c L).1 + 1, true) else ((gL ls L).start, true)) → nextP ls c L x n = nextC ls n c L r := by
    intro x hx
    subst hx
    funext i
    rw [nextP_at]
    unfold nextC
    by_cases h : i = L
    · subst h; rw [if_pos rfl]
    · rw [if_neg h]
      exact (if_neg h).symm
  have HN := Lib.hid hN
  clear hN
  by_cases hr : r ≠ 0
  · have hr' : (r != 0) = true := bne_iff_ne.2 hr
    have HX := Lib.hid (HN.out (r, true) (by rw [if_pos hr]))
    have T3 : CW ((wc.setCell ⟨p5, L, none⟩ (.int .i64 r)).setCell ⟨p5, 9 + L, none⟩ (.bool true)) w.heap.size p5 p8 (nextP ls c L (r, true) (L + 1)) := by rw [nextP_start]; exact T1.setns L9 _ _
    have hb3 := below_set2 hb1 T1.m5 L (9 + L) (.int .i64 r) (.bool true)
    clear T1 hb1 HN
    go_wp2_with fail
    go_loopw [10] (fun vj wr => ∃ j : Nat, vj = .int .i64 j ∧ L < j ∧ j ≤ n ∧ CW wr w.heap.size p5 p8 (nextP ls c L (r, true) j) ∧ Below w.heap.size w wr) (fun vj _ => n - (intOf vj).toNat)
    case atStart => exact ⟨L + 1, by simp, by omega, by omega, T3, hb3⟩
    case round =>
      obtain ⟨j, rfl, hLj, hj, T4, hbw⟩ := hrel
      clear T3 hb3 z0 z1 f0 f1
      by_cases hlt : j < n
      · obtain ⟨ad, e, hl2, k0, k1, k2, k3⟩ := (ha.below hbw).lv hlt
        cases e
        have j9 : j < 9 := by omega
        have j9' : (j : Int) < 9 := by omega
        have HI := Lib.hid (nextP_in ls c L (r, true) hLj)
        have HO := Lib.hid (nextP_out ls c L (r, true) (j := j))
        generalize gL ls j = lv at *
        obtain ⟨xf, xs, xt, xr⟩ := lv
        simp only at k0 k1 k2 k3 HI HO
        obtain ⟨z0, z1⟩ := T4.b5.cn j9
        have f0 := T4.b5.frozen j
        have f1 := T4.b5.frozen (9 + j)
        by_cases hxr : (L : Int) + 1 ≤ xr
        · go_wp2_with fail
          go_roundw
          case measure => rw [intOf, intOf]; omega
          case rel => exact ⟨j + 1, by simp, by omega, by omega, by rw [HI.out hxr]; exact T4.setsn j9 _ _, below_set2 hbw T4.m5 _ _ _ _⟩
        · go_wp2_with fail
          go_roundw
          case measure => rw [intOf, intOf]; omega
          case rel => exact ⟨j + 1, by simp, by omega, by omega, by rw [HO.out hxr]; exact T4, hbw⟩
      · have : j = n := by omega
        subst this
        rw [HX.out] at T4
        go_upto_region 13 with fail
        have B5 := T4.b5
        have B8 := T4.b8
        unfold Blk at B5 B8
        go_wp2_with (first | (refine wpList_load_row rfl 48 _ rfl p5 rfl 48 _ (0, 0) _ B5 Try.underlying48 rfl (by kernel_rfl) ?_) | (refine wpList_store_row rfl 48 _ _ rfl p8 _ rfl rfl 48 _ B8 (by kernel_rfl) rfl (cnA_one _) ?_))
        refine bodyPost_ret (results_cell_row rfl _ _ p8 48 _ (0, 0) _ rfl (setRow_heap wr p8 _ _ _ _ B8) Try.underlying48 rfl (by kernel_rfl)) rfl ?_
        exact ⟨rfl, below_setRow hbw T4.m8 _⟩
  obtain rfl : r = 0 := by omega
  obtain ⟨ad, e, hl2, _, k1, _, _⟩ := (ha.below hb1).lv hL
  subst e
  by_cases hs : (c L).2 = true
  · have HX := Lib.hid (HN.out ((c L).1 + 1, true) (by rw [if_neg (by simp), if_pos hs]))
    have hcn : 0 ≤ (c L).1 ∧ (c L).1 + 1 ≤ 1099511627777 := by omega
    have T3 : CW ((wc.setCell ⟨p5, L, none⟩ (.int .i64 ((c L).1 + 1))).setCell ⟨p5, 9 + L, none⟩ (.bool true)) w.heap.size p5 p8 (nextP ls c L ((c L).1 + 1, true) (L + 1)) := by rw [nextP_start]; exact T1.setns L9 _ _
    have hb3 := below_set2 hb1 T1.m5 L (9 + L) (.int .i64 ((c L).1 + 1)) (.bool true)
    rw [hs] at z1
    clear T1 hb1 HN hs
    clear k1
    go_wp2_with fail
    go_loopw [10] (fun vj wr => ∃ j : Nat, vj = .int .i64 j ∧ L < j ∧ j ≤ n ∧ CW wr w.heap.size p5 p8 (nextP ls c L ((c L).1 + 1, true) j) ∧ Below w.heap.size w wr) (fun vj _ => n - (intOf vj).toNat)
    case atStart => exact ⟨L + 1, by simp, by omega, by omega, T3, hb3⟩
    case round =>
      obtain ⟨j, rfl, hLj, hj, T4, hbw⟩ := hrel
      clear T3 hb3 z0 z1 f0 f1
      by_cases hlt : j < n
      · obtain ⟨ad, e, hl2, k0, k1, k2, k3⟩ := (ha.below hbw).lv hlt
        cases e
        have j9 : j < 9 := by omega
        have j9' : (j : Int) < 9 := by omega
        have HI := Lib.hid (nextP_in ls c L ((c L).1 + 1, true) hLj)
        have HO := Lib.hid (nextP_out ls c L ((c L).1 + 1, true) (j := j))
        generalize gL ls j = lv at *
        obtain ⟨xf, xs, xt, xr⟩ := lv
        simp only at k0 k1 k2 k3 HI HO
        obtain ⟨z0, z1⟩ := T4.b5.cn j9
        have f0 := T4.b5.frozen j
        have f1 := T4.b5.frozen (9 + j)
        by_cases hxr : (L : Int) + 1 ≤ xr
        · go_wp2_with fail
          go_roundw
          case measure => rw [intOf, intOf]; omega
          case rel => exact ⟨j + 1, by simp, by omega, by omega, by rw [HI.out hxr]; exact T4.setsn j9 _ _, below_set2 hbw T4.m5 _ _ _ _⟩
        · go_wp2_with fail
          go_roundw
          case measure => rw [intOf, intOf]; omega
          case rel => exact ⟨j + 1, by simp, by omega, by omega, by rw [HO.out hxr]; exact T4, hbw⟩
      · have : j = n := by omega
        subst this
        rw [HX.out] at T4
        go_upto_region 13 with fail
        have B5 := T4.b5
        have B8 := T4.b8
        unfold Blk at B5 B8
        go_wp2_with (first | (refine wpList_load_row rfl 48 _ rfl p5 rfl 48 _ (0, 0) _ B5 Try.underlying48 rfl (by kernel_rfl) ?_) | (refine wpList_store_row rfl 48 _ _ rfl p8 _ rfl rfl 48 _ B8 (by kernel_rfl) rfl (cnA_one _) ?_))
        refine bodyPost_ret (results_cell_row rfl _ _ p8 48 _ (0, 0) _ rfl (setRow_heap wr p8 _ _ _ _ B8) Try.underlying48 rfl (by kernel_rfl)) rfl ?_
        exact ⟨rfl, below_setRow hbw T4.m8 _⟩
  · have HX := Lib.hid (HN.out ((gL ls L).start, true) (by rw [if_neg (by simp), if_neg hs]))
    have T3 : CW ((wc.setCell ⟨p5, L, none⟩ (.int .i64 (gL ls L).start)).setCell ⟨p5, 9 + L, none⟩ (.bool true)) w.heap.size p5 p8 (nextP ls c L ((gL ls L).start, true) (L + 1)) := by rw [nextP_start]; exact T1.setns L9 _ _
    have hb3 := below_set2 hb1 T1.m5 L (9 + L) (.int .i64 (gL ls L).start) (.bool true)
    rw [Bool.eq_false_iff.2 hs] at z1
    clear T1 hb1 HN hs
    go_wp2_with fail
    go_loopw [10] (fun vj wr => ∃ j : Nat, vj = .int .i64 j ∧ L < j ∧ j ≤ n ∧ CW wr w.heap.size p5 p8 (nextP ls c L ((gL ls L).start, true) j) ∧ Below w.heap.size w wr) (fun vj _ => n - (intOf vj).toNat)
    case atStart => exact ⟨L + 1, by simp, by omega, by omega, T3, hb3⟩
    case round =>
      obtain ⟨j, rfl, hLj, hj, T4, hbw⟩ := hrel
      clear T3 hb3 z0 z1 f0 f1
      by_cases hlt : j < n
      · obtain ⟨ad, e, hl2, k0, k1, k2, k3⟩ := (ha.below hbw).lv hlt
        cases e
        have j9 : j < 9 := by omega
        have j9' : (j : Int) < 9 := by omega
        have HI := Lib.hid (nextP_in ls c L ((gL ls L).start, true) hLj)
        have HO := Lib.hid (nextP_out ls c L ((gL ls L).start, true) (j := j))
        generalize gL ls j = lv at *
        obtain ⟨xf, xs, xt, xr⟩ := lv
        simp only at k0 k1 k2 k3 HI HO
        obtain ⟨z0, z1⟩ := T4.b5.cn j9
        have f0 := T4.b5.frozen j
        have f1 := T4.b5.frozen (9 + j)
        by_cases hxr : (L : Int) + 1 ≤ xr
        · go_wp2_with fail
          go_roundw
          case measure => rw [intOf, intOf]; omega
          case rel => exact ⟨j + 1, by simp, by omega, by omega, by rw [HI.out hxr]; exact T4.setsn j9 _ _, below_set2 hbw T4.m5 _ _ _ _⟩
        · go_wp2_with fail
          go_roundw
          case measure => rw [intOf, intOf]; omega
          case rel => exact ⟨j + 1, by simp, by omega, by omega, by rw [HO.out hxr]; exact T4, hbw⟩
      · have : j = n := by omega
        subst this
        rw [HX.out] at T4
        go_upto_region 13 with fail
        have B5 := T4.b5
        have B8 := T4.b8
        unfold Blk at B5 B8
        go_wp2_with (first | (refine wpList_load_row rfl 48 _ rfl p5 rfl 48 _ (0, 0) _ B5 Try.underlying48 rfl (by kernel_rfl) ?_) | (refine wpList_store_row rfl 48 _ _ rfl p8 _ rfl rfl 48 _ B8 (by kernel_rfl) rfl (cnA_one _) ?_))
        refine bodyPost_ret (results_cell_row rfl _ _ p8 48 _ (0, 0) _ rfl (setRow_heap wr p8 _ _ _ _ B8) Try.underlying48 rfl (by kernel_rfl)) rfl ?_
        exact ⟨rfl, below_setRow hbw T4.m8 _⟩
end Go.Proofs.Ytjpbmeonkfkgdaa
