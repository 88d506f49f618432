/- numbering.checked, step, Next. numbering.Next. (*strings.Builder).copyCheck, WriteString at this dump: the shelf's proofs (its forms for a builder in a range) turned to a dump whose copyCheck bears a refused branch. numeral: maps of functions, and the table of formats. numeral.Range, letters. -/
import Derived.Test.YthbodpjkckminaaGreatDoorm5
import Derived.Deep.CutBlock
import Derived.Test.YthbodpjkckminaaGreatDoorShelf
import Derived.Shelf.Strings.BuilderF
import Derived.Shelf.Strings.BuilderK
import Derived.WalkKit
import Derived.Test.YthbodpjkckminaaGreatDoorm1
import Derived.Maps.OwnOps
import Derived.Maps.Keyed
import Derived.Maps.AppendAt
import Derived.IntWalk
import Derived.Deep.RegionLaw
import Derived.Outline
namespace Go.Proofs.YthbodpjkckminaaGreatDoor
open Go.RowKit

def ckE (ls : List Lv) (n : Nat) (level : Int) : Int := if clE ls ≠ 0 then clE ls else if level < 1 ∨ (n : Int) < level then 2 else 0
set_option maxHeartbeats 4000000 in
theorem checked_any (A : Option Addr) (n c : Nat) (ls : List Lv) (level : Int) (w : World) (ha : Sl w 4 lvC A n ls) :
    Calls Tryz.prog 27 #[.slice A n c, .int .i64 level] w fun e w' => e = .returned (.int .i64 (ckE ls n level)) ∧ Below w.heap.size w w' := by
  have HE := Lib.hid (show ckE ls n level = if clE ls ≠ 0 then clE ls else if level < 1 ∨ (n : Int) < level then 2 else 0 from rfl)
  have cl := checkLevels_any A n c ls w ha
  by_cases hc : clE ls = 0
  · rw [hc] at cl
    have HE2 := Lib.hid (HE.out.trans (if_neg (by rw [hc]; simp)))
    clear HE hc
    by_cases h1 : level < 1
    · go_enter Tryz.func27, Tryz.ntmps27
      go_wp2_with (first | (go_at_call 11; refine cl.mono ?_; rintro er w2 ⟨rfl, hb2⟩))
      go_ret
      exact ⟨ret_int (by rw [HE2.out, if_pos (.inl h1)]), hb2⟩
    by_cases h2 : (n : Int) < level
    · go_enter Tryz.func27, Tryz.ntmps27
      go_wp2_with (first | (go_at_call 11; refine cl.mono ?_; rintro er w2 ⟨rfl, hb2⟩))
      go_ret
      exact ⟨ret_int (by rw [HE2.out, if_pos (.inr h2)]), hb2⟩
    go_enter Tryz.func27, Tryz.ntmps27
    go_wp2_with (first | (go_at_call 11; refine cl.mono ?_; rintro er w2 ⟨rfl, hb2⟩))
    go_ret
    exact ⟨ret_int (by rw [HE2.out, if_neg (by omega)]), hb2⟩
  · have HE2 := Lib.hid (HE.out.trans (if_pos hc))
    clear HE
    generalize clE ls = ce at *
    go_enter Tryz.func27, Tryz.ntmps27
    go_wp2_with (first | (go_at_call 11; refine cl.mono ?_; rintro er w2 ⟨rfl, hb2⟩))
    go_ret
    exact ⟨ret_int (by rw [HE2.out]), hb2⟩
def nextP (ls : List Lv) (c : Cn) (L : Nat) (x : Int × Bool) (j : Nat) : Cn := fun i => if i = L then x else if L < i ∧ i < j ∧ (L : Int) + 1 ≤ (gL ls i).restart then (0, false) else c i
theorem nextP_at (ls : List Lv) (c : Cn) (L : Nat) (x : Int × Bool) (j i : Nat) : nextP ls c L x j i = if i = L then x else if L < i ∧ i < j ∧ (L : Int) + 1 ≤ (gL ls i).restart then (0, false) else c i := rfl
theorem nextP_start (ls : List Lv) (c : Cn) (L : Nat) (x : Int × Bool) : nextP ls c L x (L + 1) = upd c L x := by
  funext i
  rw [nextP_at, upd_at]
  by_cases h : i = L
  · rw [if_pos h, if_pos h]
  · rw [if_neg h, if_neg h, if_neg (by omega)]
theorem nextP_in (ls : List Lv) (c : Cn) (L : Nat) (x : Int × Bool) {j : Nat} (hj : L < j) (h : (L : Int) + 1 ≤ (gL ls j).restart) : nextP ls c L x (j + 1) = upd (nextP ls c L x j) j (0, false) := by
  funext k
  rw [nextP_at, upd_at]
  by_cases e : k = j
  · subst e; rw [if_neg (by omega), if_pos ⟨hj, by omega, h⟩, if_pos rfl]
  · rw [if_neg e, nextP_at]
    by_cases e2 : k = L
    · rw [if_pos e2, if_pos e2]
    · rw [if_neg e2, if_neg e2]
      by_cases e3 : L < k ∧ k < j ∧ (L : Int) + 1 ≤ (gL ls k).restart
      · rw [if_pos ⟨e3.1, by omega, e3.2.2⟩, if_pos e3]
      · rw [if_neg (fun q => e3 ⟨q.1, by omega, q.2.2⟩), if_neg e3]
theorem nextP_out (ls : List Lv) (c : Cn) (L : Nat) (x : Int × Bool) {j : Nat} (h : ¬ (L : Int) + 1 ≤ (gL ls j).restart) : nextP ls c L x (j + 1) = nextP ls c L x j := by
  funext k
  rw [nextP_at, nextP_at]
  by_cases e2 : k = L
  · rw [if_pos e2, if_pos e2]
  · rw [if_neg e2, if_neg e2]
    by_cases e3 : L < k ∧ k < j ∧ (L : Int) + 1 ≤ (gL ls k).restart
    · rw [if_pos ⟨e3.1, by omega, e3.2.2⟩, if_pos e3]
    · refine (if_neg (fun q => e3 ⟨q.1, ?_, q.2.2⟩)).trans (if_neg e3).symm
      have : k ≠ j := fun e => h (e ▸ q.2.2)
      omega
structure CW (w : World) (B p5 p8 : Nat) (Z : Cn) : Prop where
  b5 : Blk w p5 26 (cnA Z)
  b8 : Blk w p8 26 (cnA cnZ)
  n : p5 ≠ p8
  m5 : B ≤ p5
  m8 : B ≤ p8
theorem CW.new (w : World) (c : Cn) : CW ((w.alloc (.cells (cnA c) 26)).alloc (.cells (cnA cnZ) 26)) w.heap.size w.heap.size (w.heap.size + 1) c := by
  have e1 := Blk.new w 26 (cnA c)
  have e2 := Blk.new (w.alloc (.cells (cnA c) 26)) 26 (cnA cnZ)
  rw [World.size_alloc] at e2
  exact ⟨e1.alloc _, e2, by omega, by omega, by omega⟩
theorem CW.below {w w' : World} {B p5 p8 : Nat} {Z : Cn} (h : CW w B p5 p8 Z) (hb : Below w.heap.size w w') : CW w' B p5 p8 Z := ⟨h.b5.below hb, h.b8.below hb, h.n, h.m5, h.m8⟩
theorem CW.drewN {w : World} {B p5 p8 : Nat} {Z : Cn} (h : CW w B p5 p8 Z) (q : Nat) : CW (w.drewN q) B p5 p8 Z := ⟨h.b5, h.b8, h.n, h.m5, h.m8⟩
theorem only_set2 (w : World) (g k j : Nat) (a b : Value) : w.grownBy ((w.setCell ⟨g, k, none⟩ a).setCell ⟨g, j, none⟩ b) (some g) := only_set (gset w g k a) _ b
theorem CW.setns {w : World} {B p5 p8 : Nat} {Z : Cn} (h : CW w B p5 p8 Z) {k : Nat} (hk : k < 9) (n : Int) (b : Bool) : CW ((w.setCell ⟨p5, k, none⟩ (.int .i64 n)).setCell ⟨p5, 9 + k, none⟩ (.bool b)) B p5 p8 (upd Z k (n, b)) :=
  ⟨h.b5.setns hk n b, h.b8.keep (only_set2 w p5 _ _ _ _) (fun e => h.n (by injection e)), h.n, h.m5, h.m8⟩
theorem CW.setsn {w : World} {B p5 p8 : Nat} {Z : Cn} (h : CW w B p5 p8 Z) {k : Nat} (hk : k < 9) (n : Int) (b : Bool) : CW ((w.setCell ⟨p5, 9 + k, none⟩ (.bool b)).setCell ⟨p5, k, none⟩ (.int .i64 n)) B p5 p8 (upd Z k (n, b)) :=
  ⟨h.b5.setsn hk n b, h.b8.keep (only_set2 w p5 _ _ _ _) (fun e => h.n (by injection e)), h.n, h.m5, h.m8⟩
theorem below_set2 {B : Nat} {w0 w : World} (h : Below B w0 w) {g : Nat} (hg : B ≤ g) (k j : Nat) (a b : Value) : Below B w0 ((w.setCell ⟨g, k, none⟩ a).setCell ⟨g, j, none⟩ b) :=
  (h.setCell (p := ⟨g, k, none⟩) hg a).setCell (p := ⟨g, j, none⟩) hg b
set_option maxHeartbeats 8000000 in
set_option maxRecDepth 100000 in
theorem nstep_any (A : Option Addr) (n cA : Nat) (ls : List Lv) (c : Cn) (M : Int) (L : Nat) (r : Int) (w : World) (ha : Sl w 4 lvC A n ls) (hn : n ≤ 9) (hL : L < n) (hcL : 0 ≤ (c L).1 ∧ (c L).1 ≤ M) (hM : M ≤ 1099511627776) :
    Calls Tryz.prog 28 #[.slice A n cA, .agg (cnA c), .int .i64 ((L : Int) + 1), .int .i64 r] w fun e w' => e = .returned (.agg (cnA (nextC ls n c L r))) ∧ Below w.heap.size w w' := by
  have T0 := CW.new w c
  have hb0 := ((Below.refl w.heap.size w).alloc (Nat.le_refl _) (.cells (cnA c) 26)).alloc (by simp) (.cells (cnA cnZ) 26)
  have L9 : L < 9 := by omega
  have L9' : (L : Int) < 9 := by omega
  go_enter Tryz.func28, Tryz.ntmps28
  go_upto_region 0 with fail
  go_cut [5, 8] (fun v5 v8 wx => ∃ p5 p8, v5 = .pointer (some ⟨p5, 0, none⟩) ∧ v8 = .pointer (some ⟨p8, 0, none⟩) ∧ CW wx w.heap.size p5 p8 c ∧ Below w.heap.size w wx)
  case first =>
    go_wp2_with fail
    go_meet
    case rel => exact ⟨_, _, rfl, rfl, T0, hb0⟩
  case rest =>
  obtain ⟨p5, p8, rfl, rfl, T1, hb1⟩ := hcut
  clear T0 hb0
  obtain ⟨z0, z1⟩ := T1.b5.cn L9
  have f0 := T1.b5.frozen L
  have f1 := T1.b5.frozen (9 + L)
  have hN : ∀ x, (x = if r ≠ 0 then (r, true) else if (c L).2 = true then ((c L).1 + 1, true) else ((gL ls L).start, true)) → nextP ls c L x n = nextC ls n c L r := by
    intro x hx
    subst hx
    funext i
    rw [nextP_at]
    unfold nextC
    by_cases h : i = L
    · subst h; rw [if_pos rfl]
    · rw [if_neg h]
      exact (if_neg h).symm
  have HN := Lib.hid hN
  clear hN
  by_cases hr : r ≠ 0
  · have hr' : (r != 0) = true := bne_iff_ne.2 hr
    have HX := Lib.hid (HN.out (r, true) (by rw [if_pos hr]))
    have T3 : CW ((wc.setCell ⟨p5, L, none⟩ (.int .i64 r)).setCell ⟨p5, 9 + L, none⟩ (.bool true)) w.heap.size p5 p8 (nextP ls c L (r, true) (L + 1)) := by rw [nextP_start]; exact T1.setns L9 _ _
    have hb3 := below_set2 hb1 T1.m5 L (9 + L) (.int .i64 r) (.bool true)
    clear T1 hb1 HN
    go_wp2_with fail
    go_loopw [10] (fun vj wr => ∃ j : Nat, vj = .int .i64 j ∧ L < j ∧ j ≤ n ∧ CW wr w.heap.size p5 p8 (nextP ls c L (r, true) j) ∧ Below w.heap.size w wr) (fun vj _ => n - (intOf vj).toNat)
    case atStart => exact ⟨L + 1, by simp, by omega, by omega, T3, hb3⟩
    case round =>
      obtain ⟨j, rfl, hLj, hj, T4, hbw⟩ := hrel
      clear T3 hb3 z0 z1 f0 f1
      by_cases hlt : j < n
      · obtain ⟨ad, e, hl2, k0, k1, k2, k3⟩ := (ha.below hbw).lv hlt
        cases e
        have j9 : j < 9 := by omega
        have j9' : (j : Int) < 9 := by omega
        have HI := Lib.hid (nextP_in ls c L (r, true) hLj)
        have HO := Lib.hid (nextP_out ls c L (r, true) (j := j))
        generalize gL ls j = lv at *
        obtain ⟨xf, xs, xt, xr⟩ := lv
        simp only at k0 k1 k2 k3 HI HO
        obtain ⟨z0, z1⟩ := T4.b5.cn j9
        have f0 := T4.b5.frozen j
        have f1 := T4.b5.frozen (9 + j)
        by_cases hxr : (L : Int) + 1 ≤ xr
        · go_wp2_with fail
          go_roundw
          case measure => rw [intOf, intOf]; omega
          case rel => exact ⟨j + 1, by simp, by omega, by omega, by rw [HI.out hxr]; exact T4.setsn j9 _ _, below_set2 hbw T4.m5 _ _ _ _⟩
        · go_wp2_with fail
          go_roundw
          case measure => rw [intOf, intOf]; omega
          case rel => exact ⟨j + 1, by simp, by omega, by omega, by rw [HO.out hxr]; exact T4, hbw⟩
      · have : j = n := by omega
        subst this
        rw [HX.out] at T4
        go_upto_region 13 with fail
        have B5 := T4.b5
        have B8 := T4.b8
        unfold Blk at B5 B8
        go_wp2_with (first | (refine wpList_load_row rfl 26 _ rfl p5 rfl 26 _ (0, 0) _ B5 Tryz.underlying26 rfl (by kernel_rfl) ?_) | (refine wpList_store_row rfl 26 _ _ rfl p8 _ rfl rfl 26 _ B8 (by kernel_rfl) rfl (cnA_one _) ?_))
        refine bodyPost_ret (results_cell_row rfl _ _ p8 26 _ (0, 0) _ rfl (setRow_heap wr p8 _ _ _ _ B8) Tryz.underlying26 rfl (by kernel_rfl)) rfl ?_
        exact ⟨rfl, below_setRow hbw T4.m8 _⟩
  obtain rfl : r = 0 := by omega
  obtain ⟨ad, e, hl2, _, k1, _, _⟩ := (ha.below hb1).lv hL
  subst e
  by_cases hs : (c L).2 = true
  · have HX := Lib.hid (HN.out ((c L).1 + 1, true) (by rw [if_neg (by simp), if_pos hs]))
    have hcn : 0 ≤ (c L).1 ∧ (c L).1 + 1 ≤ 1099511627777 := by omega
    have T3 : CW ((wc.setCell ⟨p5, L, none⟩ (.int .i64 ((c L).1 + 1))).setCell ⟨p5, 9 + L, none⟩ (.bool true)) w.heap.size p5 p8 (nextP ls c L ((c L).1 + 1, true) (L + 1)) := by rw [nextP_start]; exact T1.setns L9 _ _
    have hb3 := below_set2 hb1 T1.m5 L (9 + L) (.int .i64 ((c L).1 + 1)) (.bool true)
    rw [hs] at z1
    clear T1 hb1 HN hs
    clear k1
    go_wp2_with fail
    go_loopw [10] (fun vj wr => ∃ j : Nat, vj = .int .i64 j ∧ L < j ∧ j ≤ n ∧ CW wr w.heap.size p5 p8 (nextP ls c L ((c L).1 + 1, true) j) ∧ Below w.heap.size w wr) (fun vj _ => n - (intOf vj).toNat)
    case atStart => exact ⟨L + 1, by simp, by omega, by omega, T3, hb3⟩
    case round =>
      obtain ⟨j, rfl, hLj, hj, T4, hbw⟩ := hrel
      clear T3 hb3 z0 z1 f0 f1
      by_cases hlt : j < n
      · obtain ⟨ad, e, hl2, k0, k1, k2, k3⟩ := (ha.below hbw).lv hlt
        cases e
        have j9 : j < 9 := by omega
        have j9' : (j : Int) < 9 := by omega
        have HI := Lib.hid (nextP_in ls c L ((c L).1 + 1, true) hLj)
        have HO := Lib.hid (nextP_out ls c L ((c L).1 + 1, true) (j := j))
        generalize gL ls j = lv at *
        obtain ⟨xf, xs, xt, xr⟩ := lv
        simp only at k0 k1 k2 k3 HI HO
        obtain ⟨z0, z1⟩ := T4.b5.cn j9
        have f0 := T4.b5.frozen j
        have f1 := T4.b5.frozen (9 + j)
        by_cases hxr : (L : Int) + 1 ≤ xr
        · go_wp2_with fail
          go_roundw
          case measure => rw [intOf, intOf]; omega
          case rel => exact ⟨j + 1, by simp, by omega, by omega, by rw [HI.out hxr]; exact T4.setsn j9 _ _, below_set2 hbw T4.m5 _ _ _ _⟩
        · go_wp2_with fail
          go_roundw
          case measure => rw [intOf, intOf]; omega
          case rel => exact ⟨j + 1, by simp, by omega, by omega, by rw [HO.out hxr]; exact T4, hbw⟩
      · have : j = n := by omega
        subst this
        rw [HX.out] at T4
        go_upto_region 13 with fail
        have B5 := T4.b5
        have B8 := T4.b8
        unfold Blk at B5 B8
        go_wp2_with (first | (refine wpList_load_row rfl 26 _ rfl p5 rfl 26 _ (0, 0) _ B5 Tryz.underlying26 rfl (by kernel_rfl) ?_) | (refine wpList_store_row rfl 26 _ _ rfl p8 _ rfl rfl 26 _ B8 (by kernel_rfl) rfl (cnA_one _) ?_))
        refine bodyPost_ret (results_cell_row rfl _ _ p8 26 _ (0, 0) _ rfl (setRow_heap wr p8 _ _ _ _ B8) Tryz.underlying26 rfl (by kernel_rfl)) rfl ?_
        exact ⟨rfl, below_setRow hbw T4.m8 _⟩
  · have HX := Lib.hid (HN.out ((gL ls L).start, true) (by rw [if_neg (by simp), if_neg hs]))
    have T3 : CW ((wc.setCell ⟨p5, L, none⟩ (.int .i64 (gL ls L).start)).setCell ⟨p5, 9 + L, none⟩ (.bool true)) w.heap.size p5 p8 (nextP ls c L ((gL ls L).start, true) (L + 1)) := by rw [nextP_start]; exact T1.setns L9 _ _
    have hb3 := below_set2 hb1 T1.m5 L (9 + L) (.int .i64 (gL ls L).start) (.bool true)
    rw [Bool.eq_false_iff.2 hs] at z1
    clear T1 hb1 HN hs
    go_wp2_with fail
    go_loopw [10] (fun vj wr => ∃ j : Nat, vj = .int .i64 j ∧ L < j ∧ j ≤ n ∧ CW wr w.heap.size p5 p8 (nextP ls c L ((gL ls L).start, true) j) ∧ Below w.heap.size w wr) (fun vj _ => n - (intOf vj).toNat)
    case atStart => exact ⟨L + 1, by simp, by omega, by omega, T3, hb3⟩
    case round =>
      obtain ⟨j, rfl, hLj, hj, T4, hbw⟩ := hrel
      clear T3 hb3 z0 z1 f0 f1
      by_cases hlt : j < n
      · obtain ⟨ad, e, hl2, k0, k1, k2, k3⟩ := (ha.below hbw).lv hlt
        cases e
        have j9 : j < 9 := by omega
        have j9' : (j : Int) < 9 := by omega
        have HI := Lib.hid (nextP_in ls c L ((gL ls L).start, true) hLj)
        have HO := Lib.hid (nextP_out ls c L ((gL ls L).start, true) (j := j))
        generalize gL ls j = lv at *
        obtain ⟨xf, xs, xt, xr⟩ := lv
        simp only at k0 k1 k2 k3 HI HO
        obtain ⟨z0, z1⟩ := T4.b5.cn j9
        have f0 := T4.b5.frozen j
        have f1 := T4.b5.frozen (9 + j)
        by_cases hxr : (L : Int) + 1 ≤ xr
        · go_wp2_with fail
          go_roundw
          case measure => rw [intOf, intOf]; omega
          case rel => exact ⟨j + 1, by simp, by omega, by omega, by rw [HI.out hxr]; exact T4.setsn j9 _ _, below_set2 hbw T4.m5 _ _ _ _⟩
        · go_wp2_with fail
          go_roundw
          case measure => rw [intOf, intOf]; omega
          case rel => exact ⟨j + 1, by simp, by omega, by omega, by rw [HO.out hxr]; exact T4, hbw⟩
      · have : j = n := by omega
        subst this
        rw [HX.out] at T4
        go_upto_region 13 with fail
        have B5 := T4.b5
        have B8 := T4.b8
        unfold Blk at B5 B8
        go_wp2_with (first | (refine wpList_load_row rfl 26 _ rfl p5 rfl 26 _ (0, 0) _ B5 Tryz.underlying26 rfl (by kernel_rfl) ?_) | (refine wpList_store_row rfl 26 _ _ rfl p8 _ rfl rfl 26 _ B8 (by kernel_rfl) rfl (cnA_one _) ?_))
        refine bodyPost_ret (results_cell_row rfl _ _ p8 26 _ (0, 0) _ rfl (setRow_heap wr p8 _ _ _ _ B8) Tryz.underlying26 rfl (by kernel_rfl)) rfl ?_
        exact ⟨rfl, below_setRow hbw T4.m8 _⟩
end Go.Proofs.YthbodpjkckminaaGreatDoor

namespace Go.Proofs.YthbodpjkckminaaGreatDoor
open Go.RowKit

def ovB (c : Cn) : Bool := (List.range 9).any fun i => decide ((c i).1 < 0) || decide (1099511627776 < (c i).1)
def nxE (ls : List Lv) (n : Nat) (c : Cn) (level r : Int) : Int := if ckE ls n level ≠ 0 then ckE ls n level else if r < 0 ∨ 32767 < r then 5 else if ovB c = true then 29 else 0
def nxF (ls : List Lv) (n : Nat) (c : Cn) (level r : Int) : Cn := if nxE ls n c level r = 0 then nextC ls n c (level - 1).toNat r else cnZ
theorem ovB_at {c : Cn} {i : Nat} (hi : i < 9) (h : (c i).1 < 0 ∨ 1099511627776 < (c i).1) : ovB c = true := by
  unfold ovB
  rw [List.any_eq_true]
  exact ⟨i, List.mem_range.2 hi, by simpa using h⟩
theorem ovB_no {c : Cn} (h : ∀ i, i < 9 → ¬ ((c i).1 < 0 ∨ 1099511627776 < (c i).1)) : ovB c = false := by
  rw [Bool.eq_false_iff]
  intro hh
  unfold ovB at hh
  rw [List.any_eq_true] at hh
  obtain ⟨i, hi, h2⟩ := hh
  exact h i (List.mem_range.1 hi) (by simpa using h2)
def cnN (c : Cn) : List Value := [.int .i64 (c 0).1, .int .i64 (c 1).1, .int .i64 (c 2).1, .int .i64 (c 3).1, .int .i64 (c 4).1, .int .i64 (c 5).1, .int .i64 (c 6).1, .int .i64 (c 7).1, .int .i64 (c 8).1]
theorem cnN_index (c : Cn) : ∀ i, i < 9 → ∀ w, (Instr.index 23 (.agg (cnN c).toArray) (.int .i64 ((i : Nat) : Int))).run Tryz.prog w = .ok (.int .i64 (c i).1) w :=
  lt9 (p := fun i => ∀ w, (Instr.index 23 (.agg (cnN c).toArray) (.int .i64 ((i : Nat) : Int))).run Tryz.prog w = .ok (.int .i64 (c i).1) w) (fun w => by kernel_rfl) (fun w => by kernel_rfl) (fun w => by kernel_rfl) (fun w => by kernel_rfl) (fun w => by kernel_rfl) (fun w => by kernel_rfl) (fun w => by kernel_rfl) (fun w => by kernel_rfl) (fun w => by kernel_rfl)
theorem Blk.cnN_ {w : World} {g : Nat} {t : TypeId} {c : Cn} (h : Blk w g t (cnA c)) : w.rangeAt g 0 (cnN c) := fun j v hv => by
  rw [Nat.zero_add]
  refine h.cell j ?_
  have hj : j < 9 := by have := (List.getElem?_eq_some_iff.1 hv).1; simpa [cnN] using this
  have : (cnN c)[j]? = (cnA c)[j]? := (lt9 (p := fun j => (cnN c)[j]? = (cnA c)[j]?) rfl rfl rfl rfl rfl rfl rfl rfl rfl) j hj
  rw [← this]; exact hv
theorem size9 (c : Cn) : (Tryz.prog.info? 23).map (·.size) = some (cnN c).length := by kernel_rfl
set_option maxHeartbeats 8000000 in
set_option maxRecDepth 100000 in
theorem next_any (A : Option Addr) (n cA : Nat) (ls : List Lv) (c : Cn) (level r : Int) (w : World) (ha : Sl w 4 lvC A n ls) :
    Calls Tryz.prog 9 #[.slice A n cA, .agg (cnA c), .int .i64 level, .int .i64 r] w fun e w' => e = .returned (.tuple #[.agg (cnA (nxF ls n c level r)), .int .i64 (nxE ls n c level r)]) ∧ Below w.heap.size w w' := by
  have hlen := ha.len
  have T0 := CW.new w c
  have hb0 := ((Below.refl w.heap.size w).alloc (Nat.le_refl _) (.cells (cnA c) 26)).alloc (by simp) (.cells (cnA cnZ) 26)
  have HE := Lib.hid (show nxE ls n c level r = if ckE ls n level ≠ 0 then ckE ls n level else if r < 0 ∨ 32767 < r then 5 else if ovB c = true then 29 else 0 from rfl)
  have HF := Lib.hid (show nxF ls n c level r = if nxE ls n c level r = 0 then nextC ls n c (level - 1).toNat r else cnZ from rfl)
  go_enter Tryz.func9, Tryz.ntmps9
  go_upto_region 0 with fail
  go_cut [5, 8, 9] (fun v5 v8 v9 wx => ∃ p5 p8, v5 = .pointer (some ⟨p5, 0, none⟩) ∧ v8 = .pointer (some ⟨p8, 0, none⟩) ∧ v9 = .int .i64 0 ∧ CW wx w.heap.size p5 p8 c ∧ Below w.heap.size w wx)
  case first =>
    go_wp2_with fail
    go_meet
    case rel => exact ⟨_, _, rfl, rfl, rfl, T0, hb0⟩
  case rest =>
  obtain ⟨p5, p8, rfl, rfl, rfl, T1, hb1⟩ := hcut
  clear T0 hb0
  have cc := checked_any A n cA ls level wc (ha.below hb1)
  by_cases hk : ckE ls n level = 0
  · have HE2 := Lib.hid (HE.out.trans (if_neg (by rw [hk]; simp)))
    rw [hk] at cc
    have hlv : 1 ≤ level ∧ level ≤ n ∧ clE ls = 0 := by
      unfold ckE at hk
      by_cases h1 : clE ls ≠ 0
      · rw [if_pos h1] at hk; exact absurd hk h1
      · rw [if_neg h1] at hk
        by_cases h2 : level < 1 ∨ (n : Int) < level
        · rw [if_pos h2] at hk; omega
        · exact ⟨by omega, by omega, by omega⟩
    have hn := clE_len hlv.2.2
    rw [hlen] at hn
    clear HE hk
    by_cases hr : r < 0 ∨ 32767 < r
    · have HE3 := Lib.hid (HE2.out.trans (if_pos hr))
      have HF3 := Lib.hid (HF.out.trans (if_neg (by rw [HE3.out]; omega)))
      clear HE2 HF
      rcases hr with hr | hr
      all_goals
        (try have hr0 : ¬ r < 0 := by omega)
        go_wp2_with (first | (go_at_call 27; refine cc.mono ?_; rintro er w2 ⟨rfl, hb2⟩; have T2 := T1.below hb2; have B8 := T2.b8; unfold Blk at B8) | (refine wpList_store_row rfl 26 _ _ rfl p8 (cnA cnZ) rfl rfl 26 _ B8 (by kernel_rfl) rfl (cnA_one _) ?_))
        refine bodyPost_ret (results_cell_tmp rfl _ _ p8 26 _ (0, 0) _ rfl (setRow_heap _ p8 _ _ _ _ B8) Tryz.underlying26 rfl (by kernel_rfl)) rfl ?_
        rw [HF3.out, HE3.out]
        exact ⟨rfl, below_setRow (below_trans' hb1 hb1.size hb2) T2.m8 _⟩
    · have hr1 : 0 ≤ r := by omega
      have hr2 : r ≤ 32767 := by omega
      have HE3 := Lib.hid (HE2.out.trans (if_neg hr))
      clear HE2 hr
      obtain ⟨L, rfl⟩ : ∃ L : Nat, level = (L : Int) + 1 := ⟨(level - 1).toNat, by omega⟩
      have eL : ((L : Int) + 1 - 1).toNat = L := by omega
      rw [eL] at HF
      have hL : L < n := by omega
      clear eL
      have hix := Lib.hid (cnN_index c)
      have h9 := size9 c
      go_upto_region 6 with (first | (go_at_call 27; refine cc.mono ?_; rintro er w2 ⟨rfl, hb2⟩))
      have T2 := T1.below hb2
      have hbx := below_trans' hb1 hb1.size hb2
      have rg := T2.b5.cnN_
      clear T1 hb1 hb2 cc
      go_wp2_with (refine wpList_load_mid rfl 23 _ rfl p5 0 rfl (cnN c) _ rg Tryz.underlying23 rfl h9 ?_)
      go_loopw [29] (fun vi wr => ∃ i : Nat, vi = .int .i64 i ∧ i ≤ 9 ∧ (∀ j, j < i → ¬ ((c j).1 < 0 ∨ 1099511627776 < (c j).1)) ∧ CW wr w.heap.size p5 p8 c ∧ Below w.heap.size w wr) (fun vi _ => 9 - (intOf vi).toNat)
      case atStart => exact ⟨0, rfl, by omega, fun j h => absurd h (by omega), T2, hbx⟩
      case round =>
        obtain ⟨i, rfl, hi, hok, T3, hbw⟩ := hrel
        have HOK := Lib.hid hok
        clear hok T2 hbx rg
        by_cases hlt : i < 9
        · have hlt' : (i : Int) < 9 := by omega
          have hii := hix.out i hlt
          have B8 := T3.b8
          unfold Blk at B8
          by_cases hbad : (c i).1 < 0 ∨ 1099511627776 < (c i).1
          · have HE5 := Lib.hid (HE3.out.trans (if_pos (ovB_at hlt hbad)))
            have HF5 := Lib.hid (HF.out.trans (if_neg (by rw [HE5.out]; omega)))
            clear HE3 HF
            rcases hbad with hbad | hbad
            all_goals
              (try have hb0 : ¬ (c i).1 < 0 := by omega)
              go_wp2_with (refine wpList_store_row rfl 26 _ _ rfl p8 (cnA cnZ) rfl rfl 26 _ B8 (by kernel_rfl) rfl (cnA_one _) ?_)
              refine bodyPost_ret (results_cell_tmp rfl _ _ p8 26 _ (0, 0) _ rfl (setRow_heap _ p8 _ _ _ _ B8) Tryz.underlying26 rfl (by kernel_rfl)) rfl ?_
              rw [HF5.out, HE5.out]
              exact ⟨rfl, below_setRow hbw T3.m8 _⟩
          · have hb1 : ¬ (c i).1 < 0 := by omega
            have hb2 : ¬ 1099511627776 < (c i).1 := by omega
            go_wp2_with fail
            go_roundw
            case measure => rw [intOf, intOf]; omega
            case rel => exact ⟨i + 1, by simp, by omega, fun j hj => by rcases (show j < i ∨ j = i by omega) with h | rfl; exact HOK.out j h; omega, T3, hbw⟩
        · have : i = 9 := by omega
          subst this
          have hcc : ¬ ((c L).1 < 0 ∨ 1099511627776 < (c L).1) := HOK.out L (by omega)
          have HE5 := Lib.hid (HE3.out.trans (if_neg (by rw [ovB_no HOK.out]; simp)))
          have HF5 := Lib.hid (HF.out.trans (if_pos HE5.out))
          clear HE3 HF
          have cn := nstep_any A n cA ls c 1099511627776 L r wr (ha.below hbw) hn.2 hL (by omega) (by omega)
          have B5 := T3.b5
          unfold Blk at B5
          go_wp2_with (first | (refine wpList_load_row rfl 26 _ rfl p5 rfl 26 _ (0, 0) _ B5 Tryz.underlying26 rfl (by kernel_rfl) ?_) | (go_at_call 28; refine cn.mono ?_; rintro er w3 ⟨rfl, hb3⟩; have T4 := T3.below hb3; have B8 := T4.b8; unfold Blk at B8) | (refine wpList_store_row rfl 26 _ _ rfl p8 _ rfl rfl 26 _ B8 (by kernel_rfl) rfl (cnA_one _) ?_))
          refine bodyPost_ret (results_cell_tmp rfl _ _ p8 26 _ (0, 0) _ rfl (setRow_heap _ p8 _ _ _ _ B8) Tryz.underlying26 rfl (by kernel_rfl)) rfl ?_
          rw [HF5.out, HE5.out]
          exact ⟨rfl, below_setRow (below_trans' hbw hbw.size hb3) T4.m8 _⟩
  · have HE2 := Lib.hid (HE.out.trans (if_pos hk))
    have HF2 := Lib.hid (HF.out.trans (if_neg (by rw [HE2.out]; exact hk)))
    clear HE HF
    generalize ckE ls n level = ce at *
    go_wp2_with (first | (go_at_call 27; refine cc.mono ?_; rintro er w2 ⟨rfl, hb2⟩; have T2 := T1.below hb2; have B8 := T2.b8; unfold Blk at B8) | (refine wpList_store_row rfl 26 _ _ rfl p8 (cnA cnZ) rfl rfl 26 _ B8 (by kernel_rfl) rfl (cnA_one _) ?_))
    refine bodyPost_ret (results_cell_tmp rfl _ _ p8 26 _ (0, 0) _ rfl (setRow_heap _ p8 _ _ _ _ B8) Tryz.underlying26 rfl (by kernel_rfl)) rfl ?_
    rw [HF2.out, HE2.out]
    exact ⟨rfl, below_setRow (below_trans' hb1 hb1.size hb2) T2.m8 _⟩
end Go.Proofs.YthbodpjkckminaaGreatDoor

namespace Go.Proofs.YthbodpjkckminaaGreatDoor
open Go.Shelf Go.RowKit

theorem sizeBuilderN : (Tryz.prog.info? 195).map (·.size) = some 2 := by kernel_rfl
theorem liesBuilderN : liesAt Tryz.prog Tryz.prog.depth 195 (2 / Tryz.prog.cellsOf 195) 0 195 1 = true := by kernel_rfl
theorem infoByteN : (Tryz.prog.info? 5).map (fun i => (i.zero, i.size, i.bytes)) = some (some (.int .u8 0), 1, 1) := by kernel_rfl

set_option maxRecDepth 100000 in
theorem nCopyCheck_fresh (b : Nat) (w : World) (h0 : w.cell? ⟨b, 0, none⟩ = some (.pointer none)) (hsh : w.shape? b = some (195, 2)) (hfz : w.frozen? ⟨b, 0, none⟩ = false) :
    Calls Tryz.prog 152 #[.pointer (some ⟨b, 0, none⟩)] w fun e w' => e = .returned (.tuple #[]) ∧ w' = w.setCell ⟨b, 0, none⟩ (.pointer (some ⟨b, 0, none⟩)) := by
  obtain ⟨j, hj, hjs⟩ := Option.map_eq_some_iff.1 sizeBuilderN
  go_enter Tryz.func152, Tryz.ntmps152
  go_wp2
  rw [Lib.run_to_unsafe w ⟨b, 0, none⟩ Tryz.underlying193 Tryz.underlying297 hj (by rw [hjs]; decide) hsh (Nat.zero_lt_succ 1)]
  simp only [Result.andThen]
  rw [Oper.upon_value]
  go_wp2
  rw [run_callFunc_extern Tryz.func179 (by kernel_rfl) (by kernel_rfl) (by kernel_rfl) (e := Extern.AbiNoEscape.same) (by kernel_rfl)]
  rw [Lib.run_noEscape]
  simp only [Result.andThen]
  rw [Oper.upon_value]
  go_wp2
  rw [Lib.run_from_unsafe w ⟨b, 0, none⟩ Tryz.underlying297 Tryz.underlying193 hj hsh liesBuilderN]
  simp only [Result.andThen]
  rw [Oper.upon_value]
  go_wp2
  go_end0
  exact ⟨rfl, rfl⟩

set_option maxRecDepth 100000 in
theorem nCopyCheck_used (b : Nat) (w : World) (h0 : w.cell? ⟨b, 0, none⟩ = some (.pointer (some ⟨b, 0, none⟩))) :
    Calls Tryz.prog 152 #[.pointer (some ⟨b, 0, none⟩)] w fun e w' => e = .returned (.tuple #[]) ∧ w' = w := by
  obtain ⟨j, hj, _⟩ := Option.map_eq_some_iff.1 sizeBuilderN
  go_enter Tryz.func152, Tryz.ntmps152
  go_wp2
  rw [Lib.run_neq_ptr_same w _ Tryz.underlying193 hj]
  go_wp2
  go_end0
  exact ⟨rfl, rfl⟩

theorem nCopyCheck (B b : Nat) (bs : List Value) (w : World) (h : Lib.IsBuilderF 195 5 B b bs w) :
    Calls Tryz.prog 152 #[.pointer (some ⟨b, 0, none⟩)] w fun e w' => e = .returned (.tuple #[]) ∧ (Lib.BuilderAtF 195 5 B b (.pointer (some ⟨b, 0, none⟩)) bs w' ∧ Below B w w' ∧ Lib.OthersKept 5 (some b) w w') := by
  rcases h with h | h
  · refine (nCopyCheck_fresh b w h.cell0 h.shape h.frozen0).mono ?_
    rintro e w' ⟨rfl, rfl⟩
    exact ⟨rfl, h.used _, (Below.refl B w).setCell (p := ⟨b, 0, none⟩) h.1 _, (Lib.OthersKept.refl _ _ w).setCell ⟨b, 0, none⟩ rfl _⟩
  · refine (nCopyCheck_used b w h.cell0).mono ?_
    rintro e w' ⟨rfl, rfl⟩
    exact ⟨rfl, h, Below.refl B _, Lib.OthersKept.refl _ _ _⟩

set_option maxHeartbeats 2000000 in
set_option maxRecDepth 100000 in
theorem bWriteString (B b : Nat) (bs : List Value) (s : ByteArray) (w : World) (h : Lib.IsBuilderF 195 5 B b bs w) (hlen : bs.length + s.size ≤ 140737488355328) (hBw : B ≤ w.heap.size) :
    Calls Tryz.prog 121 #[.pointer (some ⟨b, 0, none⟩), .string s] w fun e w' => e = .returned (.tuple #[.int .i64 s.size, .nilIface]) ∧ (Lib.BuilderAtF 195 5 B b (.pointer (some ⟨b, 0, none⟩)) (bs ++ Lib.strCells s) w' ∧ Below B w w' ∧ Lib.OthersKept 5 (some b) w w') := by
  obtain ⟨i0, hi, hz0, hz1, hz2⟩ := info_parts infoByteN
  go_enter Tryz.func121, Tryz.ntmps121
  go_wp2_with (go_at_call 152; refine (nCopyCheck B b bs _ h).mono ?_)
  rintro e w1 ⟨rfl, h1, hb1, hk1⟩
  obtain ⟨hB, v, hbk, hown, hne⟩ := h1
  have c0 : w1.cell? ⟨b, 0, none⟩ = some (.pointer (some ⟨b, 0, none⟩)) := by rw [Lib.cell_of_heap hbk]; rfl
  have c1 : w1.cell? ⟨b, 1, none⟩ = some v := by rw [Lib.cell_of_heap hbk]; rfl
  go_wp2_with (at_builtin; refine Lib.wpList_append_own_stringF _ rfl _ _ 190 9 rfl B 5 i0 Tryz.underlying190 Tryz.underlying9 hi hz0 hz1 hz2 _ _ _ rfl hown s rfl ?c3 ?c4 ?c5 ?_)
  case c3 => unfold maxLen; omega
  case c4 => omega
  case c5 => have := hb1.size; omega
  intro v' w2 hown' hgrow _
  have hlt : b < w1.heap.size := by
    rcases Nat.lt_or_ge b w1.heap.size with h' | h'
    · exact h'
    · simp [Array.getElem?_eq_none h'] at hbk
  have hb2 : w2.heap[b]? = some (.cells #[.pointer (some ⟨b, 0, none⟩), v] 195 (0, 0)) := by
    rw [hgrow.block b hlt (fun e => hne e.symm)]
    exact hbk
  have d0 : w2.cell? ⟨b, 0, none⟩ = some (.pointer (some ⟨b, 0, none⟩)) := by rw [Lib.cell_of_heap hb2]; rfl
  have d1 : w2.cell? ⟨b, 1, none⟩ = some v := by rw [Lib.cell_of_heap hb2]; rfl
  have f1 : w2.frozen? ⟨b, 1, none⟩ = false := Lib.frozen_of_heap hb2 1
  obtain ⟨ao, n', cap, rfl⟩ : ∃ ao n' cap, v' = .slice ao n' cap := by
    rcases hown'.2 with ⟨hv, _⟩ | ⟨g, cap, cur, fz, hv, _⟩
    · exact ⟨_, _, _, hv⟩
    · exact ⟨_, _, _, hv⟩
  go_wp2
  go_ret2
  refine ⟨rfl, ?_, ?_, (hk1.grown hgrow (Lib.ownsRowF_kind hown)).setCell ⟨b, 1, none⟩ rfl _⟩
  · exact Lib.BuilderAtF.put (T := 195) (e := 5) hB hb2 (bs' := bs ++ Lib.strCells s) (by simpa [Lib.strCells_length] using hown') (by decide)
  · exact (hb1.grown hgrow (by have := hb1.size; omega) (fun k hk => (hown.lt k hk).1)).setCell (p := ⟨b, 1, none⟩) hB _
/-- a builder that holds the bytes l, after writing a string behind them. -/
theorem bWrite (B b : Nat) (l : List UInt8) (s : ByteArray) (w : World) (h : Lib.IsBuilderF 195 5 B b (Lib.byteCells l) w) (hlen : l.length + s.size ≤ 140737488355328) (hBw : B ≤ w.heap.size) :
    Calls Tryz.prog 121 #[.pointer (some ⟨b, 0, none⟩), .string s] w fun e w' => e = .returned (.tuple #[.int .i64 s.size, .nilIface]) ∧ Lib.IsBuilderF 195 5 B b (Lib.byteCells (l ++ s.data.toList)) w' ∧ Below B w w' ∧ Lib.OthersKept 5 (some b) w w' := by
  have := bWriteString B b (Lib.byteCells l) s w h (by simpa [Lib.byteCells] using hlen) hBw
  refine this.mono ?_
  rintro e w' ⟨he, h1, h2, h3⟩
  refine ⟨he, .inr ?_, h2, h3⟩
  have e : Lib.byteCells (l ++ s.data.toList) = Lib.byteCells l ++ Lib.strCells s := by simp [Lib.byteCells, Lib.strCells]
  rw [e]
  exact h1
end Go.Proofs.YthbodpjkckminaaGreatDoor

namespace Go.Proofs.YthbodpjkckminaaGreatDoor
open Go.RowKit

/-- a function as an element of a map, read as its number. -/
def funcElem (v : Value) : Option (DataW Unit × List MemPlace) :=
  match v with
  | .func (.func f) a b => if a = #[] ∧ b = #[] then some (.lit (.int .i64 f), []) else none
  | .nilFunc => some (.lit (.bool false), [])
  | _ => none
theorem funcElem_mk (f : Nat) : funcElem (.func (.func f) #[] #[]) = some (.lit (.int .i64 f), []) := rfl
theorem funcElem_inv {v : Value} {f : Nat} {ps : List MemPlace} (h : funcElem v = some (.lit (.int .i64 f), ps)) : v = .func (.func f) #[] #[] := by
  unfold funcElem at h
  split at h
  · rename_i g a b
    split at h
    · rename_i hab
      simp only [Option.some.injEq, Prod.mk.injEq, DataW.lit.injEq] at h
      have : (g : Int) = (f : Int) := by injection h.1
      have : g = f := Int.ofNat.inj this
      rw [this, hab.1, hab.2]
    · simp at h
  · simp at h
  · simp at h
section
variable {P : Program} {ops : Array Oper} {rest : List Oper} {o : Oper} {a : Act} {Q : Exit → Act → World → Prop} {w : World}
theorem wpList_insert_own (hg : o.guard = none) (m x v : Operand) (t : TypeId) (hop : o.op = Op.insert t m x v)
    (k e : TypeId) (K : Maps.Keyed P k) (ht : P.underlying t = some (.map k e)) (b n : Nat) (D : DataW Unit)
    (hm : a.eval m = .map (some b)) (hown : w.ownsMap P k funcElem b n D) (hn : n < maxLen) (key val : Value) (kl : Lit) (hx : a.eval x = key) (hv : a.eval v = val) (hkey : keyOf P k key = some kl)
    (d : DataW Unit) (ps : List MemPlace) (hval : funcElem val = some (d, ps))
    (hK : ∀ w', w'.ownsMap P k funcElem b (n + 1) (D.put kl d) → w.grownBy w' (some b) → wpList P ops Q rest (a.put o.dst undef) w') :
    wpList P ops Q (o :: rest) a w := by
  refine wpList_plain hg fun K' hK' => ?_
  obtain ⟨w', hrun, r1, r2⟩ := hown.update K ht hn hkey hval
  unfold Oper.wp
  simp [execOp, hop, hm, hx, hv, hrun, Result.andThen]
  exact hK' _ _ (hK w' r1 r2)
end
def keyI (n : Int) : Lit := .int .i64 n
theorem key3 {n : Int} (h : (Lit.int .i64 n).wf = true) : keyOf Tryz.prog 3 (.int .i64 n) = some (.int .i64 n) := Maps.keyOf_int_mk Tryz.underlying3 h
def fmtD (a b c d e f g : Nat) : DataW Unit := (((((((DataW.map []).put (.int .i64 1) (.lit (.int .i64 a))).put (.int .i64 2) (.lit (.int .i64 b))).put (.int .i64 3) (.lit (.int .i64 c))).put (.int .i64 4) (.lit (.int .i64 d))).put (.int .i64 5) (.lit (.int .i64 e))).put (.int .i64 6) (.lit (.int .i64 f))).put (.int .i64 7) (.lit (.int .i64 g))
def fmtDD : DataW Unit := fmtD 193 194 195 197 198 199 200
def fmtF (i : Int) : Nat := if i = 1 then 193 else if i = 2 then 194 else if i = 3 then 195 else if i = 4 then 197 else if i = 5 then 198 else if i = 6 then 199 else 200
theorem fmt_at {i : Int} (h : 1 ≤ i ∧ i ≤ 7) (z : DataW Unit) : fmtDD.atKey (.int .i64 i) z = .lit (.int .i64 (fmtF i)) := by
  rcases (show i = 1 ∨ i = 2 ∨ i = 3 ∨ i = 4 ∨ i = 5 ∨ i = 6 ∨ i = 7 by omega) with rfl | rfl | rfl | rfl | rfl | rfl | rfl <;> kernel_rfl
set_option maxHeartbeats 2000000 in
set_option maxRecDepth 100000 in
theorem formats_any (w : World) : Calls Tryz.prog 181 #[] w fun e w' => e = .returned (.map (some w.heap.size)) ∧ w'.ownsMap Tryz.prog 3 funcElem w.heap.size 7 fmtDD ∧ Below w.heap.size w w' := by
  have K := Maps.int_keyed Tryz.underlying3
  have hmm := @run_makeMap Tryz.prog
  have h0 := World.ownsMap_made w Tryz.prog 3 funcElem
  have hb0 := (Below.refl w.heap.size w).alloc (Nat.le_refl _) (.map #[] 0)
  go_enter Tryz.func181, Tryz.ntmps181
  go_wp2_with (first
    | (refine wpList_insert_own rfl _ _ _ 301 rfl 3 _ K Tryz.underlying301 w.heap.size 0 _ rfl h0 (by unfold maxLen; omega) (.int .i64 1) (.func (.func 193) #[] #[]) _ rfl rfl (key3 rfl) _ [] (funcElem_mk _) ?_; intro w1 m1 g1)
    | (refine wpList_insert_own rfl _ _ _ 301 rfl 3 _ K Tryz.underlying301 w.heap.size 1 _ rfl m1 (by unfold maxLen; omega) (.int .i64 2) (.func (.func 194) #[] #[]) _ rfl rfl (key3 rfl) _ [] (funcElem_mk _) ?_; intro w2 m2 g2)
    | (refine wpList_insert_own rfl _ _ _ 301 rfl 3 _ K Tryz.underlying301 w.heap.size 2 _ rfl m2 (by unfold maxLen; omega) (.int .i64 3) (.func (.func 195) #[] #[]) _ rfl rfl (key3 rfl) _ [] (funcElem_mk _) ?_; intro w3 m3 g3)
    | (refine wpList_insert_own rfl _ _ _ 301 rfl 3 _ K Tryz.underlying301 w.heap.size 3 _ rfl m3 (by unfold maxLen; omega) (.int .i64 4) (.func (.func 197) #[] #[]) _ rfl rfl (key3 rfl) _ [] (funcElem_mk _) ?_; intro w4 m4 g4)
    | (refine wpList_insert_own rfl _ _ _ 301 rfl 3 _ K Tryz.underlying301 w.heap.size 4 _ rfl m4 (by unfold maxLen; omega) (.int .i64 5) (.func (.func 198) #[] #[]) _ rfl rfl (key3 rfl) _ [] (funcElem_mk _) ?_; intro w5 m5 g5)
    | (refine wpList_insert_own rfl _ _ _ 301 rfl 3 _ K Tryz.underlying301 w.heap.size 5 _ rfl m5 (by unfold maxLen; omega) (.int .i64 6) (.func (.func 199) #[] #[]) _ rfl rfl (key3 rfl) _ [] (funcElem_mk _) ?_; intro w6 m6 g6)
    | (refine wpList_insert_own rfl _ _ _ 301 rfl 3 _ K Tryz.underlying301 w.heap.size 6 _ rfl m6 (by unfold maxLen; omega) (.int .i64 7) (.func (.func 200) #[] #[]) _ rfl rfl (key3 rfl) _ [] (funcElem_mk _) ?_; intro w7 m7 g7))
  go_ret
  have gg : ∀ {a b : World}, Below w.heap.size w a → a.grownBy b (some w.heap.size) → Below w.heap.size w b := fun h g => h.grown g h.size (fun k e => by cases e; exact Nat.le_refl _)
  exact ⟨rfl, m7, gg (gg (gg (gg (gg (gg (gg hb0 g1) g2) g3) g4) g5) g6) g7⟩
theorem zero_func (w : World) : (zeroValue 300).run Tryz.prog w = .ok .nilFunc w := by kernel_rfl
/-- the table's function for a format. -/
theorem formats_at {w : World} {b : Nat} (h : w.ownsMap Tryz.prog 3 funcElem b 7 fmtDD) {i : Int} (hi : 1 ≤ i ∧ i ≤ 7) : (Instr.lookup 301 (.map (some b)) (.int .i64 i) false).run Tryz.prog w = .ok (.func (.func (fmtF i)) #[] #[]) w := by
  obtain ⟨v, ps, hrun, hv⟩ := h.lookup (Maps.int_keyed Tryz.underlying3) Tryz.underlying301 (zero_func w) (zd := .lit (.bool false)) (zp := []) rfl (key3 (n := i) (by simp [Lit.wf, IntKind.min, IntKind.max, IntKind.signed, IntKind.bits]; omega))
  rw [fmt_at hi] at hv
  rw [hrun, funcElem_inv hv]
end Go.Proofs.YthbodpjkckminaaGreatDoor

namespace Go.Proofs.YthbodpjkckminaaGreatDoor
open Go.RowKit

def rngL (f : Int) : Int := if f = 1 then 0 else if 1 ≤ f ∧ f ≤ 7 then 1 else 0
def rngG (f : Int) : Int := if f = 4 ∨ f = 5 then 3999 else if 1 ≤ f ∧ f ≤ 7 then 999999 else 0
def rngE (f : Int) : Int := if 1 ≤ f ∧ f ≤ 7 then 0 else 3
set_option maxRecDepth 100000 in
theorem range_any (f : Int) (w : World) : Calls Tryz.prog 180 #[.int .i64 f] w fun e w' => e = .returned (.tuple #[.int .i64 (rngL f), .int .i64 (rngG f), .int .i64 (rngE f)]) ∧ w' = w := by
  have go : ∀ a b c, rngL f = a → rngG f = b → rngE f = c → Calls Tryz.prog 180 #[.int .i64 f] w (fun e w' => e = .returned (.tuple #[.int .i64 a, .int .i64 b, .int .i64 c]) ∧ w' = w) → Calls Tryz.prog 180 #[.int .i64 f] w fun e w' => e = .returned (.tuple #[.int .i64 (rngL f), .int .i64 (rngG f), .int .i64 (rngE f)]) ∧ w' = w := by
    intro a b c h1 h2 h3 h
    rw [h1, h2, h3]; exact h
  by_cases h : 1 ≤ f ∧ f ≤ 7
  · rcases (show f = 1 ∨ f = 2 ∨ f = 3 ∨ f = 4 ∨ f = 5 ∨ f = 6 ∨ f = 7 by omega) with rfl | rfl | rfl | rfl | rfl | rfl | rfl
    all_goals
      refine go _ _ _ rfl rfl rfl ?_
      go_enter Tryz.func180, Tryz.ntmps180
      go_wp2
      go_ret3
      exact ⟨rfl, rfl⟩
  · refine go 0 0 3 (by unfold rngL; rw [if_neg (by omega), if_neg h]) (by unfold rngG; rw [if_neg (by omega), if_neg h]) (by unfold rngE; rw [if_neg h]) ?_
    have e1 : (f == 1) = false := beq_eq_false_iff_ne.2 (by omega)
    have e2 : (f == 2) = false := beq_eq_false_iff_ne.2 (by omega)
    have e3 : (f == 3) = false := beq_eq_false_iff_ne.2 (by omega)
    have e4 : (f == 4) = false := beq_eq_false_iff_ne.2 (by omega)
    have e5 : (f == 5) = false := beq_eq_false_iff_ne.2 (by omega)
    have e6 : (f == 6) = false := beq_eq_false_iff_ne.2 (by omega)
    have e7 : (f == 7) = false := beq_eq_false_iff_ne.2 (by omega)
    go_enter Tryz.func180, Tryz.ntmps180
    go_wp2
    go_ret3
    exact ⟨rfl, rfl⟩
/-- a numeral of letters; the first number bounds the depth. -/
def lettersB : Nat → Int → ByteArray
  | 0, _ => ⟨#[]⟩
  | f + 1, n => if n ≤ 0 then ⟨#[]⟩ else lettersB f ((n - 1) / 26) ++ ⟨#[UInt8.ofNat (97 + ((n - 1) % 26).toNat)]⟩
theorem nbDrew {w w' : World} {q : Nat} (h : Below (w.drewN q).heap.size (w.drewN q) w') : Below w.heap.size w w' := ⟨h.os, h.tape, h.output, h.size, h.block⟩
theorem lettersB_size : ∀ (f : Nat) (n : Int), (lettersB f n).size ≤ f
  | 0, _ => Nat.le_refl _
  | f + 1, n => by
    unfold lettersB
    by_cases h : n ≤ 0
    · rw [if_pos h]; exact Nat.zero_le _
    · rw [if_neg h, ByteArray.size_append]
      have := lettersB_size f ((n - 1) / 26)
      show _ + 1 ≤ f + 1
      omega
set_option maxHeartbeats 4000000 in
set_option maxRecDepth 100000 in
theorem letters_any : ∀ (f : Nat) (n : Int) (w : World), f ≤ 64 → n < 2 ^ f → n ≤ 1000000000 → -1000000000 ≤ n → Calls Tryz.prog 194 #[.int .i64 n] w fun e w' => e = .returned (.string (lettersB f n)) ∧ Below w.heap.size w w'
  | 0, n, w, _, h, _, _ => by
    have h0 : n ≤ 0 := by simp at h; omega
    go_enter Tryz.func194, Tryz.ntmps194
    go_wp2
    go_ret
    exact ⟨rfl, Below.refl _ _⟩
  | f + 1, n, w, hf, h, hn, hn0 => by
    have HB := Lib.hid (show lettersB (f + 1) n = if n ≤ 0 then ⟨#[]⟩ else lettersB f ((n - 1) / 26) ++ ⟨#[UInt8.ofNat (97 + ((n - 1) % 26).toNat)]⟩ from rfl)
    by_cases h0 : n ≤ 0
    · go_enter Tryz.func194, Tryz.ntmps194
      go_wp2
      go_ret
      exact ⟨by rw [HB.out, if_pos h0]; rfl, Below.refl _ _⟩
    · have HB2 := Lib.hid (HB.out.trans (if_neg h0))
      clear HB
      have hp : (2 : Int) ^ (f + 1) = 2 * 2 ^ f := by rw [Int.pow_succ]; omega
      have ih := fun W => letters_any f ((n - 1) / 26) W (by omega) (by rw [hp] at h; omega) (by omega) (by omega)
      clear hp h
      have m0 := Int.emod_nonneg (n - 1) (show (26 : Int) ≠ 0 by omega)
      have m1 := Int.emod_lt_of_pos (n - 1) (show (0 : Int) < 26 by omega)
      obtain ⟨m, hm⟩ : ∃ m : Nat, (m : Int) = (n - 1) % 26 := ⟨((n - 1) % 26).toNat, by omega⟩
      have hm2 : ((n - 1) % 26).toNat = m := by omega
      rw [hm2, UInt8.ofNat_add] at HB2
      have hsz := lettersB_size f ((n - 1) / 26)
      have hsz2 : ¬ 9223372036854775807 < (lettersB f ((n - 1) / 26)).size + 1 := by omega
      have t1 : (n - 1).tdiv 26 = (n - 1) / 26 := Int.tdiv_eq_ediv_of_nonneg (by omega)
      have t2 : (n - 1).tmod 26 = (m : Int) := by rw [Int.tmod_eq_emod_of_nonneg (by omega)]; omega
      have mlt : (m : Int) < 26 := by omega
      have w0 : IntKind.i64.wrap (n - 1) = n - 1 := IntWalk.i64_in _ (by omega)
      have w1 : IntKind.i64.wrap ((n - 1) / 26) = (n - 1) / 26 := IntWalk.i64_in _ (by omega)
      have w2 : IntKind.i64.wrap (m : Int) = (m : Int) := IntWalk.i64_in _ (by omega)
      have w3 : IntKind.i64.wrap (97 + (m : Int)) = 97 + (m : Int) := IntWalk.i64_in _ (by omega)
      have w4 : IntKind.u8.wrap (97 + (m : Int)) = 97 + (m : Int) := IntWalk.u8_in _ (by omega)
      have u8i : (UInt8.ofNat (97 + m)).toNat = 97 + m := by rw [UInt8.toNat_ofNat']; exact Nat.mod_eq_of_lt (by omega)
      have hcv : ∀ (W : World) (g : Nat), W.cell? ⟨g, 0, none⟩ = some (.int .u8 (97 + (m : Int))) → (convert 190 9 (.slice (some ⟨g, 0, none⟩) 1 1)).run Tryz.prog W = .ok (.string ⟨#[UInt8.ofNat (97 + m)]⟩) W := fun W g hc => by
        refine run_convert_bytes_back W 190 9 5 ⟨g, 0, none⟩ 1 [UInt8.ofNat (97 + m)] Tryz.underlying190 Tryz.underlying5 Tryz.underlying9 (fun j hj => ?_)
        have h0 : j = 0 := by simpa using hj
        subst h0
        simp only [List.getElem_cons_zero, u8i]
        exact hc
      have HM := Lib.hid hm
      clear hm hm2 u8i m0 m1
      go_enter Tryz.func194, Tryz.ntmps194
      have hNew : ((w.alloc (.cells #[.int .u8 (97 + (m : Int))] 5)).drewN 1).cell? ⟨w.heap.size, 0, none⟩ = some (.int .u8 (97 + (m : Int))) := (Blk.new w 5 #[.int .u8 (97 + (m : Int))]).cell 0 rfl
      go_upto_region 3 with fail
      go_region_law
        (first
          | (go_simp; go_at_call 194; refine (ih _).mono ?_; rintro er w9 ⟨rfl, hb9⟩; (try have q9 := (hb9.cell (World.block_lt_of_cell? _ _ hNew)).trans hNew)))
      all_goals
        go_wp2_with fail
        go_ret
        refine ⟨by rw [HB2.out]; rfl, ?_⟩
        first
          | exact (nbDrew (q := 1) hb9).alloc hb9.size _
          | exact ((Below.refl w.heap.size w).alloc (Nat.le_refl _) _).trans ((nbDrew (q := 1) hb9).mono (by simp))
end Go.Proofs.YthbodpjkckminaaGreatDoor
