/- the law's next and shown. the law NumberingSteps, walked. -/
import Derived.Test.YthbodpjkckminaaGreatDoorm20
namespace Go.Proofs.YthbodpjkckminaaGreatDoor
open Go.RowKit

set_option maxHeartbeats 8000000 in
set_option maxRecDepth 100000 in
theorem lnext_any (A : Option Addr) (n cA : Nat) (ls : List Lv) (c : Cn) (M : Int) (L : Nat) (r : Int) (w : World) (ha : Sl w 4 lvC A n ls) (hn : n ≤ 9) (hL : L < n) (hcL : 0 ≤ (c L).1 ∧ (c L).1 ≤ M) (hM : M ≤ 1099511627776) :
    Calls Tryz.prog 13 #[.slice A n cA, .agg (cnA c), .int .i64 ((L : Int) + 1), .int .i64 r] w fun e w' => e = .returned (.agg (cnA (nextC ls n c L r))) ∧ Below w.heap.size w w' := by
  have T0 := CW.new w c
  have hb0 := ((Below.refl w.heap.size w).alloc (Nat.le_refl _) (.cells (cnA c) 26)).alloc (by simp) (.cells (cnA cnZ) 26)
  have L9 : L < 9 := by omega
  have L9' : (L : Int) < 9 := by omega
  go_enter Tryz.func13, Tryz.ntmps13
  go_upto_region 0 with fail
  go_cut [5, 8] (fun v5 v8 wx => ∃ p5 p8, v5 = .pointer (some ⟨p5, 0, none⟩) ∧ v8 = .pointer (some ⟨p8, 0, none⟩) ∧ CW wx w.heap.size p5 p8 c ∧ Below w.heap.size w wx)
  case first =>
    go_wp2_with fail
    go_meet
    case rel => exact ⟨_, _, rfl, rfl, T0, hb0⟩
  case rest =>
  obtain ⟨p5, p8, rfl, rfl, T1, hb1⟩ := hcut
  clear T0 hb0
  obtain ⟨z0, z1⟩ := T1.b5.cn L9
  have f0 := T1.b5.frozen L
  have f1 := T1.b5.frozen (9 + L)
  have hN : ∀ x, (x = if r ≠ 0 then (r, true) else if (c L).2 = true then ((c L).1 + 1, true) else ((gL ls L).start, true)) → nextP ls c L x n = nextC ls n c L r := by
    intro x hx
    subst hx
    funext i
    rw [nextP_at]
    unfold nextC
    by_cases h : i = L
    · subst h; rw [if_pos rfl]
    · rw [if_neg h]
      exact (if_neg h).symm
  have HN := Lib.hid hN
  clear hN
  by_cases hr : r ≠ 0
  · have hr' : (r != 0) = true := bne_iff_ne.2 hr
    have HX := Lib.hid (HN.out (r, true) (by rw [if_pos hr]))
    have T3 : CW ((wc.setCell ⟨p5, L, none⟩ (.int .i64 r)).setCell ⟨p5, 9 + L, none⟩ (.bool true)) w.heap.size p5 p8 (nextP ls c L (r, true) (L + 1)) := by rw [nextP_start]; exact T1.setns L9 _ _
    have hb3 := below_set2 hb1 T1.m5 L (9 + L) (.int .i64 r) (.bool true)
    clear T1 hb1 HN
    go_wp2_with fail
    go_loopw [10] (fun vj wr => ∃ j : Nat, vj = .int .i64 j ∧ L < j ∧ j ≤ n ∧ CW wr w.heap.size p5 p8 (nextP ls c L (r, true) j) ∧ Below w.heap.size w wr) (fun vj _ => n - (intOf vj).toNat)
    case atStart => exact ⟨L + 1, by simp, by omega, by omega, T3, hb3⟩
    case round =>
      obtain ⟨j, rfl, hLj, hj, T4, hbw⟩ := hrel
      clear T3 hb3 z0 z1 f0 f1
      by_cases hlt : j < n
      · obtain ⟨ad, e, hl2, k0, k1, k2, k3⟩ := (ha.below hbw).lv hlt
        cases e
        have j9 : j < 9 := by omega
        have j9' : (j : Int) < 9 := by omega
        have HI := Lib.hid (nextP_in ls c L (r, true) hLj)
        have HO := Lib.hid (nextP_out ls c L (r, true) (j := j))
        generalize gL ls j = lv at *
        obtain ⟨xf, xs, xt, xr⟩ := lv
        simp only at k0 k1 k2 k3 HI HO
        obtain ⟨z0, z1⟩ := T4.b5.cn j9
        have f0 := T4.b5.frozen j
        have f1 := T4.b5.frozen (9 + j)
        by_cases hxr : (L : Int) + 1 ≤ xr
        · go_wp2_with fail
          go_roundw
          case measure => rw [intOf, intOf]; omega
          case rel => exact ⟨j + 1, by simp, by omega, by omega, by rw [HI.out hxr]; exact T4.setns j9 _ _, below_set2 hbw T4.m5 _ _ _ _⟩
        · go_wp2_with fail
          go_roundw
          case measure => rw [intOf, intOf]; omega
          case rel => exact ⟨j + 1, by simp, by omega, by omega, by rw [HO.out hxr]; exact T4, hbw⟩
      · have : j = n := by omega
        subst this
        rw [HX.out] at T4
        go_upto_region 13 with fail
        have B5 := T4.b5
        have B8 := T4.b8
        unfold Blk at B5 B8
        go_wp2_with (first | (refine wpList_load_row rfl 26 _ rfl p5 rfl 26 _ (0, 0) _ B5 Tryz.underlying26 rfl (by kernel_rfl) ?_) | (refine wpList_store_row rfl 26 _ _ rfl p8 _ rfl rfl 26 _ B8 (by kernel_rfl) rfl (cnA_one _) ?_))
        refine bodyPost_ret (results_cell_row rfl _ _ p8 26 _ (0, 0) _ rfl (setRow_heap wr p8 _ _ _ _ B8) Tryz.underlying26 rfl (by kernel_rfl)) rfl ?_
        exact ⟨rfl, below_setRow hbw T4.m8 _⟩
  obtain rfl : r = 0 := by omega
  obtain ⟨ad, e, hl2, _, k1, _, _⟩ := (ha.below hb1).lv hL
  subst e
  by_cases hs : (c L).2 = true
  · have HX := Lib.hid (HN.out ((c L).1 + 1, true) (by rw [if_neg (by simp), if_pos hs]))
    have hcn : 0 ≤ (c L).1 ∧ (c L).1 + 1 ≤ 1099511627777 := by omega
    have T3 : CW ((wc.setCell ⟨p5, L, none⟩ (.int .i64 ((c L).1 + 1))).setCell ⟨p5, 9 + L, none⟩ (.bool true)) w.heap.size p5 p8 (nextP ls c L ((c L).1 + 1, true) (L + 1)) := by rw [nextP_start]; exact T1.setns L9 _ _
    have hb3 := below_set2 hb1 T1.m5 L (9 + L) (.int .i64 ((c L).1 + 1)) (.bool true)
    rw [hs] at z1
    clear T1 hb1 HN hs
    clear k1
    go_wp2_with fail
    go_loopw [10] (fun vj wr => ∃ j : Nat, vj = .int .i64 j ∧ L < j ∧ j ≤ n ∧ CW wr w.heap.size p5 p8 (nextP ls c L ((c L).1 + 1, true) j) ∧ Below w.heap.size w wr) (fun vj _ => n - (intOf vj).toNat)
    case atStart => exact ⟨L + 1, by simp, by omega, by omega, T3, hb3⟩
    case round =>
      obtain ⟨j, rfl, hLj, hj, T4, hbw⟩ := hrel
      clear T3 hb3 z0 z1 f0 f1
      by_cases hlt : j < n
      · obtain ⟨ad, e, hl2, k0, k1, k2, k3⟩ := (ha.below hbw).lv hlt
        cases e
        have j9 : j < 9 := by omega
        have j9' : (j : Int) < 9 := by omega
        have HI := Lib.hid (nextP_in ls c L ((c L).1 + 1, true) hLj)
        have HO := Lib.hid (nextP_out ls c L ((c L).1 + 1, true) (j := j))
        generalize gL ls j = lv at *
        obtain ⟨xf, xs, xt, xr⟩ := lv
        simp only at k0 k1 k2 k3 HI HO
        obtain ⟨z0, z1⟩ := T4.b5.cn j9
        have f0 := T4.b5.frozen j
        have f1 := T4.b5.frozen (9 + j)
        by_cases hxr : (L : Int) + 1 ≤ xr
        · go_wp2_with fail
          go_roundw
          case measure => rw [intOf, intOf]; omega
          case rel => exact ⟨j + 1, by simp, by omega, by omega, by rw [HI.out hxr]; exact T4.setns j9 _ _, below_set2 hbw T4.m5 _ _ _ _⟩
        · go_wp2_with fail
          go_roundw
          case measure => rw [intOf, intOf]; omega
          case rel => exact ⟨j + 1, by simp, by omega, by omega, by rw [HO.out hxr]; exact T4, hbw⟩
      · have : j = n := by omega
        subst this
        rw [HX.out] at T4
        go_upto_region 13 with fail
        have B5 := T4.b5
        have B8 := T4.b8
        unfold Blk at B5 B8
        go_wp2_with (first | (refine wpList_load_row rfl 26 _ rfl p5 rfl 26 _ (0, 0) _ B5 Tryz.underlying26 rfl (by kernel_rfl) ?_) | (refine wpList_store_row rfl 26 _ _ rfl p8 _ rfl rfl 26 _ B8 (by kernel_rfl) rfl (cnA_one _) ?_))
        refine bodyPost_ret (results_cell_row rfl _ _ p8 26 _ (0, 0) _ rfl (setRow_heap wr p8 _ _ _ _ B8) Tryz.underlying26 rfl (by kernel_rfl)) rfl ?_
        exact ⟨rfl, below_setRow hbw T4.m8 _⟩
  · have HX := Lib.hid (HN.out ((gL ls L).start, true) (by rw [if_neg (by simp), if_neg hs]))
    have T3 : CW ((wc.setCell ⟨p5, L, none⟩ (.int .i64 (gL ls L).start)).setCell ⟨p5, 9 + L, none⟩ (.bool true)) w.heap.size p5 p8 (nextP ls c L ((gL ls L).start, true) (L + 1)) := by rw [nextP_start]; exact T1.setns L9 _ _
    have hb3 := below_set2 hb1 T1.m5 L (9 + L) (.int .i64 (gL ls L).start) (.bool true)
    rw [Bool.eq_false_iff.2 hs] at z1
    clear T1 hb1 HN hs
    go_wp2_with fail
    go_loopw [10] (fun vj wr => ∃ j : Nat, vj = .int .i64 j ∧ L < j ∧ j ≤ n ∧ CW wr w.heap.size p5 p8 (nextP ls c L ((gL ls L).start, true) j) ∧ Below w.heap.size w wr) (fun vj _ => n - (intOf vj).toNat)
    case atStart => exact ⟨L + 1, by simp, by omega, by omega, T3, hb3⟩
    case round =>
      obtain ⟨j, rfl, hLj, hj, T4, hbw⟩ := hrel
      clear T3 hb3 z0 z1 f0 f1
      by_cases hlt : j < n
      · obtain ⟨ad, e, hl2, k0, k1, k2, k3⟩ := (ha.below hbw).lv hlt
        cases e
        have j9 : j < 9 := by omega
        have j9' : (j : Int) < 9 := by omega
        have HI := Lib.hid (nextP_in ls c L ((gL ls L).start, true) hLj)
        have HO := Lib.hid (nextP_out ls c L ((gL ls L).start, true) (j := j))
        generalize gL ls j = lv at *
        obtain ⟨xf, xs, xt, xr⟩ := lv
        simp only at k0 k1 k2 k3 HI HO
        obtain ⟨z0, z1⟩ := T4.b5.cn j9
        have f0 := T4.b5.frozen j
        have f1 := T4.b5.frozen (9 + j)
        by_cases hxr : (L : Int) + 1 ≤ xr
        · go_wp2_with fail
          go_roundw
          case measure => rw [intOf, intOf]; omega
          case rel => exact ⟨j + 1, by simp, by omega, by omega, by rw [HI.out hxr]; exact T4.setns j9 _ _, below_set2 hbw T4.m5 _ _ _ _⟩
        · go_wp2_with fail
          go_roundw
          case measure => rw [intOf, intOf]; omega
          case rel => exact ⟨j + 1, by simp, by omega, by omega, by rw [HO.out hxr]; exact T4, hbw⟩
      · have : j = n := by omega
        subst this
        rw [HX.out] at T4
        go_upto_region 13 with fail
        have B5 := T4.b5
        have B8 := T4.b8
        unfold Blk at B5 B8
        go_wp2_with (first | (refine wpList_load_row rfl 26 _ rfl p5 rfl 26 _ (0, 0) _ B5 Tryz.underlying26 rfl (by kernel_rfl) ?_) | (refine wpList_store_row rfl 26 _ _ rfl p8 _ rfl rfl 26 _ B8 (by kernel_rfl) rfl (cnA_one _) ?_))
        refine bodyPost_ret (results_cell_row rfl _ _ p8 26 _ (0, 0) _ rfl (setRow_heap wr p8 _ _ _ _ B8) Tryz.underlying26 rfl (by kernel_rfl)) rfl ?_
        exact ⟨rfl, below_setRow hbw T4.m8 _⟩
set_option maxHeartbeats 8000000 in
set_option maxRecDepth 100000 in
theorem lshown_any (A : Option Addr) (n cA : Nat) (ls : List Lv) (c : Cn) (L : Nat) (w : World) (ha : Sl w 4 lvC A n ls) (hn : n ≤ 9) (hL : L ≤ n) :
    Calls Tryz.prog 12 #[.slice A n cA, .agg (cnA c), .int .i64 L] w fun e w' => ∃ B cB, e = .returned (.slice B L cB) ∧ Own w' w.heap.size 3 1 intC B L cB (numsF ls c L) ∧ Below w.heap.size w w' := by
  have N0 := Blk.new w 26 (cnA c)
  have hb0 := (Below.refl w.heap.size w).alloc (Nat.le_refl _) (.cells (cnA c) 26)
  go_enter Tryz.func12, Tryz.ntmps12
  go_upto_region 0 with fail
  go_cut [4] (fun v4 wx => ∃ p4, v4 = .pointer (some ⟨p4, 0, none⟩) ∧ Blk wx p4 26 (cnA c) ∧ w.heap.size ≤ p4 ∧ Below w.heap.size w wx)
  case first =>
    go_wp2_with fail
    go_meet
    case rel => exact ⟨_, rfl, N0, Nat.le_refl _, hb0⟩
  case rest =>
  obtain ⟨p4, rfl, B4, hp4, hb1⟩ := hcut
  go_wp2_with fail
  go_loopw [7, 8] (fun vo vi wr => ∃ (i : Nat) (B : Option Addr) (cB : Nat), vo = .slice B i cB ∧ vi = .int .i64 i ∧ i ≤ L ∧ Own wr w.heap.size 3 1 intC B i cB (numsF ls c i) ∧ Blk wr p4 26 (cnA c) ∧ blk B ≠ some p4 ∧ Below w.heap.size w wr) (fun _ vi _ => L - (intOf vi).toNat)
  case atStart => exact ⟨0, none, 0, rfl, rfl, Nat.zero_le _, Own.nil_ _ _ _ _ _, B4, by simp [blk], hb1⟩
  case round =>
    obtain ⟨i, B, cB, rfl, rfl, hi, ho, B4', hne, hbw⟩ := hrel
    clear B4 hb1
    by_cases hlt : i < L
    · obtain ⟨ad, e, hl2, _, k1, _, _⟩ := (ha.below hbw).lv (show i < n by omega)
      have HS := numsF_succ ls c i
      rw [show numF ls c i = if (c i).2 = true then (c i).1 else (gL ls i).start from rfl] at HS
      have i9 : i < 9 := by omega
      have i9' : (i : Int) < 9 := by omega
      have hin : (i : Int) < n := by omega
      subst e
      generalize (gL ls i).start = xs at *
      have hne4 : blk B ≠ some p4 := hne
      obtain ⟨z0, z1⟩ := B4'.cn i9
      generalize c i = ci at z0 z1 HS
      obtain ⟨cn, cs⟩ := ci
      simp only at z0 z1 HS
      have HS := Lib.hid HS
      by_cases hcs : cs = true
      · subst hcs
        have HS := Lib.hid (show numsF ls c (i + 1) = numsF ls c i ++ [cn] by rw [HS.out]; rfl)
        go_wp2_with (at_builtin; refine wpList_push elemN rfl (.tmp 28) (.tmp 30) rfl rfl _ rfl (ho.alloc _) (cn) _ rfl rfl (intC_oneN _) rfl (by unfold maxLen; omega) (Nat.le_trans hbw.size (by simp)) ?_; intro A3 c3 w3 ho3 hg3 ha3)
        go_roundw
        case measure => rw [intOf, intOf]; omega
        case rel =>
          refine ⟨i + 1, A3, c3, rfl, by simp, by omega, by rw [HS.out]; exact ho3, (B4'.alloc _).keep hg3 (fun e => hne4 e), ?_, (hbw.alloc hbw.size _).grown hg3 (Nat.le_trans hbw.size (by simp)) (fun k hk => (ho.lt k hk).1)⟩
          rcases ha3 with h | h
          · rw [h]; exact hne4
          · rw [h]; intro e; injection e with e; have := B4'.lt; simp at e; omega
      · have hcs : cs = false := by simpa using hcs
        subst hcs
        have HS := Lib.hid (show numsF ls c (i + 1) = numsF ls c i ++ [xs] by rw [HS.out]; rfl)
        go_wp2_with (at_builtin; refine wpList_push elemN rfl (.tmp 28) (.tmp 30) rfl rfl _ rfl (ho.alloc _) (xs) _ rfl rfl (intC_oneN _) rfl (by unfold maxLen; omega) (Nat.le_trans hbw.size (by simp)) ?_; intro A3 c3 w3 ho3 hg3 ha3)
        go_roundw
        case measure => rw [intOf, intOf]; omega
        case rel =>
          refine ⟨i + 1, A3, c3, rfl, by simp, by omega, by rw [HS.out]; exact ho3, (B4'.alloc _).keep hg3 (fun e => hne4 e), ?_, (hbw.alloc hbw.size _).grown hg3 (Nat.le_trans hbw.size (by simp)) (fun k hk => (ho.lt k hk).1)⟩
          rcases ha3 with h | h
          · rw [h]; exact hne4
          · rw [h]; intro e; injection e with e; have := B4'.lt; simp at e; omega
    · have : i = L := by omega
      subst this
      go_wp2_with fail
      go_ret
      exact ⟨_, _, rfl, ho, hbw⟩
end Go.Proofs.YthbodpjkckminaaGreatDoor

namespace Go.Proofs.YthbodpjkckminaaGreatDoor
open Go.RowKit

theorem stoodCn : Tryz.prog.stoodInHeld 26 = false := by kernel_rfl
theorem fieldsCn : Tryz.prog.underlying 26 = some (.struct (Tryz.prog.fieldsOf 26)) := by kernel_rfl
theorem fieldsCnL : (Tryz.prog.fieldsOf 26).toList.map (fun f => (f.name, f.type, f.offset)) = [("Number", 23, 0), ("Started", 24, 9)] := by kernel_rfl
theorem equalN_self (c : Cn) (w : World) : (Op.equalIn 10000 26 (.agg (cnA c)) (.agg (cnA c))).run Tryz.prog w = .ok true w := by
  rw [run_equalIn_struct w 9999 26 _ _ fieldsCn stoodCn, eqFields_map _ _ _ _ _ fieldsCnL]
  have a1 : ∀ w, (isAgg 23).run Tryz.prog w = .ok true w := fun w => by kernel_rfl
  have a2 : ∀ w, (isAgg 24).run Tryz.prog w = .ok true w := fun w => by kernel_rfl
  have s1 : ∀ w, (sizeOf 23).run Tryz.prog w = .ok 9 w := fun w => by kernel_rfl
  have s2 : ∀ w, (sizeOf 24).run Tryz.prog w = .ok 9 w := fun w => by kernel_rfl
  have p1 : ∀ w, (part 23 (cnA c) 0).run Tryz.prog w = .ok (.agg (cnN c).toArray) w := fun w => by
    simp only [part, Sem.run_bind, a1, Result.andThen_ok, if_true, s1, Sem.run_pure]; rfl
  have p2 : ∀ w, (part 24 (cnA c) 9).run Tryz.prog w = .ok (.agg #[.bool (c 0).2, .bool (c 1).2, .bool (c 2).2, .bool (c 3).2, .bool (c 4).2, .bool (c 5).2, .bool (c 6).2, .bool (c 7).2, .bool (c 8).2]) w := fun w => by
    simp only [part, Sem.run_bind, a2, Result.andThen_ok, if_true, s2, Sem.run_pure]; rfl
  have i1 : ∀ w, (isAgg 3).run Tryz.prog w = .ok false w := fun w => by kernel_rfl
  have i2 : ∀ w, (isAgg 4).run Tryz.prog w = .ok false w := fun w => by kernel_rfl
  have e1 : ∀ w, (Op.equalIn 9999 23 (.agg (cnN c).toArray) (.agg (cnN c).toArray)).run Tryz.prog w = .ok true w := fun w => by
    have := run_equalIn_array w 9998 23 3 9 1 Tryz.underlying23 (fun w => by kernel_rfl) (cnN c).toArray (cnN c).toArray (fun _ => true) (lt9 (p := fun i => ∃ a b, (∀ w, (part 3 (cnN c).toArray (i * 1)).run Tryz.prog w = .ok a w) ∧ (∀ w, (part 3 (cnN c).toArray (i * 1)).run Tryz.prog w = .ok b w) ∧ ∀ w, (Op.equalIn 9998 3 a b).run Tryz.prog w = .ok true w) ⟨.int .i64 (c 0).1, .int .i64 (c 0).1, fun w => by simp [part, i1, cnN], fun w => by simp [part, i1, cnN], fun w => by rw [run_equalIn_int w 9997 3 .i64 .i64 _ _ Tryz.underlying3]; simp⟩ ⟨.int .i64 (c 1).1, .int .i64 (c 1).1, fun w => by simp [part, i1, cnN], fun w => by simp [part, i1, cnN], fun w => by rw [run_equalIn_int w 9997 3 .i64 .i64 _ _ Tryz.underlying3]; simp⟩ ⟨.int .i64 (c 2).1, .int .i64 (c 2).1, fun w => by simp [part, i1, cnN], fun w => by simp [part, i1, cnN], fun w => by rw [run_equalIn_int w 9997 3 .i64 .i64 _ _ Tryz.underlying3]; simp⟩ ⟨.int .i64 (c 3).1, .int .i64 (c 3).1, fun w => by simp [part, i1, cnN], fun w => by simp [part, i1, cnN], fun w => by rw [run_equalIn_int w 9997 3 .i64 .i64 _ _ Tryz.underlying3]; simp⟩ ⟨.int .i64 (c 4).1, .int .i64 (c 4).1, fun w => by simp [part, i1, cnN], fun w => by simp [part, i1, cnN], fun w => by rw [run_equalIn_int w 9997 3 .i64 .i64 _ _ Tryz.underlying3]; simp⟩ ⟨.int .i64 (c 5).1, .int .i64 (c 5).1, fun w => by simp [part, i1, cnN], fun w => by simp [part, i1, cnN], fun w => by rw [run_equalIn_int w 9997 3 .i64 .i64 _ _ Tryz.underlying3]; simp⟩ ⟨.int .i64 (c 6).1, .int .i64 (c 6).1, fun w => by simp [part, i1, cnN], fun w => by simp [part, i1, cnN], fun w => by rw [run_equalIn_int w 9997 3 .i64 .i64 _ _ Tryz.underlying3]; simp⟩ ⟨.int .i64 (c 7).1, .int .i64 (c 7).1, fun w => by simp [part, i1, cnN], fun w => by simp [part, i1, cnN], fun w => by rw [run_equalIn_int w 9997 3 .i64 .i64 _ _ Tryz.underlying3]; simp⟩ ⟨.int .i64 (c 8).1, .int .i64 (c 8).1, fun w => by simp [part, i1, cnN], fun w => by simp [part, i1, cnN], fun w => by rw [run_equalIn_int w 9997 3 .i64 .i64 _ _ Tryz.underlying3]; simp⟩)
    rw [show ((List.range 9).all fun _ => true) = true by decide] at this
    exact this
  have e2 : ∀ w, (Op.equalIn 9999 24 (.agg #[.bool (c 0).2, .bool (c 1).2, .bool (c 2).2, .bool (c 3).2, .bool (c 4).2, .bool (c 5).2, .bool (c 6).2, .bool (c 7).2, .bool (c 8).2]) (.agg #[.bool (c 0).2, .bool (c 1).2, .bool (c 2).2, .bool (c 3).2, .bool (c 4).2, .bool (c 5).2, .bool (c 6).2, .bool (c 7).2, .bool (c 8).2])).run Tryz.prog w = .ok true w := fun w => by
    have := run_equalIn_array w 9998 24 4 9 1 Tryz.underlying24 (fun w => by kernel_rfl) #[.bool (c 0).2, .bool (c 1).2, .bool (c 2).2, .bool (c 3).2, .bool (c 4).2, .bool (c 5).2, .bool (c 6).2, .bool (c 7).2, .bool (c 8).2] #[.bool (c 0).2, .bool (c 1).2, .bool (c 2).2, .bool (c 3).2, .bool (c 4).2, .bool (c 5).2, .bool (c 6).2, .bool (c 7).2, .bool (c 8).2] (fun _ => true) (lt9 (p := fun i => ∃ a b, (∀ w, (part 4 #[.bool (c 0).2, .bool (c 1).2, .bool (c 2).2, .bool (c 3).2, .bool (c 4).2, .bool (c 5).2, .bool (c 6).2, .bool (c 7).2, .bool (c 8).2] (i * 1)).run Tryz.prog w = .ok a w) ∧ (∀ w, (part 4 #[.bool (c 0).2, .bool (c 1).2, .bool (c 2).2, .bool (c 3).2, .bool (c 4).2, .bool (c 5).2, .bool (c 6).2, .bool (c 7).2, .bool (c 8).2] (i * 1)).run Tryz.prog w = .ok b w) ∧ ∀ w, (Op.equalIn 9998 4 a b).run Tryz.prog w = .ok true w) ⟨.bool (c 0).2, .bool (c 0).2, fun w => by simp [part, i2], fun w => by simp [part, i2], fun w => by rw [run_equalIn_bool' w 9997 4 _ _ Tryz.underlying4]; simp⟩ ⟨.bool (c 1).2, .bool (c 1).2, fun w => by simp [part, i2], fun w => by simp [part, i2], fun w => by rw [run_equalIn_bool' w 9997 4 _ _ Tryz.underlying4]; simp⟩ ⟨.bool (c 2).2, .bool (c 2).2, fun w => by simp [part, i2], fun w => by simp [part, i2], fun w => by rw [run_equalIn_bool' w 9997 4 _ _ Tryz.underlying4]; simp⟩ ⟨.bool (c 3).2, .bool (c 3).2, fun w => by simp [part, i2], fun w => by simp [part, i2], fun w => by rw [run_equalIn_bool' w 9997 4 _ _ Tryz.underlying4]; simp⟩ ⟨.bool (c 4).2, .bool (c 4).2, fun w => by simp [part, i2], fun w => by simp [part, i2], fun w => by rw [run_equalIn_bool' w 9997 4 _ _ Tryz.underlying4]; simp⟩ ⟨.bool (c 5).2, .bool (c 5).2, fun w => by simp [part, i2], fun w => by simp [part, i2], fun w => by rw [run_equalIn_bool' w 9997 4 _ _ Tryz.underlying4]; simp⟩ ⟨.bool (c 6).2, .bool (c 6).2, fun w => by simp [part, i2], fun w => by simp [part, i2], fun w => by rw [run_equalIn_bool' w 9997 4 _ _ Tryz.underlying4]; simp⟩ ⟨.bool (c 7).2, .bool (c 7).2, fun w => by simp [part, i2], fun w => by simp [part, i2], fun w => by rw [run_equalIn_bool' w 9997 4 _ _ Tryz.underlying4]; simp⟩ ⟨.bool (c 8).2, .bool (c 8).2, fun w => by simp [part, i2], fun w => by simp [part, i2], fun w => by rw [run_equalIn_bool' w 9997 4 _ _ Tryz.underlying4]; simp⟩)
    rw [show ((List.range 9).all fun _ => true) = true by decide] at this
    exact this
  simp only [List.foldr_cons, List.foldr_nil, Sem.run_bind, Sem.run_ite, p1, p2, e1, e2, Result.andThen_ok]
  simp
theorem equalN_list {l l' : List Value} {x : Cn} (h : l = cnL x) (h' : l' = cnL x) (w : World) : (Op.equalIn 10000 26 (.agg l.toArray) (.agg l'.toArray)).run Tryz.prog w = .ok true w := by
  subst h; subst h'; exact equalN_self x w
theorem boxes_st2 (w : World) (D : Array Value) (x y : Value) : Blk ((w.alloc (.cells D 26)).alloc (.cells #[x, y] 27)) w.heap.size 26 D
    ∧ Blk ((w.alloc (.cells D 26)).alloc (.cells #[x, y] 27)) (w.heap.size + 1) 27 #[x, y]
    ∧ Below w.heap.size w ((w.alloc (.cells D 26)).alloc (.cells #[x, y] 27)) := by
  have B2 := (Blk.new w 26 D).alloc (.cells #[x, y] 27)
  have B3 := Blk.new (w.alloc (.cells D 26)) 27 #[x, y]
  simp only [World.size_alloc] at B3
  exact ⟨B2, B3, ((alloc1 w _).alloc (by simp) _)⟩
structure StV (w : World) (p4 p5 : Nat) (c : Cn) (a0 a1 : Int) (v : World) : Prop where
  b4 : Blk v p4 26 (cnA c)
  b5 : Blk v p5 27 #[.int .i64 a0, .int .i64 a1]
  bel : Below w.heap.size w v
theorem StV.below {w v v' : World} {p4 p5 : Nat} {c : Cn} {a0 a1 : Int} (h : StV w p4 p5 c a0 a1 v) (hb : Below v.heap.size v v') : StV w p4 p5 c a0 a1 v' := ⟨h.b4.below hb, h.b5.below hb, below_trans' h.bel h.bel.size hb⟩
def StPost (w : World) (e : Ending) (w' : World) : Prop := e = .returned (.bool true) ∧ Below w.heap.size w w'
set_option maxHeartbeats 16000000 in
set_option maxRecDepth 100000 in
theorem steps_law (A : Option Addr) (n cA : Nat) (ls : List Lv) (c : Cn) (a0 a1 : Int) (w : World) (hg : Gl w) (ha : Sl w 4 lvC A n ls) (hcap : n ≤ cA) (hm : n ≤ 9223372036854775807) :
    Calls Tryz.prog 3 #[.slice A n cA, .agg (cnA c), .agg #[.int .i64 a0, .int .i64 a1]] w (StPost w) := by
  have hln := ha.len
  have cK := Lib.hid (fun W (hb : Below w.heap.size w W) => known_any W (hg.below hb))
  have cN := Lib.hid (fun W (hb : Below w.heap.size w W) => next_any A n cA ls c a0 a1 W (ha.below hb))
  have cS := Lib.hid (fun W (hb : Below w.heap.size w W) => shown_any A n cA ls c a0 W (ha.below hb) hcap)
  have cC := Lib.hid (fun W (hb : Below w.heap.size w W) => checkLevels_any A n cA ls W (ha.below hb))
  have HX := Lib.hid (boxes_st2 w (cnA c) (.int .i64 a0) (.int .i64 a1))
  have HP := Lib.hid (show ∀ e w', (e = .returned (.bool true) ∧ Below w.heap.size w w') → StPost w e w' from fun _ _ h => h)
  have HLN := Lib.hid hln
  clear hln
  go_enter Tryz.func3, Tryz.ntmps3
  go_upto_region 0 with fail
  go_cut [4, 5, 6] (fun v4 v5 v6 wx => ∃ p4 p5, v4 = .pointer (some ⟨p4, 0, none⟩) ∧ v5 = .pointer (some ⟨p5, 0, none⟩) ∧ v6 = .bool false ∧ StV w p4 p5 c a0 a1 wx)
  case first =>
    go_wp2_with fail
    go_meet
    case rel => exact ⟨_, _, rfl, rfl, rfl, HX.out.1, HX.out.2.1, HX.out.2.2⟩
  case rest =>
  obtain ⟨p4, p5, rfl, rfl, rfl, X⟩ := hcut
  clear HX
  generalize wc = w1 at *
  have cK1 := cK.out w1 X.bel
  by_cases h12 : 12 < n
  · have h12' : (12 : Int) < n := by omega
    go_upto_region 2 with (go_at_call 8; refine cK1.mono ?_; rintro e w2 ⟨rfl, hb2⟩)
    have X := X.below hb2
    have cK2 := cK.out w2 X.bel
    go_wp2_with (go_at_call 8; refine cK2.mono ?_; rintro e w3 ⟨rfl, hb3⟩)
    go_ret
    exact HP.out _ _ ⟨rfl, (X.below hb3).bel⟩
  have h12' : ¬ (12 : Int) < n := by omega
  go_upto_region 3 with (go_at_call 8; refine cK1.mono ?_; rintro e w2 ⟨rfl, hb2⟩)
  have X2 := X.below hb2
  clear cK1 X hb2
  go_wp2_with fail
  go_loop [7] (fun vi => ∃ i : Nat, vi = .int .i64 i ∧ i ≤ n) (fun vi => n - (intOf vi).toNat)
  case atStart => exact ⟨0, rfl, Nat.zero_le _⟩
  case round =>
    obtain ⟨i, rfl, hi⟩ := hrel
    by_cases hlt : i < n
    · obtain ⟨ad, e, hl2, _, _, k2, _⟩ := (ha.below X2.bel).lv hlt
      subst e
      have hlt' : (i : Int) < n := by omega
      by_cases h2 : 200 < (gL ls i).text.size
      · have h2' : (200 : Int) < (gL ls i).text.size := by omega
        go_wp2_with fail
        go_ret
        exact HP.out _ _ ⟨rfl, X2.bel⟩
      · have h2' : ¬ (200 : Int) < (gL ls i).text.size := by omega
        go_wp2_with fail
        go_round
        case rel => exact ⟨i + 1, by simp, by omega⟩
        case measure => simp [intOf]; omega
    · have hin : i = n := by omega
      subst hin
      have cN := cN.out w2 X2.bel
      have C4 := X2.b4
      unfold Blk at C4
      have k0 := X2.b5.cell 0 rfl
      have k1 := X2.b5.cell 1 rfl
      go_upto_region 8 with fail
      go_cut [8, 9] (fun v8 v9 wx => ∃ p8, v8 = .pointer (some ⟨p8, 0, none⟩) ∧ v9 = .int .i64 (nxE ls i c a0 a1) ∧ Blk wx p8 26 (cnA (nxF ls i c a0 a1)) ∧ Below w2.heap.size w2 wx)
      case first =>
        go_wp2_with (first | (go_at_call 9; refine cN.mono ?_; rintro e w4 ⟨rfl, hb4⟩; have NZ := Blk.new w4 26 (cnA cnZ); obtain ⟨BX, hBX⟩ := boxed_g w4 26 (cnA cnZ) (cnA (nxF ls i c a0 a1)); have HX := Lib.hid (And.intro BX (below_trans' hb4 hb4.size hBX)); clear BX hBX hb4) | (refine wpList_load_row rfl 26 _ rfl p4 rfl 26 _ (0, 0) _ C4 Tryz.underlying26 rfl (by kernel_rfl) ?_) | (refine wpList_store_row rfl 26 _ _ rfl w4.heap.size (cnA (nxF ls i c a0 a1)) rfl rfl 26 (cnA cnZ) NZ (by kernel_rfl) rfl (cnA_one _) ?_))
        go_meet
        case rel => exact ⟨_, rfl, rfl, HX.out.1, HX.out.2⟩
      case rest =>
      obtain ⟨p8, rfl, rfl, B8, hb8⟩ := hcut
      have X := X2.below hb8
      clear C4 k0 k1 X2 hb8 cN
      generalize wc = w5 at *
      have C4 := X.b4
      unfold Blk at C4
      have k0 := X.b5.cell 0 rfl
      have cS := cS.out w5 X.bel
      unfold ShownPost at cS
      go_upto_region 10 with (first | (go_at_call 10; refine cS.mono ?_; rintro e w6 ⟨B, k, cB, rfl, hOK, hNO, hb6⟩) | (refine wpList_load_row rfl 26 _ rfl p4 rfl 26 _ (0, 0) _ C4 Tryz.underlying26 rfl (by kernel_rfl) ?_))
      have B8 := B8.below hb6
      have X := X.below hb6
      clear C4 k0 cS hb6
      have cC := cC.out w6 X.bel
      go_upto_region 11 with (go_at_call 11; refine cC.mono ?_; rintro e w7 ⟨rfl, hb7⟩)
      have B8 := B8.below hb7
      have X := X.below hb7
      have hgc : Tryz.prog.eqGuardType Tryz.prog.depth 26 = false := by kernel_rfl
      obtain ⟨Z, hZ⟩ : ∃ Z, Z = cnA cnZ := ⟨_, rfl⟩
      have HZ := Lib.hid hZ
      clear hZ
      have qz : ∀ W, (Op.equalIn 10000 26 (.agg Z) (.agg Z)).run Tryz.prog W = .ok true W := fun W => by rw [HZ.out]; exact equalN_self cnZ W
      by_cases hck : ckE ls i a0 = 0
      · obtain ⟨hcl, h1, hai, h9⟩ := ckE_ok HLN.out hck
        obtain ⟨hkL, oB⟩ := hOK hck
        have oB := oB.below hb7
        obtain ⟨L, hL⟩ : ∃ L : Nat, a0 = (L : Int) + 1 := ⟨(a0 - 1).toNat, by omega⟩
        subst hL
        obtain rfl : k = L + 1 := by omega
        have hxe : nxE ls i c ((L : Int) + 1) a1 = if a1 < 0 ∨ 32767 < a1 then 5 else if ovB c = true then 29 else 0 := if_neg (fun h => h hck)
        have hxf : nxF ls i c ((L : Int) + 1) a1 = if nxE ls i c ((L : Int) + 1) a1 = 0 then nextC ls i c ((L : Int) + 1 - 1).toNat a1 else cnZ := rfl
        rw [show ((L : Int) + 1 - 1).toNat = L by omega] at hxf
        have cH := lshown_any A i cA ls c (L + 1) w7 (ha.below X.bel) h9 (by omega)
        rw [show ((L + 1 : Nat) : Int) = (L : Int) + 1 by omega] at cH
        rw [hck, hcl]
        have HXE := Lib.hid hxe
        have HXF := Lib.hid hxf
        clear hOK hNO hb7 cC hkL hck hcl hxe hxf
        generalize nxE ls i c ((L : Int) + 1) a1 = xe at *
        generalize nxF ls i c ((L : Int) + 1) a1 = xf at *
        generalize numsF ls c (L + 1) = ns at *
        have C4 := X.b4
        unfold Blk at C4
        have k0 := X.b5.cell 0 rfl
        go_upto_region 16 with (first | (go_at_call 12; refine cH.mono ?_; rintro e w8 ⟨B2, cB2, rfl, o2, hb8⟩) | (refine wpList_load_row rfl 26 _ rfl p4 rfl 26 _ (0, 0) _ C4 Tryz.underlying26 rfl (by kernel_rfl) ?_))
        have B8 := B8.below hb8
        have X := X.below hb8
        have oB := oB.below hb8
        clear C4 k0 cH hb8
        go_wp2_with fail
        go_loopw [14] (fun vi wr => ∃ j : Nat, vi = .int .i64 j ∧ j ≤ L + 1 ∧ Below w8.heap.size w8 wr) (fun vi _ => L + 1 - (intOf vi).toNat)
        case atStart => exact ⟨0, rfl, Nat.zero_le _, Below.refl _ _⟩
        case round =>
          obtain ⟨j, rfl, hj, hbj⟩ := hrel
          by_cases hjl : j < L + 1
          · obtain ⟨g1, e1, _, _, q1⟩ := (oB.below hbj).int hjl
            obtain ⟨g2, e2, _, _, q2⟩ := (o2.below hbj).int hjl
            subst e1 e2
            have hjl' : (j : Int) < (L : Int) + 1 := by omega
            generalize gI ns j = v at *
            go_upto_region 21 with fail
            go_quiet (fail)
            go_wp2_with fail
            go_roundw
            case rel => exact ⟨j + 1, by simp, by omega, below_drewN hbj _⟩
            case measure => rw [intOf, intOf]; omega
          · have hje : j = L + 1 := by omega
            subst hje
            have X := X.below hbj
            have B8 := B8.below hbj
            clear hbj oB o2
            have k1 := X.b5.cell 1 rfl
            by_cases hr : a1 < 0 ∨ 32767 < a1
            · have hxe := HXE.out.trans (if_pos hr)
              have hxf := HXF.out
              rw [hxe, if_neg (by decide)] at hxf
              rw [hxf, ← HZ.out] at B8
              have C8 := B8
              unfold Blk at C8
              subst hxe
              clear HXE HXF hxf
              rcases (show a1 < 0 ∨ (¬ a1 < 0 ∧ 32767 < a1) by omega) with h | ⟨h, h'⟩
              all_goals
                clear hr
                go_upto_region 24 with fail
                refine wp_region_lit ?_
                refine wpList_load_row rfl 26 _ rfl p8 rfl 26 _ (0, 0) _ C8 Tryz.underlying26 rfl (by rw [HZ.out]; kernel_rfl) ?_
                try simp only [Act.put, List.setIfInBounds_toArray, List.set_cons_zero, List.set_cons_succ]
                refine wpl_val (.agg Z) wr (by rfl) (by rw [HZ.out]; kernel_rfl) ?_
                try simp only [Act.put, List.setIfInBounds_toArray, List.set_cons_zero, List.set_cons_succ]
                refine wpl_val (.bool true) wr (by rfl) (by go_simp) ?_
                try simp only [Act.put, List.setIfInBounds_toArray, List.set_cons_zero, List.set_cons_succ]
                go_wp2_with fail
                go_ret
                exact HP.out _ _ ⟨rfl, X.bel⟩
            · have hr1 : ¬ a1 < 0 := fun h => hr (.inl h)
              have hr2 : ¬ 32767 < a1 := fun h => hr (.inr h)
              have HXE := Lib.hid (HXE.out.trans (if_neg hr))
              clear hr
              go_wp2_with fail
              go_loop [15] (fun vi => ∃ j : Nat, vi = .int .i64 j ∧ j ≤ 9 ∧ ∀ t, t < j → ¬ ((c t).1 < 0 ∨ 1099511627776 < (c t).1)) (fun vi => 9 - (intOf vi).toNat)
              case atStart => exact ⟨0, rfl, Nat.zero_le _, fun t ht => absurd ht (Nat.not_lt_zero _)⟩
              case round =>
                obtain ⟨j, rfl, hj9, hall⟩ := hrel
                have HA := Lib.hid hall
                clear hall
                by_cases hj : j < 9
                · obtain ⟨z0, _⟩ := X.b4.cn hj
                  have hj' : (j : Int) < 9 := by omega
                  by_cases hb : (c j).1 < 0 ∨ 1099511627776 < (c j).1
                  · have hxe := HXE.out.trans (if_pos (ovB_at hj hb))
                    have hxf := HXF.out
                    rw [hxe, if_neg (by decide)] at hxf
                    rw [hxf, ← HZ.out] at B8
                    have C8 := B8
                    unfold Blk at C8
                    subst hxe
                    clear HXE HXF hxf
                    generalize (c j).1 = cj at *
                    rcases (show cj < 0 ∨ (¬ cj < 0 ∧ 1099511627776 < cj) by omega) with h | ⟨h, h'⟩
                    all_goals
                      clear hb
                      go_upto_region 29 with fail
                      refine wp_region_lit ?_
                      refine wpList_load_row rfl 26 _ rfl p8 rfl 26 _ (0, 0) _ C8 Tryz.underlying26 rfl (by rw [HZ.out]; kernel_rfl) ?_
                      try simp only [Act.put, List.setIfInBounds_toArray, List.set_cons_zero, List.set_cons_succ]
                      refine wpl_val (.agg Z) wr (by rfl) (by rw [HZ.out]; kernel_rfl) ?_
                      try simp only [Act.put, List.setIfInBounds_toArray, List.set_cons_zero, List.set_cons_succ]
                      refine wpl_val (.bool true) wr (by rfl) (by go_simp) ?_
                      try simp only [Act.put, List.setIfInBounds_toArray, List.set_cons_zero, List.set_cons_succ]
                      go_wp2_with fail
                      go_ret
                      exact HP.out _ _ ⟨rfl, X.bel⟩
                  · have hn1 : ¬ (c j).1 < 0 := fun h => hb (.inl h)
                    have hn2 : ¬ 1099511627776 < (c j).1 := fun h => hb (.inr h)
                    have HBJ := Lib.hid hb
                    clear hb
                    go_wp2_with fail
                    go_round
                    case rel => exact ⟨j + 1, by simp, by omega, fun t ht => by
                      rcases (show t < j ∨ t = j by omega) with h | rfl
                      · exact HA.out t h
                      · exact HBJ.out⟩
                    case measure => simp [intOf]; omega
                · have hj9 : j = 9 := by omega
                  subst hj9
                  have hov := ovB_no HA.out
                  have hxe := HXE.out.trans (if_neg (by rw [hov]; simp))
                  have hxf := HXF.out.trans (if_pos hxe)
                  have hcL := HA.out L (by omega)
                  rw [hxf] at B8
                  subst hxe
                  clear HXE HXF hov hj hxf qz
                  have cX := lnext_any A i cA ls c 1099511627776 L a1 wr.drew (ha.below (bDrew X.bel)) h9 (by omega) (by omega) (Int.le_refl _)
                  obtain ⟨ly, hly⟩ : ∃ ly, ly = cnL (nextC ls i c L a1) := ⟨_, rfl⟩
                  obtain ⟨lc, hlc⟩ : ∃ lc, lc = cnL c := ⟨_, rfl⟩
                  have B4 := X.b4
                  rw [cnA_L (nextC ls i c L a1), ← hly] at cX B8
                  rw [cnA_L c, ← hlc] at cX B4
                  have qy : ∀ W, (Op.equalIn 10000 26 (.agg ly.toArray) (.agg ly.toArray)).run Tryz.prog W = .ok true W := fun W => equalN_list hly hly W
                  have sy : (Tryz.prog.info? 26).map (·.size) = some ly.length := by rw [hly]; exact size48
                  have sc : (Tryz.prog.info? 26).map (·.size) = some lc.length := by rw [hlc]; exact size48
                  have HLY := Lib.hid hly
                  have HLC := Lib.hid hlc
                  clear hly hlc
                  have r8 := Blk.rng B8
                  have r4 := Blk.rng B4
                  have k0 := X.b5.cell 0 rfl
                  have k1 := X.b5.cell 1 rfl
                  clear hcL
                  go_upto_region 30 with fail
                  refine wp_region_held_drew (S := fun w' => w'.rangeAt p8 0 ly ∧ w'.rangeAt p4 0 lc ∧ w'.cell? ⟨p5, 0, none⟩ = some (.int .i64 ((L : Int) + 1)) ∧ w'.cell? ⟨p5, 1, none⟩ = some (.int .i64 a1)) (by kernel_rfl) ⟨r8, r4, k0, k1⟩ (fun hHeld => ?_)
                  refine hx_take 0 (some 158) (.agg ly.toArray) rfl (by kernel_rfl) (by kernel_rfl) (by kernel_rfl) (fun _ _ _ h => h) rfl (yieldsIf_load_mid (by rfl) _ _ rfl p8 0 rfl ly _ (fun w hSw => hSw.1) Tryz.underlying26 rfl sy) (by assumption) ?_
                  try simp only [Act.put, List.setIfInBounds_toArray, List.set_cons_zero, List.set_cons_succ]
                  refine hx_take 1 (some 159) _ rfl (by kernel_rfl) (by kernel_rfl) (by kernel_rfl) (fun _ _ _ h => h) rfl (Or.inl ⟨by rfl, fun w hSw => by first | (go_simp; done) | (go_simp; with_reducible rfl) | (go_simp; rfl)⟩) (by assumption) ?_
                  try simp only [Act.put, List.setIfInBounds_toArray, List.set_cons_zero, List.set_cons_succ]
                  refine hx_take 2 (some 160) (.agg lc.toArray) rfl (by kernel_rfl) (by kernel_rfl) (by kernel_rfl) (fun _ _ _ h => h) rfl (yieldsIf_load_mid (by rfl) _ _ rfl p4 0 rfl lc _ (fun w hSw => hSw.2.1) Tryz.underlying26 rfl sc) (by assumption) ?_
                  try simp only [Act.put, List.setIfInBounds_toArray, List.set_cons_zero, List.set_cons_succ]
                  refine hx_take 3 (some 161) _ rfl (by kernel_rfl) (by kernel_rfl) (by kernel_rfl) (fun _ _ _ h => h) rfl (Or.inl ⟨by rfl, fun w hSw => by first | (go_simp; done) | (go_simp; with_reducible rfl) | (go_simp; rfl)⟩) (by assumption) ?_
                  try simp only [Act.put, List.setIfInBounds_toArray, List.set_cons_zero, List.set_cons_succ]
                  refine hx_take 5 (some 163) _ rfl (by kernel_rfl) (by kernel_rfl) (by kernel_rfl) (fun _ _ _ h => h) rfl (Or.inl ⟨by rfl, fun w hSw => by first | (go_simp; done) | (go_simp; with_reducible rfl) | (go_simp; rfl)⟩) (by assumption) ?_
                  try simp only [Act.put, List.setIfInBounds_toArray, List.set_cons_zero, List.set_cons_succ]
                  refine hx_take 4 (some 162) _ rfl (by kernel_rfl) (by kernel_rfl) (by kernel_rfl) (fun _ _ _ h => h) rfl (Or.inl ⟨by rfl, fun w hSw => by first | (go_simp; done) | (go_simp; with_reducible rfl) | (go_simp; rfl)⟩) (by assumption) ?_
                  try simp only [Act.put, List.setIfInBounds_toArray, List.set_cons_zero, List.set_cons_succ]
                  refine hx_take 6 (some 164) _ rfl (by kernel_rfl) (by kernel_rfl) (by kernel_rfl) (fun _ _ _ h => h) rfl (Or.inl ⟨by rfl, fun w hSw => by first | (go_simp; done) | (go_simp; with_reducible rfl) | (go_simp; rfl)⟩) (by assumption) ?_
                  try simp only [Act.put, List.setIfInBounds_toArray, List.set_cons_zero, List.set_cons_succ]
                  refine hx1 7 (by kernel_rfl) ?_
                  refine hx_call 7 (some 165) _ _ (.agg ly.toArray) _ rfl (by rfl) rfl (by first | (go_simp; done) | (go_simp; rfl)) cX ?_
                  rintro w9 hb9
                  have hS9 : w9.rangeAt p8 0 ly ∧ w9.rangeAt p4 0 lc ∧ w9.cell? ⟨p5, 0, none⟩ = some (.int .i64 ((L : Int) + 1)) ∧ w9.cell? ⟨p5, 1, none⟩ = some (.int .i64 a1) := ⟨fun j u hu => keepC hb9 (r8 j u hu), fun j u hu => keepC hb9 (r4 j u hu), keepC hb9 k0, keepC hb9 k1⟩
                  refine ⟨hS9, ?_⟩
                  try simp only [Act.put, List.setIfInBounds_toArray, List.set_cons_zero, List.set_cons_succ]
                  refine hx_take 8 (some 166) _ rfl (by kernel_rfl) (by kernel_rfl) (by kernel_rfl) (fun _ _ _ h => h) rfl (Or.inl ⟨by rfl, fun w hSw => by first | (go_simp; done) | (go_simp; with_reducible rfl) | (go_simp; rfl)⟩) (by assumption) ?_
                  try simp only [Act.put, List.setIfInBounds_toArray, List.set_cons_zero, List.set_cons_succ]
                  refine hx_take 9 (some 167) _ rfl (by kernel_rfl) (by kernel_rfl) (by kernel_rfl) (fun _ _ _ h => h) rfl (Or.inl ⟨by rfl, fun w hSw => by first | (go_simp; done) | (go_simp; with_reducible rfl) | (go_simp; rfl)⟩) (by assumption) ?_
                  try simp only [Act.put, List.setIfInBounds_toArray, List.set_cons_zero, List.set_cons_succ]
                  refine hx_take 10 (some 168) _ rfl (by kernel_rfl) (by kernel_rfl) (by kernel_rfl) (fun _ _ _ h => h) rfl (Or.inl ⟨by rfl, fun w hSw => by first | (go_simp; done) | (go_simp; with_reducible rfl) | (go_simp; rfl)⟩) (by assumption) ?_
                  try simp only [Act.put, List.setIfInBounds_toArray, List.set_cons_zero, List.set_cons_succ]
                  refine hx_take 11 (some 169) _ rfl (by kernel_rfl) (by kernel_rfl) (by kernel_rfl) (fun _ _ _ h => h) rfl (Or.inl ⟨by rfl, fun w hSw => by first | (go_simp; done) | (go_simp; with_reducible rfl) | (go_simp; rfl)⟩) (by assumption) ?_
                  try simp only [Act.put, List.setIfInBounds_toArray, List.set_cons_zero, List.set_cons_succ]
                  refine hx_take 12 (some 170) _ rfl (by kernel_rfl) (by kernel_rfl) (by kernel_rfl) (fun _ _ _ h => h) rfl (Or.inl ⟨by rfl, fun w hSw => by first | (go_simp; done) | (go_simp; with_reducible rfl) | (go_simp; rfl)⟩) (by assumption) ?_
                  try simp only [Act.put, List.setIfInBounds_toArray, List.set_cons_zero, List.set_cons_succ]
                  refine hx_take 13 (some 6) _ rfl (by kernel_rfl) (by kernel_rfl) (by kernel_rfl) (fun _ _ _ h => h) rfl (Or.inl ⟨by rfl, fun w hSw => by first | (go_simp; done) | (go_simp; with_reducible rfl) | (go_simp; rfl)⟩) (by assumption) ?_
                  try simp only [Act.put, List.setIfInBounds_toArray, List.set_cons_zero, List.set_cons_succ]
                  refine wpAnyH_done (by kernel_rfl) ?_ _
                  have HB := Lib.hid (below_trans' (bDrew X.bel) (bDrew X.bel).size hb9)
                  clear hS9 hb9
                  go_wp2_with fail
                  go_ret
                  exact HP.out _ _ ⟨rfl, HB.out⟩
      · obtain ⟨rfl, rfl, rfl⟩ := hNO hck
        have hxe : nxE ls i c a0 a1 = ckE ls i a0 := if_pos hck
        have hxf : nxF ls i c a0 a1 = cnZ := if_neg (by rw [hxe]; exact hck)
        rw [hxf, ← HZ.out] at B8
        rw [hxe]
        have C8 := B8
        unfold Blk at C8
        have k0 := X.b5.cell 0 rfl
        have hce : ckE ls i a0 = if clE ls ≠ 0 then clE ls else if a0 < 1 ∨ (i : Int) < a0 then 2 else 0 := rfl
        clear hOK hNO hb7 cC hxe hxf
        by_cases hcl : clE ls = 0
        · have hr : a0 < 1 ∨ (i : Int) < a0 := by
            rcases Classical.em (a0 < 1 ∨ (i : Int) < a0) with h | h
            · exact h
            · rw [if_neg (by simpa using hcl), if_neg h] at hce; exact absurd hce hck
          rw [if_neg (by simpa using hcl), if_pos hr] at hce
          rw [hce, hcl]
          clear hce hck hcl
          rcases (show a0 < 1 ∨ (1 ≤ a0 ∧ (i : Int) < a0) by omega) with h | ⟨h, h'⟩
          all_goals
            go_upto_region 14 with fail
            refine wp_region_lit ?_
            refine wpList_load_row rfl 26 _ rfl p8 rfl 26 _ (0, 0) _ C8 Tryz.underlying26 rfl (by rw [HZ.out]; kernel_rfl) ?_
            try simp only [Act.put, List.setIfInBounds_toArray, List.set_cons_zero, List.set_cons_succ]
            refine wpl_val (.agg Z) w7 (by rfl) (by rw [HZ.out]; kernel_rfl) ?_
            try simp only [Act.put, List.setIfInBounds_toArray, List.set_cons_zero, List.set_cons_succ]
            refine wpl_val (.bool true) w7 (by rfl) (by go_simp) ?_
            try simp only [Act.put, List.setIfInBounds_toArray, List.set_cons_zero, List.set_cons_succ]
            go_wp2_with fail
            go_ret
            exact HP.out _ _ ⟨rfl, X.bel⟩
        · rw [if_pos (by simpa using hcl)] at hce
          rw [hce]
          clear hce hck
          have e1 : (clE ls == 0) = false := beq_eq_false_iff_ne.2 hcl
          have e2 : (clE ls != 0) = true := bne_iff_ne.2 hcl
          clear hcl
          generalize clE ls = ce at *
          go_upto_region 14 with fail
          refine wp_region_lit ?_
          refine wpList_load_row rfl 26 _ rfl p8 rfl 26 _ (0, 0) _ C8 Tryz.underlying26 rfl (by rw [HZ.out]; kernel_rfl) ?_
          try simp only [Act.put, List.setIfInBounds_toArray, List.set_cons_zero, List.set_cons_succ]
          refine wpl_val (.agg Z) w7 (by rfl) (by rw [HZ.out]; kernel_rfl) ?_
          try simp only [Act.put, List.setIfInBounds_toArray, List.set_cons_zero, List.set_cons_succ]
          refine wpl_val (.bool true) w7 (by rfl) (by go_simp) ?_
          try simp only [Act.put, List.setIfInBounds_toArray, List.set_cons_zero, List.set_cons_succ]
          go_wp2_with fail
          go_ret
          exact HP.out _ _ ⟨rfl, X.bel⟩
end Go.Proofs.YthbodpjkckminaaGreatDoor
