/- numbering.Next. -/
import Derived.Test.YtjpbmeonkfkgdaaG20
namespace Go.Proofs.Ytjpbmeonkfkgdaa
open Go.RowKit

def ovB (c : Cn) : Bool := (List.range 9).any fun i => decide ((c i).1 < 0) || decide (1099511627776 < (c i).1)
def nxE (ls : List Lv) (n : Nat) (c : Cn) (level r : Int) : Int := if ckE ls n level ≠ 0 then ckE ls n level else if r < 0 ∨ 32767 < r then 5 else if ovB c = true then 29 else 0
def nxF (ls : List Lv) (n : Nat) (c : Cn) (level r : Int) : Cn := if nxE ls n c level r = 0 then nextC ls n c (level - 1).toNat r else cnZ
theorem ovB_at {c : Cn} {i : Nat} (hi : i < 9) (h : (c i).1 < 0 ∨ 1099511627776 < (c i).1) : ovB c = true := by
  unfold ovB
  rw [List.any_eq_true]
  exact ⟨i, List.mem_range.2 hi, by simpa using h⟩
theorem ovB_no {c : Cn} (h : ∀ i, i < 9 → ¬ ((c i).1 < 0 ∨ 1099511627776 < (c i).1)) : ovB c = false := by
  rw [Bool.eq_false_iff]
  intro hh
  unfold ovB at hh
  rw [List.any_eq_true] at hh
  obtain ⟨i, hi, h2⟩ := hh
  exact h i (List.mem_range.1 hi) (by simpa using h2)
def cnN (c : Cn) : List Value := [.int .i64 (c 0).1, .int .i64 (c 1).1, .int .i64 (c 2).1, .int .i64 (c 3).1, .int .i64 (c 4).1, .int .i64 (c 5).1, .int .i64 (c 6).1, .int .i64 (c 7).1, .int .i64 (c 8).1]
theorem cnN_index (c : Cn) : ∀ i, i < 9 → ∀ w, (Instr.index 45 (.agg (cnN c).toArray) (.int .i64 ((i : Nat) : Int))).run Try.prog w = .ok (.int .i64 (c i).1) w :=
  lt9 (p := fun i => ∀ w, (Instr.index 45 (.agg (cnN c).toArray) (.int .i64 ((i : Nat) : Int))).run Try.prog w = .ok (.int .i64 (c i).1) w) (fun w => by kernel_rfl) (fun w => by kernel_rfl) (fun w => by kernel_rfl) (fun w => by kernel_rfl) (fun w => by kernel_rfl) (fun w => by kernel_rfl) (fun w => by kernel_rfl) (fun w => by kernel_rfl) (fun w => by kernel_rfl)
theorem Blk.cnN_ {w : World} {g : Nat} {t : TypeId} {c : Cn} (h : Blk w g t (cnA c)) : w.rangeAt g 0 (cnN c) := fun j v hv => by
  rw [Nat.zero_add]
  refine h.cell j ?_
  have hj : j < 9 := by have := (List.getElem?_eq_some_iff.1 hv).1; simpa [cnN] using this
  have : (cnN c)[j]? = (cnA c)[j]? := (lt9 (p := fun j => (cnN c)[j]? = (cnA c)[j]?) rfl rfl rfl rfl rfl rfl rfl rfl rfl) j hj
  rw [← this]; exact hv
theorem size9 (c : Cn) : (Try.prog.info? 45).map (·.size) = some (cnN c).length := by kernel_rfl
set_option maxHeartbeats 8000000 in
set_option maxRecDepth 100000 in
theorem next_any (A : Option Addr) (n cA : Nat) (ls : List Lv) (c : Cn) (level r : Int) (w : World) (ha : Sl w 4 lvC A n ls) :
    Calls Try.prog 14 #[.slice A n cA, .agg (cnA c), .int .i64 level, .int .i64 r] w fun e w' => e = .returned (.tuple #[.agg (cnA (nxF ls n c level r)), .int .i64 (nxE ls n c level r)]) ∧ Below w.heap.size w w' := by
  have hlen := ha.len
  have T0 := CW.new w c
  have hb0 := ((Below.refl w.heap.size w).alloc (Nat.le_refl _) (.cells (cnA c) 48)).alloc (by simp) (.cells (cnA cnZ) 48)
  have HE := Lib.hid (show nxE ls n c level r = if ckE ls n level ≠ 0 then ckE ls n level else if r < 0 ∨ 32767 < r then 5 else if ovB c = true then 29 else 0 from rfl)
  have HF := Lib.hid (show nxF ls n c level r = if nxE ls n c level r = 0 then nextC ls n c (level - 1).toNat r else cnZ from rfl)
  go_enter Try.func14, Try.ntmps14
  go_upto_region 0 with fail
  go_cut [5, 8, 9] (fun v5 v8 v9 wx => ∃ p5 p8, v5 = .pointer (some ⟨p5, 0, none⟩) ∧ v8 = .pointer (some ⟨p8, 0, none⟩) ∧ v9 = .int .i64 0 ∧ CW wx w.heap.size p5 p8 c ∧ Below w.heap.size w wx)
  case first =>
    go_wp2_with fail
    go_meet
    case rel => exact ⟨_, _, rfl, rfl, rfl, T0, hb0⟩
  case rest =>
  obtain ⟨p5, p8, rfl, rfl, rfl, T1, hb1⟩ := hcut
  clear T0 hb0
  have cc := checked_any A n cA ls level wc (ha.below hb1)
  by_cases hk : ckE ls n level = 0
  · have HE2 := Lib.hid (HE.out.trans (if_neg (by rw [hk]; simp)))
    rw [hk] at cc
    have hlv : 1 ≤ level ∧ level ≤ n ∧ clE ls = 0 := by
      unfold ckE at hk
      by_cases h1 : clE ls ≠ 0
      · rw [if_pos h1] at hk; exact absurd hk h1
      · rw [if_neg h1] at hk
        by_cases h2 : level < 1 ∨ (n : Int) < level
        · rw [if_pos h2] at hk; omega
        · exact ⟨by omega, by omega, by omega⟩
    have hn := clE_len hlv.2.2
    rw [hlen] at hn
    clear HE hk
    by_cases hr : r < 0 ∨ 32767 < r
    · have HE3 := Lib.hid (HE2.out.trans (if_pos hr))
      have HF3 := Lib.hid (HF.out.trans (if_neg (by rw [HE3.out]; omega)))
      clear HE2 HF
      rcases hr with hr | hr
      all_goals
        (try have hr0 : ¬ r < 0 := by omega)
        go_wp2_with (first | (go_at_call 23; refine cc.mono ?_; rintro er w2 ⟨rfl, hb2⟩; have T2 := T1.below hb2; have B8 := T2.b8; unfold Blk at B8) | (refine wpList_store_row rfl 48 _ _ rfl p8 (cnA cnZ) rfl rfl 48 _ B8 (by kernel_rfl) rfl (cnA_one _) ?_))
        refine bodyPost_ret (results_cell_tmp rfl _ _ p8 48 _ (0, 0) _ rfl (setRow_heap _ p8 _ _ _ _ B8) Try.underlying48 rfl (by kernel_rfl)) rfl ?_
        rw [HF3.out, HE3.out]
        exact ⟨rfl, below_setRow (below_trans' hb1 hb1.size hb2) T2.m8 _⟩
    · have hr1 : 0 ≤ r := by omega
      have hr2 : r ≤ 32767 := by omega
      have HE3 := Lib.hid (HE2.out.trans (if_neg hr))
      clear HE2 hr
      obtain ⟨L, rfl⟩ : ∃ L : Nat, level = (L : Int) + 1 := ⟨(level - 1).toNat, by omega⟩
      have eL : ((L : Int) + 1 - 1).toNat = L := by omega
      rw [eL] at HF
      have hL : L < n := by omega
      clear eL
      have hix := Lib.hid (cnN_index c)
      have h9 := size9 c
      go_upto_region 6 with (first | (go_at_call 23; refine cc.mono ?_; rintro er w2 ⟨rfl, hb2⟩))
      have T2 := T1.below hb2
      have hbx := below_trans' hb1 hb1.size hb2
      have rg := T2.b5.cnN_
      clear T1 hb1 hb2 cc
      go_wp2_with (refine wpList_load_mid rfl 45 _ rfl p5 0 rfl (cnN c) _ rg Try.underlying45 rfl h9 ?_)
      go_loopw [29] (fun vi wr => ∃ i : Nat, vi = .int .i64 i ∧ i ≤ 9 ∧ (∀ j, j < i → ¬ ((c j).1 < 0 ∨ 1099511627776 < (c j).1)) ∧ CW wr w.heap.size p5 p8 c ∧ Below w.heap.size w wr) (fun vi _ => 9 - (intOf vi).toNat)
      case atStart => exact ⟨0, rfl, by omega, fun j h => absurd h (by omega), T2, hbx⟩
      case round =>
        obtain ⟨i, rfl, hi, hok, T3, hbw⟩ := hrel
        have HOK := Lib.hid hok
        clear hok T2 hbx rg
        by_cases hlt : i < 9
        · have hlt' : (i : Int) < 9 := by omega
          have hii := hix.out i hlt
          have B8 := T3.b8
          unfold Blk at B8
          by_cases hbad : (c i).1 < 0 ∨ 1099511627776 < (c i).1
          · have HE5 := Lib.hid (HE3.out.trans (if_pos (ovB_at hlt hbad)))
            have HF5 := Lib.hid (HF.out.trans (if_neg (by rw [HE5.out]; omega)))
            clear HE3 HF
            rcases hbad with hbad | hbad
            all_goals
              (try have hb0 : ¬ (c i).1 < 0 := by omega)
              go_wp2_with (refine wpList_store_row rfl 48 _ _ rfl p8 (cnA cnZ) rfl rfl 48 _ B8 (by kernel_rfl) rfl (cnA_one _) ?_)
              refine bodyPost_ret (results_cell_tmp rfl _ _ p8 48 _ (0, 0) _ rfl (setRow_heap _ p8 _ _ _ _ B8) Try.underlying48 rfl (by kernel_rfl)) rfl ?_
              rw [HF5.out, HE5.out]
              exact ⟨rfl, below_setRow hbw T3.m8 _⟩
          · have hb1 : ¬ (c i).1 < 0 := by omega
            have hb2 : ¬ 1099511627776 < (c i).1 := by omega
            go_wp2_with fail
            go_roundw
            case measure => rw [intOf, intOf]; omega
            case rel => exact ⟨i + 1, by simp, by omega, fun j hj => by rcases (show j < i ∨ j = i by omega) with h | rfl; exact HOK.out j h; omega, T3, hbw⟩
        · have : i = 9 := by omega
          subst this
          have hcc : ¬ ((c L).1 < 0 ∨ 1099511627776 < (c L).1) := HOK.out L (by omega)
          have HE5 := Lib.hid (HE3.out.trans (if_neg (by rw [ovB_no HOK.out]; simp)))
          have HF5 := Lib.hid (HF.out.trans (if_pos HE5.out))
          clear HE3 HF
          have cn := nstep_any A n cA ls c 1099511627776 L r wr (ha.below hbw) hn.2 hL (by omega) (by omega)
          have B5 := T3.b5
          unfold Blk at B5
          go_wp2_with (first | (refine wpList_load_row rfl 48 _ rfl p5 rfl 48 _ (0, 0) _ B5 Try.underlying48 rfl (by kernel_rfl) ?_) | (go_at_call 24; refine cn.mono ?_; rintro er w3 ⟨rfl, hb3⟩; have T4 := T3.below hb3; have B8 := T4.b8; unfold Blk at B8) | (refine wpList_store_row rfl 48 _ _ rfl p8 _ rfl rfl 48 _ B8 (by kernel_rfl) rfl (cnA_one _) ?_))
          refine bodyPost_ret (results_cell_tmp rfl _ _ p8 48 _ (0, 0) _ rfl (setRow_heap _ p8 _ _ _ _ B8) Try.underlying48 rfl (by kernel_rfl)) rfl ?_
          rw [HF5.out, HE5.out]
          exact ⟨rfl, below_setRow (below_trans' hbw hbw.size hb3) T4.m8 _⟩
  · have HE2 := Lib.hid (HE.out.trans (if_pos hk))
    have HF2 := Lib.hid (HF.out.trans (if_neg (by rw [HE2.out]; exact hk)))
    clear HE HF
    generalize ckE ls n level = ce at *
    go_wp2_with (first | (go_at_call 23; refine cc.mono ?_; rintro er w2 ⟨rfl, hb2⟩; have T2 := T1.below hb2; have B8 := T2.b8; unfold Blk at B8) | (refine wpList_store_row rfl 48 _ _ rfl p8 (cnA cnZ) rfl rfl 48 _ B8 (by kernel_rfl) rfl (cnA_one _) ?_))
    refine bodyPost_ret (results_cell_tmp rfl _ _ p8 48 _ (0, 0) _ rfl (setRow_heap _ p8 _ _ _ _ B8) Try.underlying48 rfl (by kernel_rfl)) rfl ?_
    rw [HF2.out, HE2.out]
    exact ⟨rfl, below_setRow (below_trans' hb1 hb1.size hb2) T2.m8 _⟩
end Go.Proofs.Ytjpbmeonkfkgdaa
