/- The law's fold, walked. -/
import Derived.Test.YtjpbmeonkfkgdaaG12
import Derived.BigQuiet
import Derived.Deep.QuietTactic
namespace Go.Proofs.Ytjpbmeonkfkgdaa
open Go.RowKit

theorem EW.drewN {w : World} {B p6 p7 : Nat} {Z : Eff} (h : EW w B p6 p7 Z) (q : Nat) : EW (w.drewN q) B p6 p7 Z := ⟨h.b6, h.b7, h.n6, h.m6, h.m7⟩
set_option maxHeartbeats 8000000 in
set_option maxRecDepth 100000 in
theorem fold_any (A : Option Addr) (n c : Nat) (ls : List Lv) (AM : Option Addr) (m cm : Nat) (ms : List Mk) (w : World) (ha : Sl w 4 lvC A n ls) (hm : Sl w 3 mkC AM m ms) (hL : LvOk n ls) (hn : n ≤ 9) (hM : MkOk n ms) (hm1 : m ≤ 1000) :
    Calls Try.prog 11 #[.slice A n c, .slice AM m cm] w fun e w' => e = .returned (.agg (effA (foldE ls n ms))) ∧ Below w.heap.size w w' := by
  have hlm := hm.len
  have T0 := EW.new w
  have hb0 := ((Below.refl w.heap.size w).alloc (Nat.le_refl _) (.cells (effA effZ) 33)).alloc (by simp) (.cells (effA effZ) 33)
  have HMK := Lib.hid hM
  have HLK := Lib.hid hL
  have HFK := Lib.hid (foldE_ok hL hM)
  have HNK := Lib.hid (nrm_fold (ls := ls) hM)
  have hend : foldJ (foldE ls n ms) n = foldE ls n ms := foldJ_end fun i hi => by
    have := ((nrm_fold (ls := ls) hM ms.length (Nat.le_refl _)) i).2.2.2 hi
    rw [List.take_length] at this
    exact this
  have HEND := Lib.hid hend
  clear hM hL hend
  go_enter Try.func11, Try.ntmps11
  go_upto_region 1 with fail
  go_cut [4, 5] (fun v4 v5 wx => ∃ p4 p5, v4 = .pointer (some ⟨p4, 0, none⟩) ∧ v5 = .pointer (some ⟨p5, 0, none⟩) ∧ EW wx w.heap.size p4 p5 effZ ∧ Below w.heap.size w wx)
  case first =>
    go_wp2_with fail
    go_meet
    case rel => exact ⟨_, _, rfl, rfl, T0, hb0⟩
  case rest =>
  obtain ⟨p4, p5, rfl, rfl, T1, hb1⟩ := hcut
  clear T0 hb0
  go_wp2_with fail
  go_loopw [6] (fun vj wr => ∃ j : Nat, vj = .int .i64 j ∧ j ≤ n ∧ EW wr w.heap.size p4 p5 (foldJ (foldE ls n ms) j) ∧ Below w.heap.size w wr) (fun vj _ => n - (intOf vj).toNat)
  case atStart => exact ⟨0, rfl, Nat.zero_le _, by rw [foldJ_zero]; exact T1, hb1⟩
  case round =>
    obtain ⟨j, rfl, hj, T2, hbw⟩ := hrel
    clear T1 hb1
    by_cases hlt : j < n
    · have j9 : j < 9 := by omega
      have j9' : (j : Int) < 9 := by omega
      have hb2 : EW wr w.heap.size p4 p5 (upd (foldJ (foldE ls n ms) j) j (foldE ls n (ms.take 0) j)) := by
        rw [show foldE ls n (ms.take 0) j = chZ from rfl, foldJ_first]; exact T2
      clear T2
      obtain ⟨wo, rfl⟩ : ∃ wo : World, wo = wr := ⟨_, rfl⟩
      go_wp2_with fail
      go_loopw [8] (fun vi wr => ∃ i : Nat, vi = .int .i64 i ∧ i ≤ m ∧ EW wr w.heap.size p4 p5 (upd (foldJ (foldE ls n ms) j) j (foldE ls n (ms.take i) j)) ∧ Below w.heap.size w wr) (fun vi _ => m - (intOf vi).toNat)
      case atStart => exact ⟨0, rfl, Nat.zero_le _, hb2, hbw⟩
      case round =>
        obtain ⟨i, rfl, hi, T3, hbx⟩ := hrel
        clear hb2 hbw
        by_cases hlt2 : i < m
        · obtain ⟨ad, e, hl2, k0, k1, k2⟩ := (hm.below hbx).mk_ hlt2
          subst e
          obtain ⟨ad2, e2, hl3, _, s1, _, s3⟩ := (ha.below hbx).lv hlt
          subst e2
          have mo := HMK.out i (by omega)
          have hstep := foldJ_succ (ls := ls) (n := n) (ms := ms) (i := i) (j := j) (by omega) hlt
          have fo := HFK.out i (by omega) j
          have no := HNK.out i (by omega) j
          have st := HLK.out j hlt
          generalize gM ms i = mk at *
          obtain ⟨mx, ml, mr⟩ := mk
          simp only at k0 k1 k2 mo hstep
          have S1 := s1
          have S3 := s3
          clear s1 s3
          obtain ⟨L, rfl⟩ : ∃ L : Nat, ml = (L : Int) + 1 := ⟨(ml - 1).toNat, by omega⟩
          rw [show ((L : Int) + 1 - 1).toNat = L by omega] at hstep
          generalize hlv : gL ls j = lv at *
          generalize foldE ls n (ms.take i) j = ch at *
          have HLV := Lib.hid hlv
          clear hlv
          obtain ⟨xf, xs, xt, xr⟩ := lv
          simp only at S1 S3 st hstep
          have HST := Lib.hid hstep
          have nrc : NrC ch := ⟨no.1, no.2.1⟩
          obtain ⟨cf, cs, cn, ca⟩ := ch
          clear hstep no
          unfold ChOk at fo
          simp only at fo
          go_upto_region 9 with fail
          go_cut [9] (fun v9 wx => ∃ p, v9 = .pointer (some ⟨p, 0, none⟩) ∧ Blk wx p 61 #[.int .i64 mx, .int .i64 ((L : Int) + 1), .int .i64 mr] ∧ Below wr.heap.size wr wx)
          case first =>
            go_wp2_with fail
            go_meet
            case rel => exact ⟨_, rfl, Blk.new _ _ _, (Below.refl _ _).alloc (Nat.le_refl _) _⟩
          case rest =>
          obtain ⟨p, rfl, B9, hb4⟩ := hcut
          have q1 : wc.cell? ⟨p, 1, none⟩ = some (.int .i64 ((L : Int) + 1)) := B9.cell 1 rfl
          have q2 : wc.cell? ⟨p, 2, none⟩ = some (.int .i64 mr) := B9.cell 2 rfl
          have r1 := keep1 hb4 S1
          have r3 := keep1 hb4 S3
          clear k0 k1 k2 S1 S3
          have T4 := T3.below hb4
          have hbc := below_trans' hbx hbx.size hb4
          clear T3 hbx hb4 B9
          obtain ⟨z0, z1, z2, z3⟩ := T4.b7.eff j9
          rw [upd_self] at z0 z1 z2 z3
          simp only at z0 z1 z2 z3
          have f0 := T4.b7.frozen (j * 4)
          have f1 := T4.b7.frozen (j * 4 + 1)
          have f2 := T4.b7.frozen (j * 4 + 2)
          have f3 := T4.b7.frozen (j * 4 + 3)
          by_cases hlj : L = j
          · have e1 : ((L : Int) + 1 == (j : Int) + 1) = true := beq_iff_eq.2 (by omega)
            by_cases hr : 0 < mr
            · have HT := Lib.hid (HST.out.trans (thenC_restart xs _ n hlj hr))
              have e2 : (mr != 0) = true := bne_iff_ne.2 (by omega)
              clear HST
              go_wp2_with fail
              go_roundw
              case measure => rw [intOf, intOf]; omega
              case rel => exact ⟨i + 1, by simp, by omega, T4.set j9 _ _ _ _ (by rw [HT.out, upd_upd]), below_set4 hbc T4.m7 _ _ _ _ _⟩
            · obtain rfl : mr = 0 := by omega
              have HT := Lib.hid (HST.out.trans (thenC_same xs _ n hlj))
              clear HST
              cases cf
              · obtain ⟨rfl, rfl⟩ := nrc.1 rfl
                have HT2 := Lib.hid (show foldE ls n (ms.take (i + 1)) j = ⟨false, false, 0, ca + 1⟩ by rw [HT.out]; simp)
                clear HT
                go_wp2_with fail
                go_roundw
                case measure => rw [intOf, intOf]; omega
                case rel => exact ⟨i + 1, by simp, by omega, by rw [HT2.out]; exact T4.add_ j9 _, hbc.setCell (p := ⟨p5, j * 4 + 3, none⟩) T4.m7 _⟩
              · have ca0 := nrc.2 rfl
                simp only at ca0
                subst ca0
                cases cs
                · have HT2 := Lib.hid (show foldE ls n (ms.take (i + 1)) j = ⟨true, true, xs, 0⟩ by rw [HT.out]; simp)
                  clear HT
                  go_wp2_with fail
                  go_roundw
                  case measure => rw [intOf, intOf]; omega
                  case rel => exact ⟨i + 1, by simp, by omega, by rw [HT2.out]; exact T4.stn j9 _ _, (hbc.setCell (p := ⟨p5, j * 4 + 1, none⟩) T4.m7 _).setCell (p := ⟨p5, j * 4 + 2, none⟩) T4.m7 _⟩
                · have HT2 := Lib.hid (show foldE ls n (ms.take (i + 1)) j = ⟨true, true, cn + 1, 0⟩ by rw [HT.out]; simp)
                  clear HT
                  go_wp2_with fail
                  go_roundw
                  case measure => rw [intOf, intOf]; omega
                  case rel => exact ⟨i + 1, by simp, by omega, by rw [HT2.out]; exact T4.num j9 _, hbc.setCell (p := ⟨p5, j * 4 + 2, none⟩) T4.m7 _⟩
          · have e1 : ((L : Int) + 1 == (j : Int) + 1) = false := beq_eq_false_iff_ne.2 (by omega)
            by_cases hlt3 : L < j
            · have d1 : decide ((L : Int) + 1 ≤ (j : Int)) = true := by simp; omega
              by_cases hxr : (L : Int) + 1 ≤ xr
              · have HT := Lib.hid (HST.out.trans (thenC_reset xs _ n hlt3 hlt (by rw [HLV.out]; exact hxr)))
                have d2 : decide ((L : Int) + 1 ≤ xr) = true := by simpa using hxr
                clear HST
                go_upto_region 18 with fail
                go_quiet (fail)
                go_wp2_with fail
                go_roundw
                case measure => rw [intOf, intOf]; omega
                case rel => exact ⟨i + 1, by simp, by omega, (T4.drewN _).set j9 _ _ _ _ (by rw [HT.out, upd_upd]), below_set4 (below_drewN hbc _) T4.m7 _ _ _ _ _⟩
              · have HT := Lib.hid (HST.out.trans (thenC_none xs _ n nrc hlj (by rw [HLV.out]; exact fun h => hxr h.2)))
                have d2 : decide ((L : Int) + 1 ≤ xr) = false := by simpa using hxr
                clear HST
                go_upto_region 18 with fail
                go_quiet (fail)
                go_wp2_with fail
                go_roundw
                case measure => rw [intOf, intOf]; omega
                case rel => exact ⟨i + 1, by simp, by omega, by rw [HT.out]; exact T4.drewN _, below_drewN hbc _⟩
            · have d1 : decide ((L : Int) + 1 ≤ (j : Int)) = false := by simp; omega
              have HT := Lib.hid (HST.out.trans (thenC_none xs _ n nrc hlj (fun h => hlt3 h.1)))
              clear HST
              go_upto_region 18 with fail
              go_quiet (fail)
              go_wp2_with fail
              go_roundw
              case measure => rw [intOf, intOf]; omega
              case rel => exact ⟨i + 1, by simp, by omega, by rw [HT.out]; exact T4.drewN _, below_drewN hbc _⟩
        · have : i = m := by omega
          subst this
          have HT := Lib.hid (show upd (foldJ (foldE ls n ms) j) j (foldE ls n (ms.take i) j) = foldJ (foldE ls n ms) (j + 1) by rw [foldJ_step, List.take_of_length_le (by omega)])
          go_wp2_with fail
          go_roundw
          case measure => rw [intOf, intOf]; omega
          case rel => exact ⟨j + 1, by simp, by omega, by rw [← HT.out]; exact T3, hbx⟩
    · have : j = n := by omega
      subst this
      rw [HEND.out] at T2
      go_upto_region 20 with fail
      have B6 := T2.b6
      have B7 := T2.b7
      unfold Blk at B6 B7
      go_wp2_with (first | (refine wpList_load_row rfl 33 _ rfl p5 rfl 33 _ (0, 0) _ B7 Try.underlying33 rfl (by kernel_rfl) ?_) | (refine wpList_store_row rfl 33 _ _ rfl p4 _ rfl rfl 33 _ B6 (by kernel_rfl) rfl (effA_one _) ?_))
      refine bodyPost_ret (results_cell_row rfl _ _ p4 33 _ (0, 0) _ rfl (setRow_heap wr p4 _ _ _ _ B6) Try.underlying33 rfl (by kernel_rfl)) rfl ?_
      exact ⟨rfl, below_setRow hbw T2.m6 _⟩
end Go.Proofs.Ytjpbmeonkfkgdaa
