/- demerits of the model. -/
import Derived.Test.YtogbapdioccamaaE8
namespace Go.Proofs.Ytogbapdioccamaa
open Go.RowKit

theorem forI_at {xs : List It} {k : Nat} (h : k < xs.length) : forI xs (k : Int) = (decide ((gT xs k).kind = 3) && decide ((gT xs k).cost = -10000)) := by
  unfold forI; rw [decide_eq_true (by omega), decide_eq_true (by omega)]; rfl

set_option maxRecDepth 100000 in
set_option maxHeartbeats 2000000 in
theorem mdemerits_any (A : Option Addr) (n cc b : Nat) (before cls : Int) (x : Ln) (xs : List It) (w : World) (ha : Sl w 6 itC A n xs) (hb : b < n) (hx : x.br = b) (hbf : before < n) (hc : -10000 ≤ (gT xs b).cost ∧ (gT xs b).cost ≤ 10000)
    (hR : ∀ k, k < n → (gT xs k).kind ≠ 3 → (gT xs k).flag = false)
    (h1 : 0 ≤ x.bad ∧ x.bad ≤ 10000) (h2 : 0 ≤ x.over ∧ x.over ≤ 1099511627776) (h3 : 0 ≤ x.cls ∧ x.cls ≤ 3) (h4 : 0 ≤ cls ∧ cls ≤ 3) :
    Calls Try.prog 49 #[.slice A n cc, lnV x, .int .i64 before, .int .i64 cls] w fun e w' => e = .returned (.int .i64 (demF 31680 xs x b before cls)) ∧ Below w.heap.size w w' := by
  obtain ⟨T, hT⟩ : ∃ T, T = demF 31680 xs x b before cls := ⟨_, rfl⟩
  rw [← hT]
  rw [demF_eq] at hT
  have HT := Lib.hid hT
  clear hT
  have cf := fun w h => mforced_any A n cc xs (b : Int) w h
  rw [forI_at (by rw [ha.len]; exact hb)] at cf
  have ff := fun w v h h' => mflagged_any A n cc v xs w h h' hR
  clear hR
  have hbn : (b : Int) < n := by omega
  obtain ⟨xf, xt, xb, xm, xw, xr, xc, xbad, xo, xd⟩ := x
  simp only at hx h1 h2 h3 HT
  subst hx
  unfold lnV
  go_enter Try.func49, Try.ntmps49
  go_upto_region 2 with fail
  have hB2 : Below w.heap.size w (w.alloc (.cells #[.int .i64 xf, .int .i64 xt, .int .i64 b, .int .i64 xm, .int .i64 xw, .int .i64 xr, .int .i64 xc, .int .i64 xbad, .int .i64 xo, .int .i64 xd] 56)) := (Below.refl _ _).alloc (Nat.le_refl _) _
  have k1 := Blk.new w 56 #[.int .i64 xf, .int .i64 xt, .int .i64 b, .int .i64 xm, .int .i64 xw, .int .i64 xr, .int .i64 xc, .int .i64 xbad, .int .i64 xo, .int .i64 xd]
  have ha2 := ha.below hB2
  generalize (w.alloc (.cells #[.int .i64 xf, .int .i64 xt, .int .i64 b, .int .i64 xm, .int .i64 xw, .int .i64 xr, .int .i64 xc, .int .i64 xbad, .int .i64 xo, .int .i64 xd] 56)) = W2 at *
  have cb := costE_bd hc
  have j2 : W2.cell? ⟨w.heap.size, 2, none⟩ = some (.int .i64 b) := k1.cell 2 rfl
  have j6 : W2.cell? ⟨w.heap.size, 6, none⟩ = some (.int .i64 xc) := k1.cell 6 rfl
  have j7 : W2.cell? ⟨w.heap.size, 7, none⟩ = some (.int .i64 xbad) := k1.cell 7 rfl
  have j8 : W2.cell? ⟨w.heap.size, 8, none⟩ = some (.int .i64 xo) := k1.cell 8 rfl
  obtain ⟨ad, e, hl, q0, q1, q2, q3, q4, q5⟩ := ha2.it hb
  subst e
  generalize gT xs b = it at *
  obtain ⟨ik, iw, iy, iz, ic, ifl⟩ := it
  simp only at hc cf q0 q4
  clear k1 q1 q2 q3 q5 ha
  go_cut [24] (fun v wx => v = .bool (decide (ik = 3 ∧ ic ≠ -10000)) ∧ wx = W2)
  case first =>
    by_cases h3k : ik = 3
    · subst h3k
      by_cases h4c : ic = -10000
      · subst h4c
        go_wp2_with (first | (go_at_call 47; refine (cf _ ha2).mono ?_; rintro e w3 ⟨rfl, rfl⟩))
        go_meet
        case rel => exact ⟨rfl, rfl⟩
      · rw [decide_eq_false h4c] at cf
        go_wp2_with (first | (go_at_call 47; refine (cf _ ha2).mono ?_; rintro e w3 ⟨rfl, rfl⟩))
        go_meet
        case rel => exact ⟨by simp [h4c], rfl⟩
    · have hd : (ik == 3) = false := by simpa using h3k
      go_wp2_with fail
      go_meet
      case rel => exact ⟨by simp [h3k], rfl⟩
  case rest =>
    obtain ⟨rfl, rfl⟩ := hcut
    clear cf
    go_upto_if 24 with fail
    go_cut [9] (fun v wx => v = .int .i64 (costE ⟨ik, iw, iy, iz, ic, ifl⟩) ∧ wx = wc)
    case first =>
      by_cases hB : ik = 3 ∧ ic ≠ -10000
      · have hd : decide (ik = 3 ∧ ic ≠ -10000) = true := decide_eq_true hB
        have HE := Lib.hid (show costE ⟨ik, iw, iy, iz, ic, ifl⟩ = ic from if_pos hB)
        clear hB
        rw [hd]
        go_wp2_with fail
        go_meet
        case rel => exact ⟨by rw [HE.out], rfl⟩
      · have hd : decide (ik = 3 ∧ ic ≠ -10000) = false := decide_eq_false hB
        have HE := Lib.hid (show costE ⟨ik, iw, iy, iz, ic, ifl⟩ = 0 from if_neg hB)
        clear hB
        rw [hd]
        go_wp2_with fail
        go_meet
        case rel => exact ⟨by rw [HE.out], rfl⟩
    case rest =>
      obtain ⟨rfl, rfl⟩ := hcut
      generalize costE ⟨ik, iw, iy, iz, ic, ifl⟩ = c at *
      clear q0 q4 hc
      go_upto_region 4 with fail
      go_cut [10] (fun v wx => v = .int .i64 ((1 + xbad + max c 0) * (1 + xbad + max c 0)) ∧ wx = wc)
      case first =>
        by_cases h0 : 0 ≤ c
        · have hmx : max c 0 = c := Int.max_eq_left h0
          have HM := Lib.hid hmx
          have hm1 : (1 + xbad + c) * (1 + xbad + c) ≤ 20001 * 20001 := Int.mul_le_mul (by omega) (by omega) (by omega) (by omega)
          have hm2 : 0 ≤ (1 + xbad + c) * (1 + xbad + c) := Int.mul_nonneg (by omega) (by omega)
          go_wp2_with fail
          all_goals go_meet
          all_goals exact ⟨by rw [HM.out], rfl⟩
        · have hmx : max c 0 = 0 := Int.max_eq_right (by omega)
          have HM := Lib.hid hmx
          have hm1 : (1 + xbad) * (1 + xbad) ≤ 10001 * 10001 := Int.mul_le_mul (by omega) (by omega) (by omega) (by omega)
          have hm2 : 0 ≤ (1 + xbad) * (1 + xbad) := Int.mul_nonneg (by omega) (by omega)
          go_wp2_with fail
          all_goals go_meet
          all_goals exact ⟨by rw [HM.out]; simp, rfl⟩
      case rest =>
        obtain ⟨rfl, rfl⟩ := hcut
        have hsq := sq_bd h1 cb
        have hmm : 0 ≤ (1 + xbad + max c 0) * (1 + xbad + max c 0) ∧ (1 + xbad + max c 0) * (1 + xbad + max c 0) ≤ 20001 * 20001 :=
          ⟨Int.mul_nonneg (by omega) (by omega), Int.mul_le_mul (by omega) (by omega) (by omega) (by omega)⟩
        go_upto_if 45 with fail
        go_cut [10] (fun v wx => v = .int .i64 (sq xbad c) ∧ wx = wc)
        case first =>
          by_cases h0 : 0 ≤ c
          · have HE := Lib.hid (show sq xbad c = (1 + xbad + max c 0) * (1 + xbad + max c 0) by unfold sq; rw [if_pos h0, Int.max_eq_left h0])
            have h0' : decide (c < 0) = false := decide_eq_false (by omega)
            go_wp2_with fail
            all_goals go_meet
            all_goals exact ⟨by rw [HE.out], rfl⟩
          · have HE := Lib.hid (show sq xbad c = (1 + xbad + max c 0) * (1 + xbad + max c 0) - c * c by unfold sq; rw [if_neg h0, Int.max_eq_right (by omega), Int.add_zero])
            have hm3 : (-c) * (-c) ≤ 10000 * 10000 := Int.mul_le_mul (by omega) (by omega) (by omega) (by omega)
            have hm4 : 0 ≤ (-c) * (-c) := Int.mul_nonneg (by omega) (by omega)
            rw [Int.neg_mul_neg] at hm3 hm4
            have h0' : decide (c < 0) = true := decide_eq_true (by omega)
            go_wp2_with fail
            all_goals go_meet
            all_goals exact ⟨by rw [HE.out], rfl⟩
        case rest =>
          obtain ⟨rfl, rfl⟩ := hcut
          clear hmm
          generalize sq xbad c = s at *
          go_upto_region 7 with fail
          go_cut [59] (fun v wx => v = .bool (flagAt xs before && flagAt xs b) ∧ wx = wc)
          case first =>
            cases hfa : flagAt xs before
            · have HB := Lib.hid hfa
              go_wp2_with (first | (go_at_call 58; refine (ff _ _ ha2 (by assumption)).mono ?_; rintro e w3 ⟨rfl, rfl⟩; rw [HB.out]))
              go_meet
              case rel => exact ⟨by rw [HB.out]; rfl, rfl⟩
            · have HB := Lib.hid hfa
              go_wp2_with (first | (go_at_call 58; refine (ff _ _ ha2 (by assumption)).mono ?_; rintro e w3 ⟨rfl, rfl⟩; try rw [HB.out]))
              go_meet
              case rel => exact ⟨by rw [HB.out]; rfl, rfl⟩
          case rest =>
            obtain ⟨rfl, rfl⟩ := hcut
            generalize flagAt xs before = fa at *
            generalize flagAt xs (b : Int) = fb at *
            clear ff
            go_upto_if 59 with fail
            go_cut [10] (fun v wx => v = .int .i64 (s + fl3 fa fb) ∧ wx = wc)
            case first =>
              cases fa <;> cases fb
              all_goals
                go_wp2_with fail
                go_meet
              case rel => exact ⟨by simp [fl3], rfl⟩
              case rel => exact ⟨by simp [fl3], rfl⟩
              case rel => exact ⟨by simp [fl3], rfl⟩
              case rel => exact ⟨by simp [fl3], rfl⟩
            case rest =>
              obtain ⟨rfl, rfl⟩ := hcut
              have hfl : 0 ≤ fl3 fa fb ∧ fl3 fa fb ≤ 3000 := by unfold fl3; split <;> omega
              generalize fl3 fa fb = f3 at *
              go_upto_region 9 with fail
              go_cut [73] (fun v wx => v = .bool (decide (1 < max (xc - cls) (cls - xc))) ∧ wx = wc)
              case first =>
                by_cases hp1 : 1 < xc - cls
                · have hp1' : decide (1 < xc - cls) = true := decide_eq_true hp1
                  have HE := Lib.hid (show decide (1 < max (xc - cls) (cls - xc)) = true from decide_eq_true (by omega))
                  go_wp2_with fail
                  all_goals go_meet
                  all_goals exact ⟨by rw [HE.out], rfl⟩
                · have hp1' : decide (1 < xc - cls) = false := decide_eq_false hp1
                  have HE := Lib.hid (show decide (1 < max (xc - cls) (cls - xc)) = decide (1 < cls - xc) from decide_eq_decide.2 (by omega))
                  go_wp2_with fail
                  all_goals go_meet
                  all_goals exact ⟨by rw [HE.out], rfl⟩
              case rest =>
                obtain ⟨rfl, rfl⟩ := hcut
                go_upto_if 73 with fail
                go_cut [10] (fun v wx => v = .int .i64 (s + f3 + cl3 xc cls) ∧ wx = wc)
                case first =>
                  by_cases hm : 1 < max (xc - cls) (cls - xc)
                  · have HE := Lib.hid (show cl3 xc cls = 3000 from if_pos hm)
                    rw [decide_eq_true hm]
                    clear hm
                    go_wp2_with fail
                    all_goals go_meet
                    all_goals exact ⟨by rw [HE.out], rfl⟩
                  · have HE := Lib.hid (show cl3 xc cls = 0 from if_neg hm)
                    rw [decide_eq_false hm]
                    clear hm
                    go_wp2_with fail
                    all_goals go_meet
                    all_goals exact ⟨by rw [HE.out]; simp, rfl⟩
                case rest =>
                  obtain ⟨rfl, rfl⟩ := hcut
                  have hcl : 0 ≤ cl3 xc cls ∧ cl3 xc cls ≤ 3000 := by unfold cl3; split <;> omega
                  generalize cl3 xc cls = c3 at *
                  by_cases ho : 0 < xo
                  · have hob : decide (0 < xo) = true := decide_eq_true ho
                    by_cases hmx : xo ≤ 31680
                    · have HE := Lib.hid (show ov xo = 10000000000000 + 1000000000 * xo by unfold ov; rw [if_pos ho, Int.min_eq_left hmx])
                      go_wp2_with fail
                      go_ret
                      exact ⟨ret_int (by rw [HT.out, HE.out]; omega), hB2⟩
                    · have HE := Lib.hid (show ov xo = 10000000000000 + 1000000000 * 31680 by unfold ov; rw [if_pos ho, Int.min_eq_right (by omega)])
                      go_wp2_with fail
                      go_ret
                      exact ⟨ret_int (by rw [HT.out, HE.out]; omega), hB2⟩
                  · have hob : decide (0 < xo) = false := decide_eq_false ho
                    have HE := Lib.hid (show ov xo = 0 from if_neg ho)
                    go_wp2_with fail
                    go_ret
                    exact ⟨ret_int (by rw [HT.out, HE.out]; simp), hB2⟩
end Go.Proofs.Ytogbapdioccamaa
