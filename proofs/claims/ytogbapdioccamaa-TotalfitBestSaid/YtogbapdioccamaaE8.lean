/- demerits. -/
import Derived.Test.YtogbapdioccamaaE7
namespace Go.Proofs.Ytogbapdioccamaa
open Go.RowKit

def lnC (x : Ln) : List Value := [.int .i64 x.fr, .int .i64 x.to, .int .i64 x.br, .int .i64 x.meas, .int .i64 x.width, .int .i64 x.ratio, .int .i64 x.cls, .int .i64 x.bad, .int .i64 x.over, .int .i64 x.dem]
def lnV (x : Ln) : Value := .agg #[.int .i64 x.fr, .int .i64 x.to, .int .i64 x.br, .int .i64 x.meas, .int .i64 x.width, .int .i64 x.ratio, .int .i64 x.cls, .int .i64 x.bad, .int .i64 x.over, .int .i64 x.dem]
theorem lnC_len (x : Ln) : (lnC x).length = 10 := rfl
theorem lnC_one (x : Ln) : ∀ u ∈ lnC x, u.oneCell' = true := by intro u hu; simp [lnC] at hu; rcases hu with rfl | rfl | rfl | rfl | rfl | rfl | rfl | rfl | rfl | rfl <;> rfl
/-- the cost of the end of a line. -/
def costE (x : It) : Int := if x.kind = 3 ∧ x.cost ≠ -10000 then x.cost else 0
def sq (bad c : Int) : Int := if 0 ≤ c then (1 + bad + c) * (1 + bad + c) else (1 + bad) * (1 + bad) - c * c
def fl3 (a b : Bool) : Int := if a = true ∧ b = true then 3000 else 0
def cl3 (a b : Int) : Int := if 1 < max (a - b) (b - a) then 3000 else 0
def ov (o : Int) : Int := if 0 < o then 10000000000000 + 1000000000 * min o 31680 else 0
theorem demF_eq (xs : List It) (x : Ln) (b : Nat) (before cls : Int) : demF 31680 xs x b before cls = sq x.bad (costE (gT xs b)) + fl3 (flagAt xs before) (flagAt xs b) + cl3 x.cls cls + ov x.over := by
  unfold demF sq fl3 cl3 ov costE forcedI
  by_cases h3 : (gT xs b).kind = 3
  · by_cases h4 : (gT xs b).cost = -10000
    · simp [h3, h4]
    · simp [h3, h4]
  · simp [h3]
theorem costE_bd {x : It} (h : -10000 ≤ x.cost ∧ x.cost ≤ 10000) : -10000 ≤ costE x ∧ costE x ≤ 10000 := by unfold costE; split <;> omega
theorem sq_bd {bad c : Int} (hb : 0 ≤ bad ∧ bad ≤ 10000) (hc : -10000 ≤ c ∧ c ≤ 10000) : -100000000 ≤ sq bad c ∧ sq bad c ≤ 400040001 := by
  unfold sq
  split
  · have h1 : (1 + bad + c) * (1 + bad + c) ≤ 20001 * 20001 := Int.mul_le_mul (by omega) (by omega) (by omega) (by omega)
    have h2 : 0 ≤ (1 + bad + c) * (1 + bad + c) := Int.mul_nonneg (by omega) (by omega)
    omega
  · have h1 : (1 + bad) * (1 + bad) ≤ 10001 * 10001 := Int.mul_le_mul (by omega) (by omega) (by omega) (by omega)
    have h2 : 0 ≤ (1 + bad) * (1 + bad) := Int.mul_nonneg (by omega) (by omega)
    have h3 : (-c) * (-c) ≤ 10000 * 10000 := Int.mul_le_mul (by omega) (by omega) (by omega) (by omega)
    have h4 : 0 ≤ (-c) * (-c) := Int.mul_nonneg (by omega) (by omega)
    rw [Int.neg_mul_neg] at h3 h4
    omega

theorem Blk.new2 (w : World) (o : Obj) (t : TypeId) (cs : Array Value) : Blk ((w.alloc o).alloc (.cells cs t)) (w.heap.size + 1) t cs := by
  have h := Blk.new (w.alloc o) t cs
  have e : (w.alloc o).heap.size = w.heap.size + 1 := by simp
  rwa [e] at h

set_option maxHeartbeats 2000000 in
theorem demerits_any (g : Nat) (q : PA) (n m b : Nat) (before cls : Int) (x : Ln) (xs : List It) (ms : List Int) (w : World) (P : Par w g q n m xs ms) (hb : b < n) (hx : x.br = b) (hbf : before < n) (hc : -10000 ≤ (gT xs b).cost ∧ (gT xs b).cost ≤ 10000)
    (h1 : 0 ≤ x.bad ∧ x.bad ≤ 10000) (h2 : 0 ≤ x.over ∧ x.over ≤ 1099511627776) (h3 : 0 ≤ x.cls ∧ x.cls ≤ 3) (h4 : 0 ≤ cls ∧ cls ≤ 3) :
    Calls Try.prog 61 #[.pointer (some ⟨g, 0, none⟩), lnV x, .int .i64 before, .int .i64 cls] w fun e w' => e = .returned (.int .i64 (demF 31680 xs x b before cls)) ∧ Below w.heap.size w w' := by
  obtain ⟨T, hT⟩ : ∃ T, T = demF 31680 xs x b before cls := ⟨_, rfl⟩
  rw [← hT]
  rw [demF_eq] at hT
  have HT := Lib.hid hT
  clear hT
  have p0 := P.blk.cell 0 rfl
  obtain ⟨ad, e, hl, q0, q1, q2, q3, q4, q5⟩ := P.its.it hb
  rw [e] at p0
  obtain ⟨xf, xt, xb, xm, xw, xr, xc, xbad, xo, xd⟩ := x
  simp only at hx h1 h2 h3 HT
  subst hx
  unfold lnV
  have A2 : ∀ (p : Addr) (u : Value), p.block < w.heap.size → w.cell? p = some u → ∀ o1 o2, ((w.alloc o1).alloc o2).cell? p = some u := fun p u hp hu o1 o2 =>
    ((((Below.refl w.heap.size w).alloc (Nat.le_refl _) o1).alloc (by simp) o2).cell (p := p) hp).trans hu
  have hgl := P.blk.lt
  have hl3 : (ad.add (b * 6)).block < w.heap.size := by rw [block_add]; exact hl
  have p0' := A2 _ _ (by exact hgl) p0
  have r0 := A2 _ _ hl3 q0
  have r1 := A2 _ _ (by exact hl3) q1
  have r2 := A2 _ _ (by exact hl3) q2
  have r3 := A2 _ _ (by exact hl3) q3
  have r4 := A2 _ _ (by exact hl3) q4
  have r5 := A2 _ _ (by exact hl3) q5
  clear A2
  go_enter Try.func61, Try.ntmps61
  go_wp2_with fail
  go_region
  have hB2 : Below w.heap.size w ((w.alloc (.cells #[.int .i64 xf, .int .i64 xt, .int .i64 b, .int .i64 xm, .int .i64 xw, .int .i64 xr, .int .i64 xc, .int .i64 xbad, .int .i64 xo, .int .i64 xd] 56)).alloc (.cells #[.int .i64 (gT xs b).kind, .int .i64 (gT xs b).width, .int .i64 (gT xs b).stretch, .int .i64 (gT xs b).shrink, .int .i64 (gT xs b).cost, .bool (gT xs b).flag] 52)).drew :=
    below_drewN (((Below.refl _ _).alloc (Nat.le_refl _) _).alloc (by simp) _) 1
  have k1 : Blk ((w.alloc (.cells #[.int .i64 xf, .int .i64 xt, .int .i64 b, .int .i64 xm, .int .i64 xw, .int .i64 xr, .int .i64 xc, .int .i64 xbad, .int .i64 xo, .int .i64 xd] 56)).alloc (.cells #[.int .i64 (gT xs b).kind, .int .i64 (gT xs b).width, .int .i64 (gT xs b).stretch, .int .i64 (gT xs b).shrink, .int .i64 (gT xs b).cost, .bool (gT xs b).flag] 52)).drew w.heap.size 56 #[.int .i64 xf, .int .i64 xt, .int .i64 b, .int .i64 xm, .int .i64 xw, .int .i64 xr, .int .i64 xc, .int .i64 xbad, .int .i64 xo, .int .i64 xd] :=
    ((Blk.new _ _ _).alloc _).drewN 1
  have k2 : Blk ((w.alloc (.cells #[.int .i64 xf, .int .i64 xt, .int .i64 b, .int .i64 xm, .int .i64 xw, .int .i64 xr, .int .i64 xc, .int .i64 xbad, .int .i64 xo, .int .i64 xd] 56)).alloc (.cells #[.int .i64 (gT xs b).kind, .int .i64 (gT xs b).width, .int .i64 (gT xs b).stretch, .int .i64 (gT xs b).shrink, .int .i64 (gT xs b).cost, .bool (gT xs b).flag] 52)).drew (w.heap.size + 1) 52 #[.int .i64 (gT xs b).kind, .int .i64 (gT xs b).width, .int .i64 (gT xs b).stretch, .int .i64 (gT xs b).shrink, .int .i64 (gT xs b).cost, .bool (gT xs b).flag] := by
    exact (Blk.new2 _ _ _ _).drewN 1
  clear p0' r0 r1 r2 r3 r4 r5 q0 q1 q2 q3 q4 q5
  have P2 := P.below hB2
  generalize ((w.alloc (.cells #[.int .i64 xf, .int .i64 xt, .int .i64 b, .int .i64 xm, .int .i64 xw, .int .i64 xr, .int .i64 xc, .int .i64 xbad, .int .i64 xo, .int .i64 xd] 56)).alloc (.cells #[.int .i64 (gT xs b).kind, .int .i64 (gT xs b).width, .int .i64 (gT xs b).stretch, .int .i64 (gT xs b).shrink, .int .i64 (gT xs b).cost, .bool (gT xs b).flag] 52)).drew = W2 at *
  have cf := forced_any (gT xs b)
  have cb := costE_bd hc
  have ff := fun w v h => flagged_any g q n m v xs ms w h
  have hbn : (b : Int) < n := by omega
  generalize gT xs b = it at *
  obtain ⟨ik, iw, iy, iz, ic, ifl⟩ := it
  simp only at hc k2 cf
  have k20 : W2.cell? ⟨w.heap.size + 1, 0, none⟩ = some (.int .i64 ik) := k2.cell 0 rfl
  have k24 : W2.cell? ⟨w.heap.size + 1, 4, none⟩ = some (.int .i64 ic) := k2.cell 4 rfl
  go_upto_region 3 with fail
  go_cut [27] (fun v wx => v = .bool (decide (ik = 3 ∧ ic ≠ -10000)) ∧ Below W2.heap.size W2 wx)
  case first =>
    by_cases h3k : ik = 3
    · have k21 : W2.cell? ⟨w.heap.size + 1, 1, none⟩ = some (.int .i64 iw) := k2.cell 1 rfl
      have k22 : W2.cell? ⟨w.heap.size + 1, 2, none⟩ = some (.int .i64 iy) := k2.cell 2 rfl
      have k23 : W2.cell? ⟨w.heap.size + 1, 3, none⟩ = some (.int .i64 iz) := k2.cell 3 rfl
      have k25 : W2.cell? ⟨w.heap.size + 1, 5, none⟩ = some (.bool ifl) := k2.cell 5 rfl
      subst h3k
      by_cases h4c : ic = -10000
      · subst h4c
        go_wp2_with (first | (go_at_call 38; refine (cf _).mono ?_; rintro e w3 ⟨rfl, hb3⟩))
        go_meet
        case rel => exact ⟨rfl, hb3⟩
      · have hd : decide ((3 : Int) = 3 ∧ ic = -10000) = false := by simp [h4c]
        rw [hd] at cf
        go_wp2_with (first | (go_at_call 38; refine (cf _).mono ?_; rintro e w3 ⟨rfl, hb3⟩))
        go_meet
        case rel => exact ⟨by simp [h4c], hb3⟩
    · have hd : (ik == 3) = false := by simpa using h3k
      go_wp2_with fail
      go_meet
      case rel => exact ⟨by simp [h3k], Below.refl _ _⟩
  case rest =>
    obtain ⟨rfl, hb3⟩ := hcut
    clear cf k20 k24
    have k24 : wc.cell? ⟨w.heap.size + 1, 4, none⟩ = some (.int .i64 ic) := (k2.below hb3).cell 4 rfl
    have k1c := k1.below hb3
    have j2 : wc.cell? ⟨w.heap.size, 2, none⟩ = some (.int .i64 b) := k1c.cell 2 rfl
    have j6 : wc.cell? ⟨w.heap.size, 6, none⟩ = some (.int .i64 xc) := k1c.cell 6 rfl
    have j7 : wc.cell? ⟨w.heap.size, 7, none⟩ = some (.int .i64 xbad) := k1c.cell 7 rfl
    have j8 : wc.cell? ⟨w.heap.size, 8, none⟩ = some (.int .i64 xo) := k1c.cell 8 rfl
    have P3 := P2.below hb3
    have hbw := below_trans' hB2 hB2.size hb3
    clear k1 k2 k1c P2 P hB2 hb3 hgl hl3 p0 hl
    go_upto_if 27 with fail
    go_cut [9] (fun v wx => v = .int .i64 (costE ⟨ik, iw, iy, iz, ic, ifl⟩) ∧ wx = wc)
    case first =>
      by_cases hB : ik = 3 ∧ ic ≠ -10000
      · have hd : decide (ik = 3 ∧ ic ≠ -10000) = true := decide_eq_true hB
        have HE := Lib.hid (show costE ⟨ik, iw, iy, iz, ic, ifl⟩ = ic from if_pos hB)
        clear hB
        rw [hd]
        go_wp2_with fail
        go_meet
        case rel => exact ⟨by rw [HE.out], rfl⟩
      · have hd : decide (ik = 3 ∧ ic ≠ -10000) = false := decide_eq_false hB
        have HE := Lib.hid (show costE ⟨ik, iw, iy, iz, ic, ifl⟩ = 0 from if_neg hB)
        clear hB
        rw [hd]
        go_wp2_with fail
        go_meet
        case rel => exact ⟨by rw [HE.out], rfl⟩
    case rest =>
      obtain ⟨rfl, rfl⟩ := hcut
      generalize costE ⟨ik, iw, iy, iz, ic, ifl⟩ = c at *
      clear k24 hc
      go_upto_if 34 with fail
      go_cut [11] (fun v wx => v = .int .i64 (sq xbad c) ∧ wx = wc)
      case first =>
        by_cases h0 : 0 ≤ c
        · have HE := Lib.hid (show sq xbad c = (1 + xbad + c) * (1 + xbad + c) from if_pos h0)
          have hm1 : (1 + xbad + c) * (1 + xbad + c) ≤ 20001 * 20001 := Int.mul_le_mul (by omega) (by omega) (by omega) (by omega)
          have hm2 : 0 ≤ (1 + xbad + c) * (1 + xbad + c) := Int.mul_nonneg (by omega) (by omega)
          have h0' : decide (0 ≤ c) = true := decide_eq_true h0
          go_wp2_with fail
          go_meet
          case rel => exact ⟨by rw [HE.out], rfl⟩
        · have HE := Lib.hid (show sq xbad c = (1 + xbad) * (1 + xbad) - c * c from if_neg h0)
          have hm1 : (1 + xbad) * (1 + xbad) ≤ 10001 * 10001 := Int.mul_le_mul (by omega) (by omega) (by omega) (by omega)
          have hm2 : 0 ≤ (1 + xbad) * (1 + xbad) := Int.mul_nonneg (by omega) (by omega)
          have hm3 : (-c) * (-c) ≤ 10000 * 10000 := Int.mul_le_mul (by omega) (by omega) (by omega) (by omega)
          have hm4 : 0 ≤ (-c) * (-c) := Int.mul_nonneg (by omega) (by omega)
          rw [Int.neg_mul_neg] at hm3 hm4
          have h0' : decide (0 ≤ c) = false := decide_eq_false h0
          go_wp2_with fail
          go_meet
          case rel => exact ⟨by rw [HE.out], rfl⟩
      case rest =>
        obtain ⟨rfl, rfl⟩ := hcut
        have hsq := sq_bd h1 cb
        generalize sq xbad c = s at *
        go_upto_region 9 with fail
        go_cut [57] (fun v wx => v = .bool (flagAt xs before && flagAt xs b) ∧ wx = wc)
        case first =>
          cases hfa : flagAt xs before
          · have HB := Lib.hid hfa
            go_wp2_with (first | (go_at_call 63; refine (ff _ _ P3 (by assumption)).mono ?_; rintro e w3 ⟨rfl, rfl⟩; rw [HB.out]))
            go_meet
            case rel => exact ⟨by rw [HB.out]; rfl, rfl⟩
          · have HB := Lib.hid hfa
            go_wp2_with (first | (go_at_call 63; refine (ff _ _ P3 (by assumption)).mono ?_; rintro e w3 ⟨rfl, rfl⟩; try rw [HB.out]))
            go_meet
            case rel => exact ⟨by rw [HB.out]; rfl, rfl⟩
        case rest =>
          obtain ⟨rfl, rfl⟩ := hcut
          generalize flagAt xs before = fa at *
          generalize flagAt xs (b : Int) = fb at *
          clear ff
          go_upto_if 57 with fail
          go_cut [11] (fun v wx => v = .int .i64 (s + fl3 fa fb) ∧ wx = wc)
          case first =>
            cases fa <;> cases fb
            all_goals
              go_wp2_with fail
              go_meet
            case rel => exact ⟨by simp [fl3], rfl⟩
            case rel => exact ⟨by simp [fl3], rfl⟩
            case rel => exact ⟨by simp [fl3], rfl⟩
            case rel => exact ⟨by simp [fl3], rfl⟩
          case rest =>
            obtain ⟨rfl, rfl⟩ := hcut
            have hfl : 0 ≤ fl3 fa fb ∧ fl3 fa fb ≤ 3000 := by unfold fl3; split <;> omega
            generalize fl3 fa fb = f3 at *
            go_upto_if 69 with fail
            go_cut [11] (fun v wx => v = .int .i64 (s + f3 + cl3 xc cls) ∧ wx = wc)
            case first =>
              by_cases hm : 1 < max (xc - cls) (cls - xc)
              · have HE := Lib.hid (show cl3 xc cls = 3000 from if_pos hm)
                have hmb : decide (1 < max (xc - cls) (cls - xc)) = true := decide_eq_true hm
                go_wp2_with fail
                all_goals go_meet
                all_goals exact ⟨by rw [HE.out], rfl⟩
              · have HE := Lib.hid (show cl3 xc cls = 0 from if_neg hm)
                have hmb : decide (1 < max (xc - cls) (cls - xc)) = false := decide_eq_false hm
                go_wp2_with fail
                all_goals go_meet
                all_goals exact ⟨by rw [HE.out]; simp, rfl⟩
            case rest =>
              obtain ⟨rfl, rfl⟩ := hcut
              have hcl : 0 ≤ cl3 xc cls ∧ cl3 xc cls ≤ 3000 := by unfold cl3; split <;> omega
              generalize cl3 xc cls = c3 at *
              by_cases ho : 0 < xo
              · have hob : decide (0 < xo) = true := decide_eq_true ho
                by_cases hmx : xo ≤ 31680
                · have HE := Lib.hid (show ov xo = 10000000000000 + 1000000000 * xo by unfold ov; rw [if_pos ho, Int.min_eq_left hmx])
                  go_wp2_with fail
                  go_ret
                  exact ⟨ret_int (by rw [HT.out, HE.out]), hbw⟩
                · have HE := Lib.hid (show ov xo = 10000000000000 + 1000000000 * 31680 by unfold ov; rw [if_pos ho, Int.min_eq_right (by omega)])
                  go_wp2_with fail
                  go_ret
                  exact ⟨ret_int (by rw [HT.out, HE.out]; omega), hbw⟩
              · have hob : decide (0 < xo) = false := decide_eq_false ho
                have HE := Lib.hid (show ov xo = 0 from if_neg ho)
                go_wp2_with fail
                go_ret
                exact ⟨ret_int (by rw [HT.out, HE.out]; simp), hbw⟩
end Go.Proofs.Ytogbapdioccamaa
