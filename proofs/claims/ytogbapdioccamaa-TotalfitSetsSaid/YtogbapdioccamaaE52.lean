/- Set of the program: the widths. -/
import Derived.Test.YtogbapdioccamaaE51
namespace Go.Proofs.Ytogbapdioccamaa
open Go.RowKit

theorem q_bd {dd wh sm o DM WM : Int} (h0 : 0 ≤ dd) (h1 : dd ≤ DM) (hs : 0 ≤ sm) (ho : 0 ≤ o) (h2 : sm + o ≤ WM) (hM : DM * WM ≤ 9000000000000000000) (hw : 0 < wh) (hx : 0 ≤ DM) :
    IntKind.i64.wrap (dd * (sm + o)) = dd * (sm + o) ∧ IntKind.i64.wrap (dd * sm) = dd * sm ∧ (dd * (sm + o)).tdiv wh = dd * (sm + o) / wh ∧ (dd * sm).tdiv wh = dd * sm / wh ∧ 0 ≤ dd * (sm + o) / wh ∧ dd * (sm + o) / wh ≤ 9000000000000000000 ∧ 0 ≤ dd * sm / wh ∧ dd * sm / wh ≤ 9000000000000000000 := by
  have hp1 : 0 ≤ dd * (sm + o) := Int.mul_nonneg h0 (by omega)
  have hp2 : dd * (sm + o) ≤ DM * WM := Int.mul_le_mul h1 (by omega) (by omega) hx
  have hp3 : 0 ≤ dd * sm := Int.mul_nonneg h0 hs
  have hp4 : dd * sm ≤ DM * WM := Int.mul_le_mul h1 (by omega) (by omega) hx
  have hq2 : dd * (sm + o) / wh ≤ dd * (sm + o) := Int.ediv_le_self _ hp1
  have hq4 : dd * sm / wh ≤ dd * sm := Int.ediv_le_self _ hp3
  exact ⟨IntWalk.i64_in _ (by omega), IntWalk.i64_in _ (by omega), Int.tdiv_eq_ediv_of_nonneg hp1, Int.tdiv_eq_ediv_of_nonneg hp3, Int.ediv_nonneg hp1 (by omega), by omega, Int.ediv_nonneg hp3 (by omega), by omega⟩
theorem wd_pos {dd wh sm o DM WM xw : Int} (h0 : 0 ≤ dd) (h1 : dd ≤ DM) (hs : 0 ≤ sm) (ho : 0 ≤ o) (h2 : sm + o ≤ WM) (hM : DM * WM ≤ 9000000000000000000) (hw : 0 < wh) (hx : 0 ≤ DM) (hxw : 0 ≤ xw ∧ xw ≤ 31680) :
    IntKind.i64.wrap (xw + IntKind.i64.wrap (IntKind.i64.wrap (IntKind.i64.wrap ((IntKind.i64.wrap (dd * (sm + o))).tdiv wh) - IntKind.i64.wrap ((IntKind.i64.wrap (dd * sm)).tdiv wh)))) = xw + 1 * addF dd wh sm o := by
  obtain ⟨e1, e2, e3, e4, b1, b2, b3, b4⟩ := q_bd h0 h1 hs ho h2 hM hw hx
  rw [e1, e2, e3, e4]
  unfold addF
  generalize dd * (sm + o) / wh = q1 at *
  generalize dd * sm / wh = q2 at *
  rw [show IntKind.i64.wrap q1 = q1 from IntWalk.i64_in _ (by omega), show IntKind.i64.wrap q2 = q2 from IntWalk.i64_in _ (by omega), show IntKind.i64.wrap (q1 - q2) = q1 - q2 from IntWalk.i64_in _ (by omega), show IntKind.i64.wrap (q1 - q2) = q1 - q2 from IntWalk.i64_in _ (by omega), show IntKind.i64.wrap (xw + (q1 - q2)) = xw + (q1 - q2) from IntWalk.i64_in _ (by omega)]
  omega
theorem wd_neg {dd wh sm o DM WM xw : Int} (h0 : 0 ≤ dd) (h1 : dd ≤ DM) (hs : 0 ≤ sm) (ho : 0 ≤ o) (h2 : sm + o ≤ WM) (hM : DM * WM ≤ 9000000000000000000) (hw : 0 < wh) (hx : 0 ≤ DM) (hxw : 0 ≤ xw ∧ xw ≤ 31680) :
    IntKind.i64.wrap (xw + IntKind.i64.wrap (-IntKind.i64.wrap (IntKind.i64.wrap ((IntKind.i64.wrap (dd * (sm + o))).tdiv wh) - IntKind.i64.wrap ((IntKind.i64.wrap (dd * sm)).tdiv wh)))) = xw + -1 * addF dd wh sm o := by
  obtain ⟨e1, e2, e3, e4, b1, b2, b3, b4⟩ := q_bd h0 h1 hs ho h2 hM hw hx
  rw [e1, e2, e3, e4]
  unfold addF
  generalize dd * (sm + o) / wh = q1 at *
  generalize dd * sm / wh = q2 at *
  rw [show IntKind.i64.wrap q1 = q1 from IntWalk.i64_in _ (by omega), show IntKind.i64.wrap q2 = q2 from IntWalk.i64_in _ (by omega), show IntKind.i64.wrap (q1 - q2) = q1 - q2 from IntWalk.i64_in _ (by omega), show IntKind.i64.wrap (-(q1 - q2)) = -(q1 - q2) from IntWalk.i64_in _ (by omega), show IntKind.i64.wrap (xw + -(q1 - q2)) = xw + -(q1 - q2) from IntWalk.i64_in _ (by omega)]
  omega

theorem Sl.sub {w : World} {ad : Addr} {n f k : Nat} {xs : List It} (h : Sl w 6 itC (some ad) n xs) (hf : f + k ≤ n) : Sl w 6 itC (some (ad.add (f * 6))) k ((xs.drop f).take k) := by
  have h1 := h.drop (k := f) (by omega)
  exact h1.take (by omega)

set_option maxRecDepth 100000 in
set_option maxHeartbeats 4000000 in
theorem Set_any (A : Option Addr) (n c f k : Nat) (xs : List It) (x : Ln) (w : World) (ha : Sl w 6 itC A n xs) (hnc : n ≤ c) (hn : n ≤ 4096) (h0 : chk xs = 0) (hxf : x.fr = f) (hxt : x.to = (f + k : Nat)) (hfk : f + k ≤ n) (hfc : f < c)
    (hD : -1000000000 ≤ x.meas - x.width ∧ x.meas - x.width ≤ 31680) :
    Calls Try.prog 35 #[.slice A n c, lnV x] w fun e w' => ∃ A' c', e = .returned (.tuple #[.slice A' k c', .int .i64 0]) ∧ Own w' w.heap.size 3 1 intC A' k c' (setL (x.meas - x.width) xs f k) ∧ Below w.heap.size w w' := by
  have cc := fun w h1 => Check_any A n c xs w h1 hn
  obtain ⟨hn0, hR, -⟩ := chk_good ha.len hn h0
  rw [h0] at cc
  obtain ⟨xf, xt, xb, xm, xw, xr, xc, xbad, xo, xd⟩ := x
  simp only at hxf hxt hD ⊢
  subst hxf
  subst hxt
  unfold lnV
  have hs := Blk.new w 56 #[.int .i64 f, .int .i64 (f + k : Nat), .int .i64 xb, .int .i64 xm, .int .i64 xw, .int .i64 xr, .int .i64 xc, .int .i64 xbad, .int .i64 xo, .int .i64 xd]
  have hb0 := (Below.refl w.heap.size w).alloc (Nat.le_refl _) (.cells #[.int .i64 f, .int .i64 (f + k : Nat), .int .i64 xb, .int .i64 xm, .int .i64 xw, .int .i64 xr, .int .i64 xc, .int .i64 xbad, .int .i64 xo, .int .i64 xd] 56)
  obtain ⟨ad, rfl, hadl, -⟩ := ha.it hn0
  have SY := Lib.hid (fun j (hj : f + j ≤ n) => sumF_bd (s := false) (fr := f) (fun i (hi : i < n) => ofF_bd (hR i hi) false) hj)
  have SZ := Lib.hid (fun j (hj : f + j ≤ n) => sumF_bd (s := true) (fr := f) (fun i (hi : i < n) => shr_bd (hR i hi)) hj)
  have MY := Lib.hid (fun i j (hij : i ≤ j) (hj : f + j ≤ n) => sumF_mono (s := false) (fr := f) (fun i (hi : i < n) => ofF_bd (hR i hi) false) hij hj)
  have MZ := Lib.hid (fun i j (hij : i ≤ j) (hj : f + j ≤ n) => sumF_mono (s := true) (fr := f) (fun i (hi : i < n) => shr_bd (hR i hi)) hij hj)
  have HR := Lib.hid hR
  clear h0 hR
  have hc2 : (f : Int) < (c : Int) := by omega
  go_enter Try.func35, Try.ntmps35
  go_upto_region 8 with (go_at_call 15; refine (cc _ (sl_alloc ha _)).mono ?_; rintro e w1 ⟨rfl, hb1⟩; have B1 := hs.below hb1; have q0 : w1.cell? ⟨w.heap.size, 0, none⟩ = some (.int .i64 f) := B1.cell 0 rfl; have q1 : w1.cell? ⟨w.heap.size, 1, none⟩ = some (.int .i64 (f + k : Nat)) := B1.cell 1 rfl)
  rw [show f + k - f = k by omega]
  generalize c - f = cf at *
  have ha1 := ((sl_alloc ha (.cells #[.int .i64 f, .int .i64 (f + k : Nat), .int .i64 xb, .int .i64 xm, .int .i64 xw, .int .i64 xr, .int .i64 xc, .int .i64 xbad, .int .i64 xo, .int .i64 xd] 56)).below hb1).sub hfk
  have hbw := below_trans' hb0 (by simp) hb1
  have HG := Lib.hid (fun j (hj : j < k) => gT_sub (xs := xs) (f := f) hj)
  clear q0 q1 ha hb0 hs cc hb1 hc2
  generalize (xs.drop f).take k = ys at *
  generalize ad.add (f * 6) = af at *
  go_wp2_with fail
  go_loopw [8, 9, 51] (fun vy vz vi wr => ∃ j : Nat, j ≤ k ∧ vi = .int .i64 j ∧ vy = .int .i64 (sumF false xs f j) ∧ vz = .int .i64 (sumF true xs f j) ∧ Below w1.heap.size w1 wr) (fun _ _ vi _ => k - (intOf vi).toNat)
  case atStart => exact ⟨0, Nat.zero_le _, rfl, by rw [sumF_zero], by rw [sumF_zero], Below.refl _ _⟩
  case round =>
    obtain ⟨j, hj, rfl, rfl, rfl, hbr⟩ := hrel
    have hy := SY.out j (by omega)
    have hz := SZ.out j (by omega)
    by_cases hlt : j < k
    · obtain ⟨ad2, e, hl2, k0, k1, k2, k3, k4, k5⟩ := (ha1.below hbr).it hlt
      injection e with e
      subst e
      rw [HG.out j hlt] at k0 k1 k2 k3 k4 k5
      have HSY := Lib.hid (sumF_succ false xs f j)
      have HSZ := Lib.hid (sumF_succ true xs f j)
      have b1 := ofF_bd (HR.out (f + j) (by omega)) false
      have b2 := shr_bd (HR.out (f + j) (by omega))
      have eo1 : ofF false (gT xs (f + j)) = (gT xs (f + j)).stretch := rfl
      have eo2 : ofF true (gT xs (f + j)) = (gT xs (f + j)).shrink := rfl
      rw [eo1] at HSY b1
      rw [eo2] at HSZ b2
      clear eo1 eo2
      generalize gT xs (f + j) = x at *
      obtain ⟨xk, xww, xy, xz, xcc, xff⟩ := x
      simp only at *
      generalize sumF false xs f j = sy at *
      generalize sumF true xs f j = sz at *
      go_upto_region 10 with fail
      go_cut [11] (fun v wx => ∃ p, v = .pointer (some ⟨p, 0, none⟩) ∧ Blk wx p 52 #[.int .i64 xk, .int .i64 xww, .int .i64 xy, .int .i64 xz, .int .i64 xcc, .bool xff] ∧ Below wr.heap.size wr wx)
      case first =>
        go_wp2_with fail
        go_meet
        case rel => exact ⟨_, rfl, Blk.new _ _ _, (Below.refl _ _).alloc (Nat.le_refl _) _⟩
      case rest =>
        obtain ⟨p, rfl, Bx, hb4⟩ := hcut
        clear k0 k1 k2 k3 k4 k5
        have k2 : wc.cell? ⟨p, 2, none⟩ = some (.int .i64 xy) := Bx.cell 2 rfl
        have k3 : wc.cell? ⟨p, 3, none⟩ = some (.int .i64 xz) := Bx.cell 3 rfl
        have n1 : IntKind.i64.wrap (sy + xy) = sy + xy := IntWalk.i64_in _ (by omega)
        have n2 : IntKind.i64.wrap (sz + xz) = sz + xz := IntWalk.i64_in _ (by omega)
        go_wp2_with fail
        go_quiet (fail)
        go_wp2_with fail
        go_roundw
        case rel => exact ⟨j + 1, by omega, by go_num, by rw [HSY.out], by rw [HSZ.out], below_drewN (below_trans' hbr hbr.size hb4) _⟩
        case measure => simp [intOf]; omega
    · have hjk : j = k := by omega
      subst hjk
      have B2 := B1.below hbr
      have k3 : wr.cell? ⟨w.heap.size, 3, none⟩ = some (.int .i64 xm) := B2.cell 3 rfl
      have k4 : wr.cell? ⟨w.heap.size, 4, none⟩ = some (.int .i64 xw) := B2.cell 4 rfl
      have ha2 := ha1.below hbr
      have hbw2 := below_trans' hbw hbw.size hbr
      obtain ⟨w2, rfl⟩ : ∃ w2 : World, w2 = wr := ⟨_, rfl⟩
      clear ha1 hbw hbr B1 B2
      by_cases hD0 : xm - xw < 0
      · have e0 : decide (xm - xw < 0) = true := decide_eq_true hD0
        have HSL := Lib.hid (show setL (xm - xw) xs f j = wdL true (min (-(xm - xw)) (sumF true xs f j)) (sumF true xs f j) xs f j by unfold setL; rw [if_pos hD0])
        have hmin : ∃ dd, min (-(xm - xw)) (sumF true xs f j) = dd ∧ 0 ≤ dd ∧ dd ≤ 200000000 := ⟨_, rfl, by omega, by omega⟩
        obtain ⟨dd, hdd, hd0, hd1⟩ := hmin
        rw [hdd] at HSL
        have HDD := Lib.hid hdd
        have HSB := Lib.hid (fun i (hi : i ≤ j) => (⟨(SZ.out i (by omega)).1, MZ.out i j hi (by omega)⟩ : 0 ≤ sumF true xs f i ∧ sumF true xs f i ≤ sumF true xs f j))
        clear hD0 hdd MZ MY SY SZ
        generalize sumF true xs f j = wh at *
        generalize sumF false xs f j = wy at *
        go_upto_if 71 with fail
        go_cut [12, 13, 14, 15] (fun vd vf vw vs wx => vd = .int .i64 dd ∧ vf = .func (Fn.func 53) #[] #[] ∧ vw = .int .i64 wh ∧ vs = .int .i64 (-1) ∧ w2 = wx)
        case first =>
          go_wp2_with fail
          go_meet
          case rel => exact ⟨by rw [← HDD.out], rfl, rfl, rfl, rfl⟩
        case rest =>
        obtain ⟨rfl, rfl, rfl, rfl, rfl⟩ := hcut
        clear k3 k4 HDD
        go_wp2_with fail
        go_loopw [16, 17, 79] (fun vo vs vi wr => ∃ (i : Nat) (A1 : Option Addr) (c1 : Nat), i ≤ j ∧ vi = .int .i64 i ∧ vo = .slice A1 i c1 ∧ vs = .int .i64 (sumF true xs f i) ∧ Own wr w2.heap.size 3 1 intC A1 i c1 (wdL true dd wh xs f i) ∧ Below w2.heap.size w2 wr) (fun _ _ vi _ => j - (intOf vi).toNat)
        case atStart => exact ⟨0, none, 0, Nat.zero_le _, rfl, rfl, by rw [sumF_zero], Own.nil_ _ _ _ _ _, Below.refl _ _⟩
        case round =>
          obtain ⟨i, A1, c1, hi, rfl, rfl, rfl, ho, hbr⟩ := hrel
          by_cases hlt : i < j
          · obtain ⟨ad2, e, hl2, k0, k1, k2, k3, k4, k5⟩ := (ha2.below hbr).it hlt
            injection e with e
            subst e
            rw [HG.out i hlt] at k0 k1 k2 k3 k4 k5
            have HSS := Lib.hid (sumF_succ true xs f i)
            have HWS := Lib.hid (wdL_succ true dd wh xs f i)
            have R := HR.out (f + i) (by omega)
            have hs0 := HSB.out i (by omega)
            have hs1 := HSB.out (i + 1) (by omega)
            have hwF : wdF true dd wh xs f i = if (gT xs (f + i)).kind = 3 then 0 else if (gT xs (f + i)).kind = 2 ∧ 0 < wh then (gT xs (f + i)).width + sgF true * addF dd wh (sumF true xs f i) (ofF true (gT xs (f + i))) else (gT xs (f + i)).width := rfl
            have hoF : ofF true (gT xs (f + i)) = (gT xs (f + i)).shrink := rfl
            have ho0 := ofF_bd R true
            rw [sumF_succ, hoF] at hs1
            rw [hoF] at hwF HSS ho0
            have HWF := Lib.hid hwF
            have rw0 := R.w0
            have rw1 := R.w1
            have cof := of2_any (gT xs (f + i))
            unfold itV at cof
            clear hwF hoF R
            generalize wdF true dd wh xs f i = wd at *
            generalize wdL true dd wh xs f i = WL at *
            generalize sumF true xs f i = sm at *
            generalize gT xs (f + i) = x at *
            obtain ⟨xk, xww, xy, xz, xcc, xff⟩ := x
            simp only at *
            go_upto_region 21 with fail
            go_cut [19] (fun v wx => ∃ p, v = .pointer (some ⟨p, 0, none⟩) ∧ wr.heap.size ≤ p ∧ Blk wx p 52 #[.int .i64 xk, .int .i64 xww, .int .i64 xy, .int .i64 xz, .int .i64 xcc, .bool xff] ∧ Below wr.heap.size wr wx)
            case first =>
              go_wp2_with fail
              go_meet
              case rel => exact ⟨_, rfl, Nat.le_refl _, Blk.new _ _ _, (Below.refl _ _).alloc (Nat.le_refl _) _⟩
            case rest =>
              obtain ⟨p, rfl, hp, Bx, hb4⟩ := hcut
              clear k0 k1 k2 k3 k4 k5
              have k0 : wc.cell? ⟨p, 0, none⟩ = some (.int .i64 xk) := Bx.cell 0 rfl
              have k1 : wc.cell? ⟨p, 1, none⟩ = some (.int .i64 xww) := Bx.cell 1 rfl
              have k2 : wc.cell? ⟨p, 2, none⟩ = some (.int .i64 xy) := Bx.cell 2 rfl
              have k3 : wc.cell? ⟨p, 3, none⟩ = some (.int .i64 xz) := Bx.cell 3 rfl
              have k4 : wc.cell? ⟨p, 4, none⟩ = some (.int .i64 xcc) := Bx.cell 4 rfl
              have k5 : wc.cell? ⟨p, 5, none⟩ = some (.bool xff) := Bx.cell 5 rfl
              go_upto_block 4 with fail
              go_cut [20] (fun v wx => v = .int .i64 wd ∧ Below wc.heap.size wc wx)
              case first =>
                by_cases hk3 : xk = 3
                · have e3 : (xk == 3) = true := by simpa using hk3
                  have HW := Lib.hid (show wd = 0 by rw [HWF.out, if_pos hk3])
                  clear hk3
                  go_wp2_with fail
                  go_meet
                  case rel => exact ⟨by rw [HW.out], Below.refl _ _⟩
                · have e3 : (xk == 3) = false := by simpa using hk3
                  by_cases hk2 : xk = 2 ∧ 0 < wh
                  · have e2 : (xk == 2) = true := by simpa using hk2.1
                    have e4 : decide (0 < wh) = true := decide_eq_true hk2.2
                    have e5 : (wh == 0) = false := by simp; omega
                    have e6 : wh ≠ 0 := by omega
                    have hwp := hk2.2
                    have HW := Lib.hid (show wd = xww + sgF true * addF dd wh sm xz by rw [HWF.out, if_neg hk3, if_pos hk2])
                    have n1 : IntKind.i64.wrap (sm + xz) = sm + xz := IntWalk.i64_in _ (by omega)
                    have HWD := Lib.hid (wd_neg (DM := 200000000) (WM := 130000000) (xw := xww) hd0 hd1 hs0.1 ho0.1 (by omega) (by omega) hwp (by omega) ⟨rw0, rw1⟩)
                    clear hk3 hk2
                    go_upto_region 26 with fail
                    go_region_held3 (fun w' => w'.cell? ⟨p, 0, none⟩ = some (.int .i64 xk) ∧ w'.cell? ⟨p, 1, none⟩ = some (.int .i64 xww) ∧ w'.cell? ⟨p, 2, none⟩ = some (.int .i64 xy) ∧ w'.cell? ⟨p, 3, none⟩ = some (.int .i64 xz) ∧ w'.cell? ⟨p, 4, none⟩ = some (.int .i64 xcc) ∧ w'.cell? ⟨p, 5, none⟩ = some (.bool xff))
                      (first | go_keep | (refine ⟨?_, ?_, ?_, ?_, ?_, ?_⟩ <;> (rw [hb9.cell (World.block_lt_of_cell? _ _ (by assumption))]; assumption)))
                      (first | (go_at_call 53; refine (cof _).mono ?_; rintro e w' ⟨rfl, hb9⟩))
                    all_goals go_wp2_with fail
                    all_goals go_meet
                    case rel =>
                      refine ⟨?_, ((Below.refl wc.heap.size wc).drew).trans hb9⟩
                      rw [HWD.out, HW.out]
                      rfl
                  · have HW := Lib.hid (show wd = xww by rw [HWF.out, if_neg hk3, if_neg hk2])
                    by_cases hk4 : xk = 2
                    · have e2 : (xk == 2) = true := by simpa using hk4
                      have e4 : decide (0 < wh) = false := decide_eq_false (fun h => hk2 ⟨hk4, h⟩)
                      clear hk3 hk2 hk4
                      go_wp2_with fail
                      go_meet
                      case rel => exact ⟨by rw [HW.out], Below.refl _ _⟩
                    · have e2 : (xk == 2) = false := by simpa using hk4
                      clear hk3 hk2 hk4
                      go_wp2_with fail
                      go_meet
                      case rel => exact ⟨by rw [HW.out], Below.refl _ _⟩
              case rest =>
                obtain ⟨rfl, hb5⟩ := hcut
                clear k0 k1 k2 k3 k4 k5
                have Bx := Bx.below hb5
                have k0 : wc.cell? ⟨p, 0, none⟩ = some (.int .i64 xk) := Bx.cell 0 rfl
                have k1 : wc.cell? ⟨p, 1, none⟩ = some (.int .i64 xww) := Bx.cell 1 rfl
                have k2 : wc.cell? ⟨p, 2, none⟩ = some (.int .i64 xy) := Bx.cell 2 rfl
                have k3 : wc.cell? ⟨p, 3, none⟩ = some (.int .i64 xz) := Bx.cell 3 rfl
                have k4 : wc.cell? ⟨p, 4, none⟩ = some (.int .i64 xcc) := Bx.cell 4 rfl
                have k5 : wc.cell? ⟨p, 5, none⟩ = some (.bool xff) := Bx.cell 5 rfl
                have hbr5 := below_trans' (below_trans' hbr hbr.size hb4) (Nat.le_trans hbr.size hb4.size) hb5
                have ho5 := (ho.below hb4).below hb5
                go_wp2_with (first
                  | (go_at_call 53; refine (cof _).mono ?_; rintro e w8 ⟨rfl, hb8⟩; have ho6 := ho5.below hb8; have hbr6 := below_trans' hbr5 hbr5.size hb8)
                  | (at_builtin; refine wpList_push elemI rfl (.tmp 121) (.tmp 123) rfl rfl _ rfl (ho6.alloc _) wd _ rfl (by simp) (intC_one _) rfl (by unfold maxLen; omega) (Nat.le_trans hbr6.size (by simp)) ?_; intro A3 c3 w5 ho7 hg7 ha7))
                go_roundw
                case rel =>
                  refine ⟨i + 1, A3, c3, by omega, by go_num, rfl, by rw [HSS.out], ?_, (hbr6.alloc hbr6.size _).grown hg7 (Nat.le_trans hbr6.size (by simp)) (fun g hg => (ho6.lt g hg).1)⟩
                  rw [HWS.out]
                  exact ho7
                case measure => simp [intOf]; omega
          · have hij : i = j := by omega
            subst hij
            go_wp2_with fail
            go_ret2
            exact ⟨A1, c1, rfl, by rw [HSL.out]; exact ho.base hbw2.size, below_trans' hbw2 hbw2.size hbr⟩
      · have e0 : decide (xm - xw < 0) = false := decide_eq_false hD0
        have hmin : ∃ dd, xm - xw = dd ∧ 0 ≤ dd ∧ dd ≤ 31680 := ⟨_, rfl, by omega, by omega⟩
        obtain ⟨dd, hdd, hd0, hd1⟩ := hmin
        have HSL := Lib.hid (show setL (xm - xw) xs f j = wdL false dd (sumF false xs f j) xs f j by unfold setL; rw [if_neg hD0, hdd])
        have HDD := Lib.hid hdd
        have HSB := Lib.hid (fun i (hi : i ≤ j) => (⟨(SY.out i (by omega)).1, MY.out i j hi (by omega)⟩ : 0 ≤ sumF false xs f i ∧ sumF false xs f i ≤ sumF false xs f j))
        clear hD0 hdd MZ MY SY SZ
        generalize sumF true xs f j = wz at *
        generalize sumF false xs f j = wh at *
        go_upto_if 71 with fail
        go_cut [12, 13, 14, 15] (fun vd vf vw vs wx => vd = .int .i64 dd ∧ vf = .func (Fn.func 52) #[] #[] ∧ vw = .int .i64 wh ∧ vs = .int .i64 1 ∧ w2 = wx)
        case first =>
          go_wp2_with fail
          go_meet
          case rel => exact ⟨by rw [← HDD.out], rfl, rfl, rfl, rfl⟩
        case rest =>
        obtain ⟨rfl, rfl, rfl, rfl, rfl⟩ := hcut
        clear k3 k4 HDD
        go_wp2_with fail
        go_loopw [16, 17, 79] (fun vo vs vi wr => ∃ (i : Nat) (A1 : Option Addr) (c1 : Nat), i ≤ j ∧ vi = .int .i64 i ∧ vo = .slice A1 i c1 ∧ vs = .int .i64 (sumF false xs f i) ∧ Own wr w2.heap.size 3 1 intC A1 i c1 (wdL false dd wh xs f i) ∧ Below w2.heap.size w2 wr) (fun _ _ vi _ => j - (intOf vi).toNat)
        case atStart => exact ⟨0, none, 0, Nat.zero_le _, rfl, rfl, by rw [sumF_zero], Own.nil_ _ _ _ _ _, Below.refl _ _⟩
        case round =>
          obtain ⟨i, A1, c1, hi, rfl, rfl, rfl, ho, hbr⟩ := hrel
          by_cases hlt : i < j
          · obtain ⟨ad2, e, hl2, k0, k1, k2, k3, k4, k5⟩ := (ha2.below hbr).it hlt
            injection e with e
            subst e
            rw [HG.out i hlt] at k0 k1 k2 k3 k4 k5
            have HSS := Lib.hid (sumF_succ false xs f i)
            have HWS := Lib.hid (wdL_succ false dd wh xs f i)
            have R := HR.out (f + i) (by omega)
            have hs0 := HSB.out i (by omega)
            have hs1 := HSB.out (i + 1) (by omega)
            have hwF : wdF false dd wh xs f i = if (gT xs (f + i)).kind = 3 then 0 else if (gT xs (f + i)).kind = 2 ∧ 0 < wh then (gT xs (f + i)).width + sgF false * addF dd wh (sumF false xs f i) (ofF false (gT xs (f + i))) else (gT xs (f + i)).width := rfl
            have hoF : ofF false (gT xs (f + i)) = (gT xs (f + i)).stretch := rfl
            have ho0 := ofF_bd R false
            rw [sumF_succ, hoF] at hs1
            rw [hoF] at hwF HSS ho0
            have HWF := Lib.hid hwF
            have rw0 := R.w0
            have rw1 := R.w1
            have cof := of1_any (gT xs (f + i))
            unfold itV at cof
            clear hwF hoF R
            generalize wdF false dd wh xs f i = wd at *
            generalize wdL false dd wh xs f i = WL at *
            generalize sumF false xs f i = sm at *
            generalize gT xs (f + i) = x at *
            obtain ⟨xk, xww, xy, xz, xcc, xff⟩ := x
            simp only at *
            go_upto_region 21 with fail
            go_cut [19] (fun v wx => ∃ p, v = .pointer (some ⟨p, 0, none⟩) ∧ wr.heap.size ≤ p ∧ Blk wx p 52 #[.int .i64 xk, .int .i64 xww, .int .i64 xy, .int .i64 xz, .int .i64 xcc, .bool xff] ∧ Below wr.heap.size wr wx)
            case first =>
              go_wp2_with fail
              go_meet
              case rel => exact ⟨_, rfl, Nat.le_refl _, Blk.new _ _ _, (Below.refl _ _).alloc (Nat.le_refl _) _⟩
            case rest =>
              obtain ⟨p, rfl, hp, Bx, hb4⟩ := hcut
              clear k0 k1 k2 k3 k4 k5
              have k0 : wc.cell? ⟨p, 0, none⟩ = some (.int .i64 xk) := Bx.cell 0 rfl
              have k1 : wc.cell? ⟨p, 1, none⟩ = some (.int .i64 xww) := Bx.cell 1 rfl
              have k2 : wc.cell? ⟨p, 2, none⟩ = some (.int .i64 xy) := Bx.cell 2 rfl
              have k3 : wc.cell? ⟨p, 3, none⟩ = some (.int .i64 xz) := Bx.cell 3 rfl
              have k4 : wc.cell? ⟨p, 4, none⟩ = some (.int .i64 xcc) := Bx.cell 4 rfl
              have k5 : wc.cell? ⟨p, 5, none⟩ = some (.bool xff) := Bx.cell 5 rfl
              go_upto_block 4 with fail
              go_cut [20] (fun v wx => v = .int .i64 wd ∧ Below wc.heap.size wc wx)
              case first =>
                by_cases hk3 : xk = 3
                · have e3 : (xk == 3) = true := by simpa using hk3
                  have HW := Lib.hid (show wd = 0 by rw [HWF.out, if_pos hk3])
                  clear hk3
                  go_wp2_with fail
                  go_meet
                  case rel => exact ⟨by rw [HW.out], Below.refl _ _⟩
                · have e3 : (xk == 3) = false := by simpa using hk3
                  by_cases hk2 : xk = 2 ∧ 0 < wh
                  · have e2 : (xk == 2) = true := by simpa using hk2.1
                    have e4 : decide (0 < wh) = true := decide_eq_true hk2.2
                    have e5 : (wh == 0) = false := by simp; omega
                    have e6 : wh ≠ 0 := by omega
                    have hwp := hk2.2
                    have HW := Lib.hid (show wd = xww + sgF false * addF dd wh sm xy by rw [HWF.out, if_neg hk3, if_pos hk2])
                    have n1 : IntKind.i64.wrap (sm + xy) = sm + xy := IntWalk.i64_in _ (by omega)
                    have HWD := Lib.hid (wd_pos (DM := 31680) (WM := 4300000000) (xw := xww) hd0 hd1 hs0.1 ho0.1 (by omega) (by omega) hwp (by omega) ⟨rw0, rw1⟩)
                    clear hk3 hk2
                    go_upto_region 26 with fail
                    go_region_held3 (fun w' => w'.cell? ⟨p, 0, none⟩ = some (.int .i64 xk) ∧ w'.cell? ⟨p, 1, none⟩ = some (.int .i64 xww) ∧ w'.cell? ⟨p, 2, none⟩ = some (.int .i64 xy) ∧ w'.cell? ⟨p, 3, none⟩ = some (.int .i64 xz) ∧ w'.cell? ⟨p, 4, none⟩ = some (.int .i64 xcc) ∧ w'.cell? ⟨p, 5, none⟩ = some (.bool xff))
                      (first | go_keep | (refine ⟨?_, ?_, ?_, ?_, ?_, ?_⟩ <;> (rw [hb9.cell (World.block_lt_of_cell? _ _ (by assumption))]; assumption)))
                      (first | (go_at_call 52; refine (cof _).mono ?_; rintro e w' ⟨rfl, hb9⟩))
                    all_goals go_wp2_with fail
                    all_goals go_meet
                    case rel =>
                      refine ⟨?_, ((Below.refl wc.heap.size wc).drew).trans hb9⟩
                      rw [HWD.out, HW.out]
                      rfl
                  · have HW := Lib.hid (show wd = xww by rw [HWF.out, if_neg hk3, if_neg hk2])
                    by_cases hk4 : xk = 2
                    · have e2 : (xk == 2) = true := by simpa using hk4
                      have e4 : decide (0 < wh) = false := decide_eq_false (fun h => hk2 ⟨hk4, h⟩)
                      clear hk3 hk2 hk4
                      go_wp2_with fail
                      go_meet
                      case rel => exact ⟨by rw [HW.out], Below.refl _ _⟩
                    · have e2 : (xk == 2) = false := by simpa using hk4
                      clear hk3 hk2 hk4
                      go_wp2_with fail
                      go_meet
                      case rel => exact ⟨by rw [HW.out], Below.refl _ _⟩
              case rest =>
                obtain ⟨rfl, hb5⟩ := hcut
                clear k0 k1 k2 k3 k4 k5
                have Bx := Bx.below hb5
                have k0 : wc.cell? ⟨p, 0, none⟩ = some (.int .i64 xk) := Bx.cell 0 rfl
                have k1 : wc.cell? ⟨p, 1, none⟩ = some (.int .i64 xww) := Bx.cell 1 rfl
                have k2 : wc.cell? ⟨p, 2, none⟩ = some (.int .i64 xy) := Bx.cell 2 rfl
                have k3 : wc.cell? ⟨p, 3, none⟩ = some (.int .i64 xz) := Bx.cell 3 rfl
                have k4 : wc.cell? ⟨p, 4, none⟩ = some (.int .i64 xcc) := Bx.cell 4 rfl
                have k5 : wc.cell? ⟨p, 5, none⟩ = some (.bool xff) := Bx.cell 5 rfl
                have hbr5 := below_trans' (below_trans' hbr hbr.size hb4) (Nat.le_trans hbr.size hb4.size) hb5
                have ho5 := (ho.below hb4).below hb5
                go_wp2_with (first
                  | (go_at_call 52; refine (cof _).mono ?_; rintro e w8 ⟨rfl, hb8⟩; have ho6 := ho5.below hb8; have hbr6 := below_trans' hbr5 hbr5.size hb8)
                  | (at_builtin; refine wpList_push elemI rfl (.tmp 121) (.tmp 123) rfl rfl _ rfl (ho6.alloc _) wd _ rfl (by simp) (intC_one _) rfl (by unfold maxLen; omega) (Nat.le_trans hbr6.size (by simp)) ?_; intro A3 c3 w5 ho7 hg7 ha7))
                go_roundw
                case rel =>
                  refine ⟨i + 1, A3, c3, by omega, by go_num, rfl, by rw [HSS.out], ?_, (hbr6.alloc hbr6.size _).grown hg7 (Nat.le_trans hbr6.size (by simp)) (fun g hg => (ho6.lt g hg).1)⟩
                  rw [HWS.out]
                  exact ho7
                case measure => simp [intOf]; omega
          · have hij : i = j := by omega
            subst hij
            go_wp2_with fail
            go_ret2
            exact ⟨A1, c1, rfl, by rw [HSL.out]; exact ho.base hbw2.size, below_trans' hbw2 hbw2.size hbr⟩
end Go.Proofs.Ytogbapdioccamaa
