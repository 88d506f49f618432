/- set of the model. -/
import Derived.Test.YtogbapdioccamaaE53
namespace Go.Proofs.Ytogbapdioccamaa
open Go.RowKit

theorem keep6 {w w' : World} {p0 p1 p2 p3 p4 p5 : Addr} {v0 v1 v2 v3 v4 v5 : Value} (hb : Below w.heap.size w w') (h : w.cell? p0 = some v0 ∧ w.cell? p1 = some v1 ∧ w.cell? p2 = some v2 ∧ w.cell? p3 = some v3 ∧ w.cell? p4 = some v4 ∧ w.cell? p5 = some v5) :
    w'.cell? p0 = some v0 ∧ w'.cell? p1 = some v1 ∧ w'.cell? p2 = some v2 ∧ w'.cell? p3 = some v3 ∧ w'.cell? p4 = some v4 ∧ w'.cell? p5 = some v5 := by
  have k : ∀ p v, w.cell? p = some v → w'.cell? p = some v := fun p v h => (hb.cell (World.block_lt_of_cell? _ _ h)).trans h
  exact ⟨k _ _ h.1, k _ _ h.2.1, k _ _ h.2.2.1, k _ _ h.2.2.2.1, k _ _ h.2.2.2.2.1, k _ _ h.2.2.2.2.2⟩
theorem sumW_bd {xs : List It} {n fr : Nat} (hR : ∀ k, k < n → Right 31680 (gT xs k)) : ∀ j, fr + j ≤ n → 0 ≤ sumTo wOf xs (fr + j) - sumTo wOf xs fr ∧ sumTo wOf xs (fr + j) - sumTo wOf xs fr ≤ 31680 * (j : Int)
  | 0, _ => by rw [Nat.add_zero, Int.sub_self]; simp
  | j + 1, h => by
    have h1 := sumW_bd hR (fr := fr) j (by omega)
    have R := hR (fr + j) (by omega)
    have e : sumTo wOf xs (fr + (j + 1)) = sumTo wOf xs (fr + j) + wOf (gT xs (fr + j)) := rfl
    have h2 : 0 ≤ wOf (gT xs (fr + j)) ∧ wOf (gT xs (fr + j)) ≤ 31680 := by
      have := R.w0; have := R.w1
      unfold wOf
      split <;> omega
    rw [e]
    omega
theorem sumWd_bd {xs : List It} {n fr : Nat} {s : Bool} {dd wh : Int} (hR : ∀ k, k < n → Right 31680 (gT xs k)) (hn : n ≤ 4096) (hd0 : 0 ≤ dd) (hd1 : dd ≤ 200000000) {v : Int} (h0 : 0 ≤ v) (h1 : v ≤ wh) (j : Nat) (hj : fr + j ≤ n) (hv : v = sumF s xs fr j) :
    -400000000 ≤ sumWd s dd wh xs fr j ∧ sumWd s dd wh xs fr j ≤ 400000000 := by
  rw [sumWd_eq hR j hj, ← hv]
  have hw := sumW_bd hR (fr := fr) j hj
  by_cases hwh : 0 < wh
  · rw [if_pos hwh]
    have a1 : 0 ≤ dd * v / wh := Int.ediv_nonneg (Int.mul_nonneg hd0 h0) (by omega)
    have a2 : dd * v / wh ≤ dd := Int.ediv_le_of_le_mul hwh (Int.mul_le_mul_of_nonneg_left h1 hd0)
    unfold sgF
    split <;> omega
  · rw [if_neg hwh]
    omega
set_option maxRecDepth 100000 in
set_option maxHeartbeats 4000000 in
theorem mset_any (A B : Option Addr) (n c f k t b e0 : Nat) (xs : List It) (x : Ln) (w : World) (ha : Sl w 6 itC A n xs) (hB : Sl w 1 intC B k (setL (x.meas - x.width) xs f k)) (hn : n ≤ 4096) (hRn : ∀ i, i < n → Right 31680 (gT xs i)) (hxf : x.fr = f) (hxt : x.to = t) (hxb : x.br = b) (ht : t = f + k) (htn : t ≤ n) (hb : b < n)
    (hD : -1000000000 ≤ x.meas - x.width ∧ x.meas - x.width ≤ 31680) (hfin : FinOk xs x b f k (setS (x.meas - x.width) xs f k)) :
    Calls Try.prog 36 #[.slice A n c, lnV x, .slice B k e0] w fun e w' => e = .returned (.bool true) ∧ Below w.heap.size w w' := by
  unfold FinOk at hfin
  obtain ⟨xf, xt, xb, xm, xw, xr, xc, xbad, xo, xd⟩ := x
  simp only at hxf hxt hxb hD hfin hB
  subst hxf
  subst hxt
  subst hxb
  unfold lnV
  have hs := Blk.new w 56 #[.int .i64 f, .int .i64 t, .int .i64 b, .int .i64 xm, .int .i64 xw, .int .i64 xr, .int .i64 xc, .int .i64 xbad, .int .i64 xo, .int .i64 xd]
  have hb0 := (Below.refl w.heap.size w).alloc (Nat.le_refl _) (.cells #[.int .i64 f, .int .i64 t, .int .i64 b, .int .i64 xm, .int .i64 xw, .int .i64 xr, .int .i64 xc, .int .i64 xbad, .int .i64 xo, .int .i64 xd] 56)
  have ha2 := sl_alloc ha (.cells #[.int .i64 f, .int .i64 t, .int .i64 b, .int .i64 xm, .int .i64 xw, .int .i64 xr, .int .i64 xc, .int .i64 xbad, .int .i64 xo, .int .i64 xd] 56)
  have hB2 := sl_alloc hB (.cells #[.int .i64 f, .int .i64 t, .int .i64 b, .int .i64 xm, .int .i64 xw, .int .i64 xr, .int .i64 xc, .int .i64 xbad, .int .i64 xo, .int .i64 xd] 56)
  obtain ⟨ad, rfl, hadl, -⟩ := ha.it (k := b) hb
  have SY := Lib.hid (fun j (hj : f + j ≤ n) => sumF_bd (s := false) (fr := f) (fun i (hi : i < n) => ofF_bd (hRn i hi) false) hj)
  have SZ := Lib.hid (fun j (hj : f + j ≤ n) => sumF_bd (s := true) (fr := f) (fun i (hi : i < n) => shr_bd (hRn i hi)) hj)
  have MY := Lib.hid (fun i j (hij : i ≤ j) (hj : f + j ≤ n) => sumF_mono (s := false) (fr := f) (fun i (hi : i < n) => ofF_bd (hRn i hi) false) hij hj)
  have MZ := Lib.hid (fun i j (hij : i ≤ j) (hj : f + j ≤ n) => sumF_mono (s := true) (fr := f) (fun i (hi : i < n) => shr_bd (hRn i hi)) hij hj)
  have HR := Lib.hid hRn
  have HFIN := Lib.hid hfin
  have hft : f ≤ t := by omega
  have HT := Lib.hid ht
  have hkk : (k : Int) = t - f := by omega
  have hHK : ((k : Int) != (t : Int) - (f : Int)) = false := by rw [hkk]; simp
  have HYB := Lib.hid (fun i (hi : i ≤ k) => (⟨(SY.out i (by omega)).1, by have := (SY.out i (by omega)).2; omega⟩ : 0 ≤ sumF false xs f i ∧ sumF false xs f i ≤ 4300000000))
  clear ht hkk hRn hfin
  go_enter Try.func36, Try.ntmps36
  go_upto_region 1 with fail
  generalize (w.alloc (.cells #[.int .i64 f, .int .i64 t, .int .i64 b, .int .i64 xm, .int .i64 xw, .int .i64 xr, .int .i64 xc, .int .i64 xbad, .int .i64 xo, .int .i64 xd] 56)) = W0 at *
  have q0 : W0.cell? ⟨w.heap.size, 0, none⟩ = some (.int .i64 f) := hs.cell 0 rfl
  have q1 : W0.cell? ⟨w.heap.size, 1, none⟩ = some (.int .i64 t) := hs.cell 1 rfl
  have q3 : W0.cell? ⟨w.heap.size, 3, none⟩ = some (.int .i64 xm) := hs.cell 3 rfl
  have q4 : W0.cell? ⟨w.heap.size, 4, none⟩ = some (.int .i64 xw) := hs.cell 4 rfl
  clear ha hB
  by_cases hD0 : xm - xw < 0
  · have d0 : decide (xm - xw < 0) = true := decide_eq_true hD0
    have HSB := Lib.hid (fun i (hi : i ≤ k) => (⟨(SZ.out i (by have := HT.out; omega)).1, MZ.out i k hi (by have := HT.out; omega), by have := (SZ.out k (by have := HT.out; omega)).2; have := HT.out; omega⟩ : 0 ≤ sumF true xs f i ∧ sumF true xs f i ≤ sumF true xs f k ∧ sumF true xs f k ≤ 130000000))
    go_upto_if 31 with fail
    go_cut [7, 8] (fun vd vs wx => vd = .int .i64 (-(xm - xw)) ∧ vs = .int .i64 (-1) ∧ W0 = wx)
    case first =>
      go_wp2_with fail
      go_meet
      case rel => exact ⟨rfl, rfl, rfl⟩
    case rest =>
        obtain ⟨rfl, rfl, rfl⟩ := hcut
        clear q1 q3 q4 hHK d0
        have hDD := Lib.hid hD0
        clear hD0
        go_wp2_with fail
        clear q0
        go_loopw [9, 10, 11] (fun vt vs vi wr => ∃ i : Nat, f ≤ i ∧ i ≤ t ∧ vi = .int .i64 i ∧ vt = .int .i64 (sumF true xs f (i - f)) ∧ vs = .int .i64 (sumF false xs f (i - f)) ∧ Below W0.heap.size W0 wr) (fun _ _ vi _ => t - (intOf vi).toNat)
        case atStart => exact ⟨f, Nat.le_refl _, hft, rfl, by rw [Nat.sub_self, sumF_zero], by rw [Nat.sub_self, sumF_zero], Below.refl _ _⟩
        case round =>
          obtain ⟨i, hfi, hit, rfl, rfl, rfl, hbr⟩ := hrel
          have B1 := hs.below hbr
          have q0 : wr.cell? ⟨w.heap.size, 0, none⟩ = some (.int .i64 f) := B1.cell 0 rfl
          have q1 : wr.cell? ⟨w.heap.size, 1, none⟩ = some (.int .i64 t) := B1.cell 1 rfl
          by_cases hlt : i < t
          · obtain ⟨ad2, e, hl2, k0, k1, k2, k3, k4, k5⟩ := (ha2.below hbr).it (k := i) (by omega)
            injection e with e
            subst e
            have R := HR.out i (by omega)
            have HSS := Lib.hid (show sumF true xs f (i + 1 - f) = sumF true xs f (i - f) + ofF true (gT xs i) by rw [show i + 1 - f = (i - f) + 1 by omega, sumF_succ, show f + (i - f) = i by omega])
            have HSY := Lib.hid (show sumF false xs f (i + 1 - f) = sumF false xs f (i - f) + ofF false (gT xs i) by rw [show i + 1 - f = (i - f) + 1 by omega, sumF_succ, show f + (i - f) = i by omega])
            have s0 := HSB.out (i - f) (by have := HT.out; omega)
            have y0 := HYB.out (i - f) (by have := HT.out; omega)
            have o1 := ofF_bd R true
            have o2 := ofF_bd R false
            have cp := fun s W => part_any (gT xs i) s W R
            have N1 := Lib.hid (show IntKind.i64.wrap (sumF true xs f (i - f) + ofF true (gT xs i)) = sumF true xs f (i - f) + ofF true (gT xs i) from IntWalk.i64_in _ (by omega))
            have N2 := Lib.hid (show IntKind.i64.wrap (sumF false xs f (i - f) + ofF false (gT xs i)) = sumF false xs f (i - f) + ofF false (gT xs i) from IntWalk.i64_in _ (by omega))
            clear R o1 o2
            generalize sumF true xs f (i - f) = sm at *
            generalize sumF false xs f (i - f) = sy at *
            generalize gT xs i = x at *
            obtain ⟨xk, xww, xy, xz, xcc, xff⟩ := x
            unfold itV at cp
            simp only at *
            go_upto_region 10 with fail
            have i0 : (0 : Int) ≤ (i : Int) := by omega
            have i1 : (i : Int) < (n : Int) := by omega
            go_region_held3 (fun w' => w'.cell? (ad.add (i * 6)) = some (.int .i64 xk) ∧ w'.cell? ⟨(ad.add (i * 6)).block, (ad.add (i * 6)).off + 1, none⟩ = some (.int .i64 xww) ∧ w'.cell? ⟨(ad.add (i * 6)).block, (ad.add (i * 6)).off + 2, none⟩ = some (.int .i64 xy) ∧ w'.cell? ⟨(ad.add (i * 6)).block, (ad.add (i * 6)).off + 3, none⟩ = some (.int .i64 xz) ∧ w'.cell? ⟨(ad.add (i * 6)).block, (ad.add (i * 6)).off + 4, none⟩ = some (.int .i64 xcc) ∧ w'.cell? ⟨(ad.add (i * 6)).block, (ad.add (i * 6)).off + 5, none⟩ = some (.bool xff))
              (first | go_keep | (refine keep6 hb9 ?_; assumption))
              (first | (go_at_call 54; refine (cp _ _).mono ?_; rintro e w' ⟨rfl, hb9⟩; first | have hbr := below_trans' hbr hbr.size hb9 | have hbr := below_trans' hbr.drew hbr.size hb9))
            all_goals rw [N1.out, N2.out]
            all_goals go_wp2_with fail
            all_goals go_roundw
            case rel => exact ⟨i + 1, by omega, by omega, by go_num, by rw [HSS.out], by rw [HSY.out], hbr⟩
            case measure => simp [intOf]; omega
          · have hit2 : i = t := by omega
            subst hit2
            have hbr1 := hbr
            rw [show i - f = k by have := HT.out; omega]
            have HTK := Lib.hid (show i - f = k by have := HT.out; omega)
            generalize hWH : sumF true xs f k = wh at *
            generalize hWY : sumF false xs f k = wy at *; have HWY := Lib.hid hWY; clear hWY
            go_upto_if 59 with fail
            go_cut [7] (fun vd wx => vd = .int .i64 (min (-(xm - xw)) wh) ∧ wr = wx)
            case first =>
              go_wp2_with fail
              go_meet
              case rel => exact ⟨rfl, rfl⟩
            case rest =>
              obtain ⟨rfl, rfl⟩ := hcut
              obtain ⟨w1, rfl⟩ : ∃ w1 : World, w1 = wr := ⟨_, rfl⟩
              have hSL : setL (xm - xw) xs f k = wdL true (min (-(xm - xw)) wh) wh xs f k := by unfold setL; rw [if_pos (by have := hDD.out; omega), hWH]
              have hSS : setS (xm - xw) xs f k = sumWd true (min (-(xm - xw)) wh) wh xs f k := by unfold setS; rw [if_pos (by have := hDD.out; omega), hWH]
              rw [hSL] at hB2
              have hfin := HFIN.out
              clear HFIN
              rw [hSS] at hfin
              obtain ⟨dd, hdd, hd0, hd1⟩ : ∃ dd, min (-(xm - xw)) wh = dd ∧ 0 ≤ dd ∧ dd ≤ 200000000 := ⟨_, rfl, by have := hDD.out; have := (HSB.out k (Nat.le_refl _)).1; have := (HSB.out k (Nat.le_refl _)).2.2; omega, by have := hDD.out; have := (HSB.out k (Nat.le_refl _)).2.2; omega⟩
              rw [hdd] at hB2 hfin ⊢
              have HFIN := Lib.hid hfin
              have HSB2 := Lib.hid (fun j (hj : j ≤ k) => (HSB.out j hj : 0 ≤ sumF true xs f j ∧ sumF true xs f j ≤ wh ∧ wh ≤ 130000000))
              have HSW := Lib.hid (fun j (hj : f + j ≤ n) (hj2 : j ≤ k) => sumWd_bd (s := true) (dd := dd) (wh := wh) HR.out hn hd0 hd1 (HSB2.out j hj2).1 (HSB2.out j hj2).2.1 j hj rfl)
              clear hSL hSS hdd hfin hWH HSB HYB SY SZ MY MZ hbr B1 q1 hlt
              generalize hXX : xm - xw = D at *
              clear hXX
              have hxy : True := trivial
              go_wp2_with fail
              clear q0
              go_loopw [12, 13, 14] (fun vb vs vi wr => ∃ j : Nat, f ≤ j ∧ j ≤ i ∧ vi = .int .i64 j ∧ vb = .int .i64 (sumF true xs f (j - f)) ∧ vs = .int .i64 (sumWd true dd wh xs f (j - f)) ∧ Below W0.heap.size W0 wr) (fun _ _ vi _ => i - (intOf vi).toNat)
              case atStart => exact ⟨f, Nat.le_refl _, hft, rfl, by rw [Nat.sub_self, sumF_zero], by rw [Nat.sub_self]; rfl, hbr1⟩
              case round =>
                clear hbr1
                obtain ⟨j, hfj, hji, rfl, rfl, rfl, hbr⟩ := hrel
                have B1 := hs.below hbr
                have q0 : wr.cell? ⟨w.heap.size, 0, none⟩ = some (.int .i64 f) := B1.cell 0 rfl
                have q1 : wr.cell? ⟨w.heap.size, 1, none⟩ = some (.int .i64 i) := B1.cell 1 rfl
                have q2 : wr.cell? ⟨w.heap.size, 2, none⟩ = some (.int .i64 b) := B1.cell 2 rfl
                have q3 : wr.cell? ⟨w.heap.size, 3, none⟩ = some (.int .i64 xm) := B1.cell 3 rfl
                have q4 : wr.cell? ⟨w.heap.size, 4, none⟩ = some (.int .i64 xw) := B1.cell 4 rfl
                have q8 : wr.cell? ⟨w.heap.size, 8, none⟩ = some (.int .i64 xo) := B1.cell 8 rfl
                by_cases hlt : j < i
                · obtain ⟨ad2, e, hl2, k0, k1, k2, k3, k4, k5⟩ := (ha2.below hbr).it (k := j) (by omega)
                  injection e with e
                  subst e
                  have R := HR.out j (by omega)
                  have hjk : j - f < k := by have := HTK.out; omega
                  have HJ := Lib.hid (show j + 1 - f = (j - f) + 1 by omega)
                  have HFJ := Lib.hid (show f + (j - f) = j by omega)
                  have HSS := Lib.hid (show sumF true xs f (j + 1 - f) = sumF true xs f (j - f) + ofF true (gT xs j) by rw [HJ.out, sumF_succ, HFJ.out])
                  have HSW1 := Lib.hid (show sumWd true dd wh xs f (j + 1 - f) = sumWd true dd wh xs f (j - f) + wdF true dd wh xs f (j - f) by rw [HJ.out]; rfl)
                  have hsb := HSB2.out (j - f) (by omega)
                  have hsb1 := HSB2.out (j + 1 - f) (by omega)
                  have hsw := HSW.out (j - f) (by omega) (by omega)
                  have hsw1 := HSW.out (j + 1 - f) (by omega) (by omega)
                  rw [HSS.out] at hsb1
                  rw [HSW1.out] at hsw1
                  have hwd := wd_eq (s := true) (dd := dd) (wh := wh) (xs := xs) (fr := f) (j := j - f) (by rw [HFJ.out]; exact R)
                  rw [HFJ.out] at hwd
                  have HWD := Lib.hid hwd
                  have o1 := ofF_bd R true
                  have cp := fun s W => part_any (gT xs j) s W R
                  have hWg : gI (wdL true dd wh xs f k) (j - f) = wdF true dd wh xs f (j - f) := gI_range _ hjk
                  obtain ⟨aB, eB, hlB, kB⟩ := (hB2.below hbr).int hjk
                  rw [hWg] at kB
                  subst eB
                  have rw0 := R.w0
                  have rw1 := R.w1
                  clear R hwd hWg
                  generalize wdF true dd wh xs f (j - f) = wd at *
                  generalize sumWd true dd wh xs f (j - f) = sw at *
                  generalize sumF true xs f (j - f) = sm at *
                  generalize hOF : ofF true (gT xs j) = p at *
                  generalize gT xs j = x at *
                  obtain ⟨xk, xww, xy, xz, xcc, xff⟩ := x
                  unfold itV at cp
                  simp only at *
                  have cp2 := fun W => cp true W
                  rw [hOF] at cp2
                  clear cp hOF
                  have i0 : (0 : Int) ≤ (j : Int) := by omega
                  have i1 : (j : Int) < (n : Int) := by omega
                  go_upto_region 17 with fail
                  go_cut [15, 16] (fun v15 v16 wx => v15 = .int .i64 xww ∧ v16 = .int .i64 p ∧ Below wr.heap.size wr wx)
                  case first =>
                    have hz := Below.refl wr.heap.size wr
                    go_region_held3 (fun w' => w'.cell? (ad.add (j * 6)) = some (.int .i64 xk) ∧ w'.cell? ⟨(ad.add (j * 6)).block, (ad.add (j * 6)).off + 1, none⟩ = some (.int .i64 xww) ∧ w'.cell? ⟨(ad.add (j * 6)).block, (ad.add (j * 6)).off + 2, none⟩ = some (.int .i64 xy) ∧ w'.cell? ⟨(ad.add (j * 6)).block, (ad.add (j * 6)).off + 3, none⟩ = some (.int .i64 xz) ∧ w'.cell? ⟨(ad.add (j * 6)).block, (ad.add (j * 6)).off + 4, none⟩ = some (.int .i64 xcc) ∧ w'.cell? ⟨(ad.add (j * 6)).block, (ad.add (j * 6)).off + 5, none⟩ = some (.bool xff))
                      (first | go_keep | (refine keep6 hb9 ?_; assumption))
                      (first | (go_at_call 54; refine (cp2 _).mono ?_; rintro e w' ⟨rfl, hb9⟩; have hz := below_trans' hz.drew hz.size hb9))
                    all_goals go_wp2_with fail
                    all_goals go_meet
                    case rel => exact ⟨rfl, rfl, hz⟩
                  case rest =>
                    obtain ⟨rfl, rfl, hb4⟩ := hcut
                    have kk : ∀ q v, wr.cell? q = some v → wc.cell? q = some v := fun q v h => (hb4.cell (World.block_lt_of_cell? _ _ h)).trans h
                    have k0 := kk _ _ k0
                    have q0 := kk _ _ q0
                    have q1 := kk _ _ q1
                    have kB := kk _ _ kB
                    have hbr4 := below_trans' hbr hbr.size hb4
                    obtain ⟨bs, hbs⟩ : ∃ bs, (if xk = 3 then 0 else xww) = bs := ⟨_, rfl⟩
                    have hbs1 : 0 ≤ bs ∧ bs ≤ 31680 := by rw [← hbs]; split <;> omega
                    have HBS := Lib.hid hbs
                    have hwd := HWD.out
                    rw [hbs] at hwd
                    have HWD := Lib.hid hwd
                    clear kk k1 k2 k3 k4 k5 q2 q3 q4 q8 cp2 hwd hbs
                    go_upto_if 88 with fail
                    go_cut [15] (fun v wx => v = .int .i64 bs ∧ wc = wx)
                    case first =>
                      by_cases hk3 : xk = 3
                      · have e3 : (xk == 3) = true := by simpa using hk3
                        have HB := Lib.hid (show bs = 0 by rw [← HBS.out, if_pos hk3])
                        clear hk3
                        go_wp2_with fail
                        go_meet
                        case rel => exact ⟨by rw [HB.out], rfl⟩
                      · have e3 : (xk == 3) = false := by simpa using hk3
                        have HB := Lib.hid (show bs = xww by rw [← HBS.out, if_neg hk3])
                        clear hk3
                        go_wp2_with fail
                        go_meet
                        case rel => exact ⟨by rw [HB.out], rfl⟩
                    case rest =>
                      obtain ⟨rfl, rfl⟩ := hcut
                      obtain ⟨wd0, rfl⟩ : ∃ wd0 : World, wd0 = wc := ⟨_, rfl⟩
                      go_upto_if 90 with fail
                      go_cut [15] (fun v wx => v = .int .i64 wd ∧ Below wd0.heap.size wd0 wx)
                      case first =>
                        by_cases hwh : 0 < wh
                        · have e4 : decide (0 < wh) = true := decide_eq_true hwh
                          have e5 : (wh == 0) = false := by simp; omega
                          have e6 : wh ≠ 0 := by omega
                          have n1 : IntKind.i64.wrap (sm + p) = sm + p := IntWalk.i64_in _ (by omega)
                          have hlm := wd_neg (DM := 200000000) (WM := 130000000) (wh := wh) (xw := bs) hd0 (by omega) hsb.1 o1.1 (show sm + p ≤ 130000000 by omega) (by omega) hwh (by omega) hbs1
                          have HLM := Lib.hid hlm
                          have HW := Lib.hid (show wd = bs + -1 * addF dd wh sm p by rw [HWD.out, if_pos hwh]; rfl)
                          clear hlm
                          go_wp2_with fail
                          go_quiet (fail)
                          go_wp2_with fail
                          go_meet
                          case rel =>
                            have hlm2 := HLM.out
                            simp only [IntKind.wrap_i64] at hlm2
                            exact ⟨by unfold wrap64; rw [hlm2, HW.out], below_drewN (Below.refl _ _) _⟩
                        · have e4 : decide (0 < wh) = false := decide_eq_false hwh
                          have HW := Lib.hid (show wd = bs by rw [HWD.out, if_neg hwh, Int.add_zero])
                          go_wp2_with fail
                          go_meet
                          case rel => exact ⟨by rw [HW.out], Below.refl _ _⟩
                      case rest =>
                        obtain ⟨rfl, hb5⟩ := hcut
                        have kk : ∀ q v, wd0.cell? q = some v → wc.cell? q = some v := fun q v h => (hb5.cell (World.block_lt_of_cell? _ _ h)).trans h
                        have q0 := kk _ _ q0
                        have kB := kk _ _ kB
                        have hbr5 := below_trans' hbr4 hbr4.size hb5
                        have n1 : IntKind.i64.wrap (sm + p) = sm + p := IntWalk.i64_in _ (by omega)
                        have n2 : IntKind.i64.wrap (sw + wd) = sw + wd := IntWalk.i64_in _ (by omega)
                        have n3 : IntKind.i64.wrap ((j : Int) - (f : Int)) = (j : Int) - (f : Int) := IntWalk.i64_in _ (by omega)
                        have n4 : (0 : Int) ≤ (j : Int) - (f : Int) := by omega
                        have n5 : (j : Int) - (f : Int) < (k : Int) := by omega
                        have n6 : ((j : Int) - (f : Int)).toNat = j - f := by omega
                        clear kk k0 q1
                        go_wp2_with fail
                        go_quiet (fail)
                        go_wp2_with fail
                        go_roundw
                        case rel => exact ⟨j + 1, by omega, by omega, by go_num, by rw [HSS.out], by rw [HSW1.out], below_drewN hbr5 _⟩
                        case measure => simp [intOf]; omega
                · have hij : j = i := by omega
                  subst hij
                  rw [HTK.out]
                  obtain ⟨ad2, e, hl2, k0, k1, k2, k3, k4, k5⟩ := (ha2.below hbr).it (k := b) hb
                  injection e with e
                  subst e
                  have hfin := HFIN.out
                  have b0 : (0 : Int) ≤ (b : Int) := by omega
                  have b1 : (b : Int) < (n : Int) := by omega
                  have hbz := below_trans' hb0 hb0.size hbr
                  clear HFIN k1 k2 k3 k4 k5
                  generalize sumWd true dd wh xs f k = sW at *
                  generalize sumF true xs f k = sFk at *
                  generalize (gT xs b).kind = kd at *
                  by_cases c1 : kd = 2
                  · have e1 : (kd != 2) = false := by simp [c1]
                    by_cases c2 : 0 < xo
                    · have e2 : decide (0 < xo) = true := decide_eq_true c2
                      clear hfin c1 c2
                      go_wp2_with fail
                      go_ret
                      exact ⟨rfl, hbz⟩
                    · have e2 : decide (0 < xo) = false := decide_eq_false c2
                      by_cases c3 : xw < xm
                      · have e3 : decide (xw < xm) = true := decide_eq_true c3
                        by_cases c4 : wy = 0
                        · have e4 : (wy == 0) = true := by simpa using c4
                          clear hfin c1 c2 c3 c4
                          go_wp2_with fail
                          go_ret
                          exact ⟨rfl, hbz⟩
                        · have e4 : (wy == 0) = false := by simpa using c4
                          have e5 : (sW == xm) = true := beq_iff_eq.2 (by omega)
                          clear hfin c1 c2 c3 c4
                          go_wp2_with fail
                          go_ret
                          exact ⟨rfl, hbz⟩
                      · have e3 : decide (xw < xm) = false := decide_eq_false c3
                        have e5 : (sW == xm) = true := beq_iff_eq.2 (by omega)
                        clear hfin c1 c2 c3
                        go_wp2_with fail
                        go_ret
                        exact ⟨rfl, hbz⟩
                  · have e1 : (kd != 2) = true := by simpa using c1
                    clear hfin c1
                    go_wp2_with fail
                    go_ret
                    exact ⟨rfl, hbz⟩
  · have d0 : decide (xm - xw < 0) = false := decide_eq_false hD0
    have HSB := Lib.hid (fun i (hi : i ≤ k) => (⟨(SY.out i (by have := HT.out; omega)).1, MY.out i k hi (by have := HT.out; omega), by have := (SY.out k (by have := HT.out; omega)).2; have := HT.out; omega⟩ : 0 ≤ sumF false xs f i ∧ sumF false xs f i ≤ sumF false xs f k ∧ sumF false xs f k ≤ 4300000000))
    go_upto_if 31 with fail
    go_cut [7, 8] (fun vd vs wx => vd = .int .i64 (xm - xw) ∧ vs = .int .i64 1 ∧ W0 = wx)
    case first =>
      go_wp2_with fail
      go_meet
      case rel => exact ⟨rfl, rfl, rfl⟩
    case rest =>
        obtain ⟨rfl, rfl, rfl⟩ := hcut
        clear q1 q3 q4 hHK d0
        have hDD := Lib.hid hD0
        clear hD0
        go_wp2_with fail
        clear q0
        go_loopw [9, 10, 11] (fun vt vs vi wr => ∃ i : Nat, f ≤ i ∧ i ≤ t ∧ vi = .int .i64 i ∧ vt = .int .i64 (sumF false xs f (i - f)) ∧ vs = .int .i64 (sumF false xs f (i - f)) ∧ Below W0.heap.size W0 wr) (fun _ _ vi _ => t - (intOf vi).toNat)
        case atStart => exact ⟨f, Nat.le_refl _, hft, rfl, by rw [Nat.sub_self, sumF_zero], by rw [Nat.sub_self, sumF_zero], Below.refl _ _⟩
        case round =>
          obtain ⟨i, hfi, hit, rfl, rfl, rfl, hbr⟩ := hrel
          have B1 := hs.below hbr
          have q0 : wr.cell? ⟨w.heap.size, 0, none⟩ = some (.int .i64 f) := B1.cell 0 rfl
          have q1 : wr.cell? ⟨w.heap.size, 1, none⟩ = some (.int .i64 t) := B1.cell 1 rfl
          by_cases hlt : i < t
          · obtain ⟨ad2, e, hl2, k0, k1, k2, k3, k4, k5⟩ := (ha2.below hbr).it (k := i) (by omega)
            injection e with e
            subst e
            have R := HR.out i (by omega)
            have HSS := Lib.hid (show sumF false xs f (i + 1 - f) = sumF false xs f (i - f) + ofF false (gT xs i) by rw [show i + 1 - f = (i - f) + 1 by omega, sumF_succ, show f + (i - f) = i by omega])
            have HSY := Lib.hid (show sumF false xs f (i + 1 - f) = sumF false xs f (i - f) + ofF false (gT xs i) by rw [show i + 1 - f = (i - f) + 1 by omega, sumF_succ, show f + (i - f) = i by omega])
            have s0 := HSB.out (i - f) (by have := HT.out; omega)
            have y0 := HYB.out (i - f) (by have := HT.out; omega)
            have o1 := ofF_bd R false
            have o2 := ofF_bd R false
            have cp := fun s W => part_any (gT xs i) s W R
            have N1 := Lib.hid (show IntKind.i64.wrap (sumF false xs f (i - f) + ofF false (gT xs i)) = sumF false xs f (i - f) + ofF false (gT xs i) from IntWalk.i64_in _ (by omega))
            have N2 := Lib.hid (show IntKind.i64.wrap (sumF false xs f (i - f) + ofF false (gT xs i)) = sumF false xs f (i - f) + ofF false (gT xs i) from IntWalk.i64_in _ (by omega))
            clear R o1 o2
            generalize sumF false xs f (i - f) = sm at *
            skip
            generalize gT xs i = x at *
            obtain ⟨xk, xww, xy, xz, xcc, xff⟩ := x
            unfold itV at cp
            simp only at *
            go_upto_region 10 with fail
            have i0 : (0 : Int) ≤ (i : Int) := by omega
            have i1 : (i : Int) < (n : Int) := by omega
            go_region_held3 (fun w' => w'.cell? (ad.add (i * 6)) = some (.int .i64 xk) ∧ w'.cell? ⟨(ad.add (i * 6)).block, (ad.add (i * 6)).off + 1, none⟩ = some (.int .i64 xww) ∧ w'.cell? ⟨(ad.add (i * 6)).block, (ad.add (i * 6)).off + 2, none⟩ = some (.int .i64 xy) ∧ w'.cell? ⟨(ad.add (i * 6)).block, (ad.add (i * 6)).off + 3, none⟩ = some (.int .i64 xz) ∧ w'.cell? ⟨(ad.add (i * 6)).block, (ad.add (i * 6)).off + 4, none⟩ = some (.int .i64 xcc) ∧ w'.cell? ⟨(ad.add (i * 6)).block, (ad.add (i * 6)).off + 5, none⟩ = some (.bool xff))
              (first | go_keep | (refine keep6 hb9 ?_; assumption))
              (first | (go_at_call 54; refine (cp _ _).mono ?_; rintro e w' ⟨rfl, hb9⟩; first | have hbr := below_trans' hbr hbr.size hb9 | have hbr := below_trans' hbr.drew hbr.size hb9))
            all_goals rw [N1.out]
            all_goals go_wp2_with fail
            all_goals go_roundw
            case rel => exact ⟨i + 1, by omega, by omega, by go_num, by rw [HSS.out], by rw [HSY.out], hbr⟩
            case measure => simp [intOf]; omega
          · have hit2 : i = t := by omega
            subst hit2
            have hbr1 := hbr
            rw [show i - f = k by have := HT.out; omega]
            have HTK := Lib.hid (show i - f = k by have := HT.out; omega)
            generalize hWH : sumF false xs f k = wh at *
            skip
            go_upto_if 59 with fail
            go_cut [7] (fun vd wx => vd = .int .i64 (xm - xw) ∧ wr = wx)
            case first =>
              go_wp2_with fail
              go_meet
              case rel => exact ⟨rfl, rfl⟩
            case rest =>
              obtain ⟨rfl, rfl⟩ := hcut
              obtain ⟨w1, rfl⟩ : ∃ w1 : World, w1 = wr := ⟨_, rfl⟩
              have hSL : setL (xm - xw) xs f k = wdL false (xm - xw) wh xs f k := by unfold setL; rw [if_neg (by have := hDD.out; omega), hWH]
              have hSS : setS (xm - xw) xs f k = sumWd false (xm - xw) wh xs f k := by unfold setS; rw [if_neg (by have := hDD.out; omega), hWH]
              rw [hSL] at hB2
              have hfin := HFIN.out
              clear HFIN
              rw [hSS] at hfin
              obtain ⟨dd, hdd, hd0, hd1⟩ : ∃ dd, xm - xw = dd ∧ 0 ≤ dd ∧ dd ≤ 200000000 := ⟨_, rfl, by have := hDD.out; have := (HSB.out k (Nat.le_refl _)).1; have := (HSB.out k (Nat.le_refl _)).2.2; omega, by have := hDD.out; have := (HSB.out k (Nat.le_refl _)).2.2; omega⟩
              rw [hdd] at hB2 hfin ⊢
              have HFIN := Lib.hid hfin
              have HSB2 := Lib.hid (fun j (hj : j ≤ k) => (HSB.out j hj : 0 ≤ sumF false xs f j ∧ sumF false xs f j ≤ wh ∧ wh ≤ 4300000000))
              have HSW := Lib.hid (fun j (hj : f + j ≤ n) (hj2 : j ≤ k) => sumWd_bd (s := false) (dd := dd) (wh := wh) HR.out hn hd0 hd1 (HSB2.out j hj2).1 (HSB2.out j hj2).2.1 j hj rfl)
              clear hSL hSS hdd hfin hWH HSB HYB SY SZ MY MZ hbr B1 q1 hlt
              generalize hXX : xm - xw = D at *
              clear hXX
              have hxy : True := trivial
              go_wp2_with fail
              clear q0
              go_loopw [12, 13, 14] (fun vb vs vi wr => ∃ j : Nat, f ≤ j ∧ j ≤ i ∧ vi = .int .i64 j ∧ vb = .int .i64 (sumF false xs f (j - f)) ∧ vs = .int .i64 (sumWd false dd wh xs f (j - f)) ∧ Below W0.heap.size W0 wr) (fun _ _ vi _ => i - (intOf vi).toNat)
              case atStart => exact ⟨f, Nat.le_refl _, hft, rfl, by rw [Nat.sub_self, sumF_zero], by rw [Nat.sub_self]; rfl, hbr1⟩
              case round =>
                clear hbr1
                obtain ⟨j, hfj, hji, rfl, rfl, rfl, hbr⟩ := hrel
                have B1 := hs.below hbr
                have q0 : wr.cell? ⟨w.heap.size, 0, none⟩ = some (.int .i64 f) := B1.cell 0 rfl
                have q1 : wr.cell? ⟨w.heap.size, 1, none⟩ = some (.int .i64 i) := B1.cell 1 rfl
                have q2 : wr.cell? ⟨w.heap.size, 2, none⟩ = some (.int .i64 b) := B1.cell 2 rfl
                have q3 : wr.cell? ⟨w.heap.size, 3, none⟩ = some (.int .i64 xm) := B1.cell 3 rfl
                have q4 : wr.cell? ⟨w.heap.size, 4, none⟩ = some (.int .i64 xw) := B1.cell 4 rfl
                have q8 : wr.cell? ⟨w.heap.size, 8, none⟩ = some (.int .i64 xo) := B1.cell 8 rfl
                by_cases hlt : j < i
                · obtain ⟨ad2, e, hl2, k0, k1, k2, k3, k4, k5⟩ := (ha2.below hbr).it (k := j) (by omega)
                  injection e with e
                  subst e
                  have R := HR.out j (by omega)
                  have hjk : j - f < k := by have := HTK.out; omega
                  have HJ := Lib.hid (show j + 1 - f = (j - f) + 1 by omega)
                  have HFJ := Lib.hid (show f + (j - f) = j by omega)
                  have HSS := Lib.hid (show sumF false xs f (j + 1 - f) = sumF false xs f (j - f) + ofF false (gT xs j) by rw [HJ.out, sumF_succ, HFJ.out])
                  have HSW1 := Lib.hid (show sumWd false dd wh xs f (j + 1 - f) = sumWd false dd wh xs f (j - f) + wdF false dd wh xs f (j - f) by rw [HJ.out]; rfl)
                  have hsb := HSB2.out (j - f) (by omega)
                  have hsb1 := HSB2.out (j + 1 - f) (by omega)
                  have hsw := HSW.out (j - f) (by omega) (by omega)
                  have hsw1 := HSW.out (j + 1 - f) (by omega) (by omega)
                  rw [HSS.out] at hsb1
                  rw [HSW1.out] at hsw1
                  have hwd := wd_eq (s := false) (dd := dd) (wh := wh) (xs := xs) (fr := f) (j := j - f) (by rw [HFJ.out]; exact R)
                  rw [HFJ.out] at hwd
                  have HWD := Lib.hid hwd
                  have o1 := ofF_bd R false
                  have cp := fun s W => part_any (gT xs j) s W R
                  have hWg : gI (wdL false dd wh xs f k) (j - f) = wdF false dd wh xs f (j - f) := gI_range _ hjk
                  obtain ⟨aB, eB, hlB, kB⟩ := (hB2.below hbr).int hjk
                  rw [hWg] at kB
                  subst eB
                  have rw0 := R.w0
                  have rw1 := R.w1
                  clear R hwd hWg
                  generalize wdF false dd wh xs f (j - f) = wd at *
                  generalize sumWd false dd wh xs f (j - f) = sw at *
                  generalize sumF false xs f (j - f) = sm at *
                  generalize hOF : ofF false (gT xs j) = p at *
                  generalize gT xs j = x at *
                  obtain ⟨xk, xww, xy, xz, xcc, xff⟩ := x
                  unfold itV at cp
                  simp only at *
                  have cp2 := fun W => cp false W
                  rw [hOF] at cp2
                  clear cp hOF
                  have i0 : (0 : Int) ≤ (j : Int) := by omega
                  have i1 : (j : Int) < (n : Int) := by omega
                  go_upto_region 17 with fail
                  go_cut [15, 16] (fun v15 v16 wx => v15 = .int .i64 xww ∧ v16 = .int .i64 p ∧ Below wr.heap.size wr wx)
                  case first =>
                    have hz := Below.refl wr.heap.size wr
                    go_region_held3 (fun w' => w'.cell? (ad.add (j * 6)) = some (.int .i64 xk) ∧ w'.cell? ⟨(ad.add (j * 6)).block, (ad.add (j * 6)).off + 1, none⟩ = some (.int .i64 xww) ∧ w'.cell? ⟨(ad.add (j * 6)).block, (ad.add (j * 6)).off + 2, none⟩ = some (.int .i64 xy) ∧ w'.cell? ⟨(ad.add (j * 6)).block, (ad.add (j * 6)).off + 3, none⟩ = some (.int .i64 xz) ∧ w'.cell? ⟨(ad.add (j * 6)).block, (ad.add (j * 6)).off + 4, none⟩ = some (.int .i64 xcc) ∧ w'.cell? ⟨(ad.add (j * 6)).block, (ad.add (j * 6)).off + 5, none⟩ = some (.bool xff))
                      (first | go_keep | (refine keep6 hb9 ?_; assumption))
                      (first | (go_at_call 54; refine (cp2 _).mono ?_; rintro e w' ⟨rfl, hb9⟩; have hz := below_trans' hz.drew hz.size hb9))
                    all_goals go_wp2_with fail
                    all_goals go_meet
                    case rel => exact ⟨rfl, rfl, hz⟩
                  case rest =>
                    obtain ⟨rfl, rfl, hb4⟩ := hcut
                    have kk : ∀ q v, wr.cell? q = some v → wc.cell? q = some v := fun q v h => (hb4.cell (World.block_lt_of_cell? _ _ h)).trans h
                    have k0 := kk _ _ k0
                    have q0 := kk _ _ q0
                    have q1 := kk _ _ q1
                    have kB := kk _ _ kB
                    have hbr4 := below_trans' hbr hbr.size hb4
                    obtain ⟨bs, hbs⟩ : ∃ bs, (if xk = 3 then 0 else xww) = bs := ⟨_, rfl⟩
                    have hbs1 : 0 ≤ bs ∧ bs ≤ 31680 := by rw [← hbs]; split <;> omega
                    have HBS := Lib.hid hbs
                    have hwd := HWD.out
                    rw [hbs] at hwd
                    have HWD := Lib.hid hwd
                    clear kk k1 k2 k3 k4 k5 q2 q3 q4 q8 cp2 hwd hbs
                    go_upto_if 88 with fail
                    go_cut [15] (fun v wx => v = .int .i64 bs ∧ wc = wx)
                    case first =>
                      by_cases hk3 : xk = 3
                      · have e3 : (xk == 3) = true := by simpa using hk3
                        have HB := Lib.hid (show bs = 0 by rw [← HBS.out, if_pos hk3])
                        clear hk3
                        go_wp2_with fail
                        go_meet
                        case rel => exact ⟨by rw [HB.out], rfl⟩
                      · have e3 : (xk == 3) = false := by simpa using hk3
                        have HB := Lib.hid (show bs = xww by rw [← HBS.out, if_neg hk3])
                        clear hk3
                        go_wp2_with fail
                        go_meet
                        case rel => exact ⟨by rw [HB.out], rfl⟩
                    case rest =>
                      obtain ⟨rfl, rfl⟩ := hcut
                      obtain ⟨wd0, rfl⟩ : ∃ wd0 : World, wd0 = wc := ⟨_, rfl⟩
                      go_upto_if 90 with fail
                      go_cut [15] (fun v wx => v = .int .i64 wd ∧ Below wd0.heap.size wd0 wx)
                      case first =>
                        by_cases hwh : 0 < wh
                        · have e4 : decide (0 < wh) = true := decide_eq_true hwh
                          have e5 : (wh == 0) = false := by simp; omega
                          have e6 : wh ≠ 0 := by omega
                          have n1 : IntKind.i64.wrap (sm + p) = sm + p := IntWalk.i64_in _ (by omega)
                          have hlm := wd_pos (DM := 200000000) (WM := 4300000000) (wh := wh) (xw := bs) hd0 (by omega) hsb.1 o1.1 (show sm + p ≤ 4300000000 by omega) (by omega) hwh (by omega) hbs1
                          have HLM := Lib.hid hlm
                          have HW := Lib.hid (show wd = bs + 1 * addF dd wh sm p by rw [HWD.out, if_pos hwh]; rfl)
                          clear hlm
                          go_wp2_with fail
                          go_quiet (fail)
                          go_wp2_with fail
                          go_meet
                          case rel =>
                            have hlm2 := HLM.out
                            simp only [IntKind.wrap_i64] at hlm2
                            exact ⟨by unfold wrap64; rw [hlm2, HW.out], below_drewN (Below.refl _ _) _⟩
                        · have e4 : decide (0 < wh) = false := decide_eq_false hwh
                          have HW := Lib.hid (show wd = bs by rw [HWD.out, if_neg hwh, Int.add_zero])
                          go_wp2_with fail
                          go_meet
                          case rel => exact ⟨by rw [HW.out], Below.refl _ _⟩
                      case rest =>
                        obtain ⟨rfl, hb5⟩ := hcut
                        have kk : ∀ q v, wd0.cell? q = some v → wc.cell? q = some v := fun q v h => (hb5.cell (World.block_lt_of_cell? _ _ h)).trans h
                        have q0 := kk _ _ q0
                        have kB := kk _ _ kB
                        have hbr5 := below_trans' hbr4 hbr4.size hb5
                        have n1 : IntKind.i64.wrap (sm + p) = sm + p := IntWalk.i64_in _ (by omega)
                        have n2 : IntKind.i64.wrap (sw + wd) = sw + wd := IntWalk.i64_in _ (by omega)
                        have n3 : IntKind.i64.wrap ((j : Int) - (f : Int)) = (j : Int) - (f : Int) := IntWalk.i64_in _ (by omega)
                        have n4 : (0 : Int) ≤ (j : Int) - (f : Int) := by omega
                        have n5 : (j : Int) - (f : Int) < (k : Int) := by omega
                        have n6 : ((j : Int) - (f : Int)).toNat = j - f := by omega
                        clear kk k0 q1
                        go_wp2_with fail
                        go_quiet (fail)
                        go_wp2_with fail
                        go_roundw
                        case rel => exact ⟨j + 1, by omega, by omega, by go_num, by rw [HSS.out], by rw [HSW1.out], below_drewN hbr5 _⟩
                        case measure => simp [intOf]; omega
                · have hij : j = i := by omega
                  subst hij
                  rw [HTK.out]
                  obtain ⟨ad2, e, hl2, k0, k1, k2, k3, k4, k5⟩ := (ha2.below hbr).it (k := b) hb
                  injection e with e
                  subst e
                  have hfin := HFIN.out
                  have b0 : (0 : Int) ≤ (b : Int) := by omega
                  have b1 : (b : Int) < (n : Int) := by omega
                  have hbz := below_trans' hb0 hb0.size hbr
                  clear HFIN k1 k2 k3 k4 k5
                  generalize sumWd false dd wh xs f k = sW at *
                  generalize sumF false xs f k = sFk at *
                  generalize (gT xs b).kind = kd at *
                  by_cases c1 : kd = 2
                  · have e1 : (kd != 2) = false := by simp [c1]
                    by_cases c2 : 0 < xo
                    · have e2 : decide (0 < xo) = true := decide_eq_true c2
                      clear hfin c1 c2
                      go_wp2_with fail
                      go_ret
                      exact ⟨rfl, hbz⟩
                    · have e2 : decide (0 < xo) = false := decide_eq_false c2
                      by_cases c3 : xw < xm
                      · have e3 : decide (xw < xm) = true := decide_eq_true c3
                        by_cases c4 : wh = 0
                        · have e4 : (wh == 0) = true := by simpa using c4
                          clear hfin c1 c2 c3 c4
                          go_wp2_with fail
                          go_ret
                          exact ⟨rfl, hbz⟩
                        · have e4 : (wh == 0) = false := by simpa using c4
                          have e5 : (sW == xm) = true := beq_iff_eq.2 (by omega)
                          clear hfin c1 c2 c3 c4
                          go_wp2_with fail
                          go_ret
                          exact ⟨rfl, hbz⟩
                      · have e3 : decide (xw < xm) = false := decide_eq_false c3
                        have e5 : (sW == xm) = true := beq_iff_eq.2 (by omega)
                        clear hfin c1 c2 c3
                        go_wp2_with fail
                        go_ret
                        exact ⟨rfl, hbz⟩
                  · have e1 : (kd != 2) = true := by simpa using c1
                    clear hfin c1
                    go_wp2_with fail
                    go_ret
                    exact ⟨rfl, hbz⟩
end Go.Proofs.Ytogbapdioccamaa
