/- Set at the end of the items; part; the sum of the widths, plain. -/
import Derived.Test.YtogbapdioccamaaE52
namespace Go.Proofs.Ytogbapdioccamaa
open Go.RowKit

set_option maxRecDepth 100000 in
set_option maxHeartbeats 4000000 in
/-- an empty line at the capacity's end. -/
theorem Set_end (A : Option Addr) (n : Nat) (xs : List It) (x : Ln) (w : World) (ha : Sl w 6 itC A n xs) (hn : n ≤ 4096) (h0 : chk xs = 0) (hxf : x.fr = n) (hxt : x.to = n) (hD : -1000000000 ≤ x.meas - x.width ∧ x.meas - x.width ≤ 31680) :
    Calls Try.prog 35 #[.slice A n n, lnV x] w fun e w' => e = .returned (.tuple #[.slice none 0 0, .int .i64 0]) ∧ Below w.heap.size w w' := by
  have cc := fun w h1 => Check_any A n n xs w h1 hn
  obtain ⟨hn0, -, -⟩ := chk_good ha.len hn h0
  rw [h0] at cc
  obtain ⟨xf, xt, xb, xm, xw, xr, xc, xbad, xo, xd⟩ := x
  simp only at hxf hxt hD
  subst hxf
  subst hxt
  unfold lnV
  have hs := Blk.new w 56 #[.int .i64 n, .int .i64 n, .int .i64 xb, .int .i64 xm, .int .i64 xw, .int .i64 xr, .int .i64 xc, .int .i64 xbad, .int .i64 xo, .int .i64 xd]
  have hb0 := (Below.refl w.heap.size w).alloc (Nat.le_refl _) (.cells #[.int .i64 n, .int .i64 n, .int .i64 xb, .int .i64 xm, .int .i64 xw, .int .i64 xr, .int .i64 xc, .int .i64 xbad, .int .i64 xo, .int .i64 xd] 56)
  obtain ⟨ad, rfl, hadl, -⟩ := ha.it hn0
  clear h0
  by_cases hD0 : xm - xw < 0
  all_goals
    have e0 : decide (xm - xw < 0) = decide (xm - xw < 0) := rfl
    go_enter Try.func35, Try.ntmps35
    go_upto_region 8 with (go_at_call 15; refine (cc _ (sl_alloc ha _)).mono ?_; rintro e w1 ⟨rfl, hb1⟩; have B1 := hs.below hb1; have q0 : w1.cell? ⟨w.heap.size, 0, none⟩ = some (.int .i64 n) := B1.cell 0 rfl; have q1 : w1.cell? ⟨w.heap.size, 1, none⟩ = some (.int .i64 n) := B1.cell 1 rfl; have q3 : w1.cell? ⟨w.heap.size, 3, none⟩ = some (.int .i64 xm) := B1.cell 3 rfl; have q4 : w1.cell? ⟨w.heap.size, 4, none⟩ = some (.int .i64 xw) := B1.cell 4 rfl)
    have hbw := below_trans' hb0 (by simp) hb1
    go_wp2_with fail
    go_loopw [8, 9, 51] (fun vy vz vi wr => vi = .int .i64 0 ∧ vy = .int .i64 0 ∧ vz = .int .i64 0 ∧ w1 = wr) (fun _ _ vi _ => 0 - (intOf vi).toNat)
    case atStart => exact ⟨rfl, rfl, rfl, rfl⟩
    case round =>
      obtain ⟨rfl, rfl, rfl, rfl⟩ := hrel
      go_wp2_with fail
      go_loopw [16, 17, 79] (fun vo vs vi wr => vi = .int .i64 0 ∧ vs = .int .i64 0 ∧ vo = .slice none 0 0 ∧ w1 = wr) (fun _ _ vi _ => 0 - (intOf vi).toNat)
      case atStart => exact ⟨rfl, rfl, rfl, rfl⟩
      case round =>
        obtain ⟨rfl, rfl, rfl, rfl⟩ := hrel
        go_wp2_with fail
        go_ret2
        exact ⟨rfl, hbw⟩

set_option maxRecDepth 100000 in
set_option maxHeartbeats 2000000 in
theorem part_any (x : It) (s : Bool) (w : World) (hR : Right 31680 x) :
    Calls Try.prog 54 #[itV x, .bool s] w fun e w' => e = .returned (.int .i64 (ofF s x)) ∧ Below w.heap.size w w' := by
  have h := hR.noG
  unfold itV ofF
  obtain ⟨xk, xw, xy, xz, xc, xf⟩ := x
  simp only at h
  by_cases hk : xk = 2
  · have e1 : (xk != 2) = false := by simp [hk]
    clear h hk hR
    cases s
    · go_enter Try.func54, Try.ntmps54
      go_wp2_with fail
      go_ret
      exact ⟨rfl, (Below.refl _ _).alloc (Nat.le_refl _) _⟩
    · go_enter Try.func54, Try.ntmps54
      go_wp2_with fail
      go_ret
      exact ⟨rfl, (Below.refl _ _).alloc (Nat.le_refl _) _⟩
  · have e1 : (xk != 2) = true := by simp [hk]
    obtain ⟨rfl, rfl⟩ := h hk
    clear h hk hR
    cases s
    all_goals
      go_enter Try.func54, Try.ntmps54
      go_wp2_with fail
      go_ret
      exact ⟨rfl, (Below.refl _ _).alloc (Nat.le_refl _) _⟩

/-- the width of an item as the model computes it. -/
theorem wd_eq {xs : List It} {fr j : Nat} {s : Bool} {dd wh : Int} (hR : Right 31680 (gT xs (fr + j))) :
    wdF s dd wh xs fr j = (if (gT xs (fr + j)).kind = 3 then 0 else (gT xs (fr + j)).width) + (if 0 < wh then sgF s * addF dd wh (sumF s xs fr j) (ofF s (gT xs (fr + j))) else 0) := by
  unfold wdF
  have hz : (gT xs (fr + j)).kind ≠ 2 → ofF s (gT xs (fr + j)) = 0 := fun hk => by
    have := hR.noG hk
    unfold ofF
    split
    · exact this.2
    · exact this.1
  have h0 : ∀ o, o = 0 → sgF s * addF dd wh (sumF s xs fr j) o = 0 := fun o ho => by
    subst ho
    unfold addF
    rw [Int.add_zero, Int.sub_self, Int.mul_zero]
  by_cases h3 : (gT xs (fr + j)).kind = 3
  · rw [if_pos h3, if_pos h3, h0 _ (hz (by omega))]
    split <;> rfl
  · rw [if_neg h3, if_neg h3]
    by_cases h2 : (gT xs (fr + j)).kind = 2
    · by_cases hw : 0 < wh
      · rw [if_pos ⟨h2, hw⟩, if_pos hw]
      · rw [if_neg (fun h => hw h.2), if_neg hw, Int.add_zero]
    · rw [if_neg (fun h => h2 h.1), h0 _ (hz h2)]
      split <;> exact (Int.add_zero _).symm
/-- the sum of the widths. -/
def sumWd (s : Bool) (dd wh : Int) (xs : List It) (fr : Nat) : Nat → Int
  | 0 => 0
  | j + 1 => sumWd s dd wh xs fr j + wdF s dd wh xs fr j
theorem sumWd_eq {xs : List It} {n fr : Nat} {s : Bool} {dd wh : Int} (hR : ∀ k, k < n → Right 31680 (gT xs k)) : ∀ j, fr + j ≤ n → sumWd s dd wh xs fr j = (sumTo wOf xs (fr + j) - sumTo wOf xs fr) + (if 0 < wh then sgF s * (dd * sumF s xs fr j / wh) else 0)
  | 0, _ => by
    rw [sumF_zero, Int.mul_zero, Int.zero_ediv, Int.mul_zero]
    show (0 : Int) = sumTo wOf xs fr - sumTo wOf xs fr + _
    rw [Int.sub_self]
    split <;> rfl
  | j + 1, h => by
    unfold sumWd
    rw [sumWd_eq hR j (by omega), wd_eq (hR (fr + j) (by omega)), sumF_succ]
    have e : sumTo wOf xs (fr + (j + 1)) = sumTo wOf xs (fr + j) + wOf (gT xs (fr + j)) := rfl
    rw [e]
    have e2 : (if (gT xs (fr + j)).kind = 3 then 0 else (gT xs (fr + j)).width) = wOf (gT xs (fr + j)) := rfl
    rw [e2]
    by_cases hw : 0 < wh
    · rw [if_pos hw, if_pos hw, if_pos hw]
      unfold addF
      rw [Int.mul_sub]
      omega
    · rw [if_neg hw, if_neg hw, if_neg hw]
      omega
/-- what the law says of the sum: fine. -/
def FinOk (xs : List It) (x : Ln) (b fr k : Nat) (sum : Int) : Prop :=
  (gT xs b).kind ≠ 2 ∨ 0 < x.over ∨ (x.width < x.meas ∧ sumF false xs fr k = 0) ∨ sum = x.meas
def setS (D : Int) (xs : List It) (fr k : Nat) : Int :=
  if D < 0 then sumWd true (min (-D) (sumF true xs fr k)) (sumF true xs fr k) xs fr k else sumWd false D (sumF false xs fr k) xs fr k
theorem fin_ok {xs : List It} {ms : List Int} {n b k0 k : Nat} {a : Int} (hR : ∀ k, k < n → Right 31680 (gT xs k)) (hb : b < n) (hk : fromOf xs a b + k = b) :
    FinOk xs (lineF xs ms a b k0) b (fromOf xs a b) k (setS ((lineF xs ms a b k0).meas - (lineF xs ms a b k0).width) xs (fromOf xs a b) k) := by
  unfold FinOk
  by_cases hk2 : (gT xs b).kind = 2
  · refine .inr ?_
    have hw : (lineF xs ms a b k0).width = sumTo wOf xs b - sumTo wOf xs (fromOf xs a b) := by
      show widthOf xs (fromOf xs a b) b = _
      unfold widthOf
      rw [if_neg (by omega)]
      omega
    have ho : (lineF xs ms a b k0).over = overOf ((lineF xs ms a b k0).meas - (lineF xs ms a b k0).width) (sumF true xs (fromOf xs a b) k) := by
      unfold sumF
      rw [hk]
      rfl
    generalize lineF xs ms a b k0 = x at *
    generalize fromOf xs a b = f at *
    obtain ⟨xf, xt, xb, xm, xw, xr, xc, xbad, xo, xd⟩ := x
    simp only at *
    subst hw
    by_cases hov : 0 < xo
    · exact .inl hov
    · refine .inr ?_
      unfold setS
      have hz := (sumF_bd (s := true) (fr := f) (fun i (hi : i < n) => shr_bd (hR i hi)) (j := k) (by omega)).1
      have hy := (sumF_bd (s := false) (fr := f) (fun i (hi : i < n) => ofF_bd (hR i hi) false) (j := k) (by omega)).1
      by_cases hD : xm - (sumTo wOf xs b - sumTo wOf xs f) < 0
      · refine .inr ?_
        rw [if_pos hD]
        have hle : ¬ sumF true xs f k < -(xm - (sumTo wOf xs b - sumTo wOf xs f)) := fun h => by
          apply hov
          rw [ho]
          unfold overOf
          rw [if_pos ⟨hD, h⟩]
          omega
        rw [sumWd_eq hR k (by omega), hk, show min (-(xm - (sumTo wOf xs b - sumTo wOf xs f))) (sumF true xs f k) = -(xm - (sumTo wOf xs b - sumTo wOf xs f)) by omega, if_pos (by omega), Int.mul_ediv_cancel _ (by omega)]
        show _ + -1 * _ = _
        omega
      · rw [if_neg hD, sumWd_eq hR k (by omega), hk]
        by_cases hy0 : 0 < sumF false xs f k
        · refine .inr ?_
          rw [if_pos hy0, Int.mul_ediv_cancel _ (by omega)]
          show _ + 1 * _ = _
          omega
        · rw [if_neg hy0]
          by_cases hD2 : xm - (sumTo wOf xs b - sumTo wOf xs f) = 0
          · exact .inr (by omega)
          · exact .inl ⟨by omega, by omega⟩
  · exact .inl hk2
end Go.Proofs.Ytogbapdioccamaa
