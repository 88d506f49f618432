/- Set of the program. -/
import Derived.Test.YtogbapdioccamaaE45
import Derived.Test.YtogbapdioccamaaE27
import Derived.Deep.CutBlock
import Derived.Deep.RegionHeld3
namespace Go.Proofs.Ytogbapdioccamaa
open Go.RowKit

def ofF (s : Bool) (x : It) : Int := if s = true then x.shrink else x.stretch
def sumF (s : Bool) (xs : List It) (fr j : Nat) : Int := sumTo (ofF s) xs (fr + j) - sumTo (ofF s) xs fr
def sgF (s : Bool) : Int := if s = true then -1 else 1
def addF (dd whole sum o : Int) : Int := dd * (sum + o) / whole - dd * sum / whole
/-- the width of item j of a line from fr on. -/
def wdF (s : Bool) (dd whole : Int) (xs : List It) (fr j : Nat) : Int :=
  if (gT xs (fr + j)).kind = 3 then 0 else if (gT xs (fr + j)).kind = 2 ∧ 0 < whole then (gT xs (fr + j)).width + sgF s * addF dd whole (sumF s xs fr j) (ofF s (gT xs (fr + j))) else (gT xs (fr + j)).width
def wdL (s : Bool) (dd whole : Int) (xs : List It) (fr k : Nat) : List Int := (List.range k).map (wdF s dd whole xs fr)
theorem wdL_succ (s : Bool) (dd whole : Int) (xs : List It) (fr k : Nat) : wdL s dd whole xs fr (k + 1) = wdL s dd whole xs fr k ++ [wdF s dd whole xs fr k] := by unfold wdL; rw [List.range_succ, List.map_append]; rfl
theorem wdL_len (s : Bool) (dd whole : Int) (xs : List It) (fr k : Nat) : (wdL s dd whole xs fr k).length = k := by simp [wdL]
def setL (D : Int) (xs : List It) (fr k : Nat) : List Int :=
  if D < 0 then wdL true (min (-D) (sumF true xs fr k)) (sumF true xs fr k) xs fr k else wdL false D (sumF false xs fr k) xs fr k
theorem sumF_succ (s : Bool) (xs : List It) (fr j : Nat) : sumF s xs fr (j + 1) = sumF s xs fr j + ofF s (gT xs (fr + j)) := by
  unfold sumF
  show sumTo (ofF s) xs (fr + j) + ofF s (gT xs (fr + j)) - _ = _
  omega
theorem sumF_zero (s : Bool) (xs : List It) (fr : Nat) : sumF s xs fr 0 = 0 := by unfold sumF; exact Int.sub_self _
theorem ofF_bd {x : It} (h : Right 31680 x) (s : Bool) : 0 ≤ ofF s x ∧ ofF s x ≤ 1048576 := by
  have := h.y0; have := h.y1; have := h.z0; have := h.z1; have := h.w1
  cases s
  · exact ⟨by assumption, by assumption⟩
  · show 0 ≤ x.shrink ∧ x.shrink ≤ 1048576
    omega
theorem shr_bd {x : It} (h : Right 31680 x) : 0 ≤ ofF true x ∧ ofF true x ≤ 31680 := by
  have := h.z0; have := h.z1; have := h.w1
  show 0 ≤ x.shrink ∧ x.shrink ≤ 31680
  omega
theorem sumF_bd {s : Bool} {xs : List It} {n fr : Nat} {M : Int} (hR : ∀ k, k < n → 0 ≤ ofF s (gT xs k) ∧ ofF s (gT xs k) ≤ M) : ∀ {j : Nat}, fr + j ≤ n → 0 ≤ sumF s xs fr j ∧ sumF s xs fr j ≤ M * j
  | 0, _ => by rw [sumF_zero]; simp
  | j + 1, h => by
    have h1 := sumF_bd hR (fr := fr) (j := j) (by omega)
    have h2 := hR (fr + j) (by omega)
    rw [sumF_succ]
    have : M * ((j + 1 : Nat) : Int) = M * j + M := by rw [Int.natCast_add, Int.mul_add]; simp
    omega
theorem sumF_mono {s : Bool} {xs : List It} {n fr : Nat} {M : Int} (hR : ∀ k, k < n → 0 ≤ ofF s (gT xs k) ∧ ofF s (gT xs k) ≤ M) {i : Nat} : ∀ {j : Nat}, i ≤ j → fr + j ≤ n → sumF s xs fr i ≤ sumF s xs fr j
  | 0, h, _ => by
    obtain rfl : i = 0 := by omega
    exact Int.le_refl _
  | j + 1, h, hj => by
    rcases Nat.lt_or_ge i (j + 1) with h1 | h1
    · have h2 := sumF_mono hR (fr := fr) (i := i) (j := j) (by omega) (by omega)
      have h3 := hR (fr + j) (by omega)
      rw [sumF_succ]
      omega
    · obtain rfl : i = j + 1 := by omega
      exact Int.le_refl _

set_option maxRecDepth 100000 in
set_option maxHeartbeats 1000000 in
theorem of1_any (x : It) (w : World) :
    Calls Try.prog 52 #[itV x] w fun e w' => e = .returned (.int .i64 x.stretch) ∧ Below w.heap.size w w' := by
  unfold itV
  go_enter Try.func52, Try.ntmps52
  go_wp2_with fail
  go_ret
  exact ⟨rfl, (Below.refl _ _).alloc (Nat.le_refl _) _⟩
set_option maxRecDepth 100000 in
set_option maxHeartbeats 1000000 in
theorem of2_any (x : It) (w : World) :
    Calls Try.prog 53 #[itV x] w fun e w' => e = .returned (.int .i64 x.shrink) ∧ Below w.heap.size w w' := by
  unfold itV
  go_enter Try.func53, Try.ntmps53
  go_wp2_with fail
  go_ret
  exact ⟨rfl, (Below.refl _ _).alloc (Nat.le_refl _) _⟩

theorem gT_sub {xs : List It} {f k j : Nat} (h : j < k) : gT ((xs.drop f).take k) j = gT xs (f + j) := by
  unfold gT
  rw [List.getD_eq_getElem?_getD, List.getD_eq_getElem?_getD, List.getElem?_take, if_pos h, List.getElem?_drop]

set_option maxRecDepth 100000 in
set_option maxHeartbeats 4000000 in
/-- a line that does not lie in the items. -/
theorem Set_bad (A : Option Addr) (n c : Nat) (xs : List It) (x : Ln) (w : World) (ha : Sl w 6 itC A n xs) (hn : n ≤ 4096) (h0 : chk xs = 0) (hx : ¬ (0 ≤ x.fr ∧ x.fr ≤ x.to ∧ x.to ≤ n)) :
    Calls Try.prog 35 #[.slice A n c, lnV x] w fun e w' => e = .returned (.tuple #[.slice none 0 0, .int .i64 2]) ∧ Below w.heap.size w w' := by
  have cc := fun w h1 => Check_any A n c xs w h1 hn
  rw [h0] at cc
  obtain ⟨xf, xt, xb, xm, xw, xr, xc, xbad, xo, xd⟩ := x
  simp only at hx
  unfold lnV
  have hs := Blk.new w 56 #[.int .i64 xf, .int .i64 xt, .int .i64 xb, .int .i64 xm, .int .i64 xw, .int .i64 xr, .int .i64 xc, .int .i64 xbad, .int .i64 xo, .int .i64 xd]
  have hb0 := (Below.refl w.heap.size w).alloc (Nat.le_refl _) (.cells #[.int .i64 xf, .int .i64 xt, .int .i64 xb, .int .i64 xm, .int .i64 xw, .int .i64 xr, .int .i64 xc, .int .i64 xbad, .int .i64 xo, .int .i64 xd] 56)
  by_cases h1 : xf < 0
  · have e1 : decide (xf < 0) = true := decide_eq_true h1
    clear hx h1
    go_enter Try.func35, Try.ntmps35
    go_wp2_with (go_at_call 15; refine (cc _ (sl_alloc ha _)).mono ?_; rintro e w1 ⟨rfl, hb1⟩; have B1 := hs.below hb1; have q0 : w1.cell? ⟨w.heap.size, 0, none⟩ = some (.int .i64 xf) := B1.cell 0 rfl; have q1 : w1.cell? ⟨w.heap.size, 1, none⟩ = some (.int .i64 xt) := B1.cell 1 rfl)
    go_ret2
    exact ⟨rfl, below_trans' hb0 (by simp) hb1⟩
  · have e1 : decide (xf < 0) = false := decide_eq_false h1
    by_cases h2 : xt < xf
    · have e2 : decide (xt < xf) = true := decide_eq_true h2
      clear hx h1 h2
      go_enter Try.func35, Try.ntmps35
      go_wp2_with (go_at_call 15; refine (cc _ (sl_alloc ha _)).mono ?_; rintro e w1 ⟨rfl, hb1⟩; have B1 := hs.below hb1; have q0 : w1.cell? ⟨w.heap.size, 0, none⟩ = some (.int .i64 xf) := B1.cell 0 rfl; have q1 : w1.cell? ⟨w.heap.size, 1, none⟩ = some (.int .i64 xt) := B1.cell 1 rfl)
      go_ret2
      exact ⟨rfl, below_trans' hb0 (by simp) hb1⟩
    · have e2 : decide (xt < xf) = false := decide_eq_false h2
      have e3 : decide ((n : Int) < xt) = true := decide_eq_true (by omega)
      clear hx h1 h2
      go_enter Try.func35, Try.ntmps35
      go_wp2_with (go_at_call 15; refine (cc _ (sl_alloc ha _)).mono ?_; rintro e w1 ⟨rfl, hb1⟩; have B1 := hs.below hb1; have q0 : w1.cell? ⟨w.heap.size, 0, none⟩ = some (.int .i64 xf) := B1.cell 0 rfl; have q1 : w1.cell? ⟨w.heap.size, 1, none⟩ = some (.int .i64 xt) := B1.cell 1 rfl)
      go_ret2
      exact ⟨rfl, below_trans' hb0 (by simp) hb1⟩
end Go.Proofs.Ytogbapdioccamaa
