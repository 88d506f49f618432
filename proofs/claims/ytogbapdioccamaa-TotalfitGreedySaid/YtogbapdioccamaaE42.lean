/- The walk of the law TotalfitGreedy. -/
import Derived.Test.YtogbapdioccamaaE40
import Derived.Test.YtogbapdioccamaaE41
import Derived.Test.YtogbapdioccamaaE38
namespace Go.Proofs.Ytogbapdioccamaa
open Go.RowKit

set_option maxRecDepth 100000 in
set_option maxHeartbeats 4000000 in
theorem law_greedy (A B : Option Addr) (n c m d : Nat) (xs : List It) (ms : List Int) (w : World) (ha : Sl w 6 itC A n xs) (hb : Sl w 1 intC B m ms) (hn : n ≤ c ∧ c ≤ maxLen) (hm : m ≤ d ∧ d ≤ maxLen) :
    Calls Try.prog 10 #[.slice A n c, .slice B m d] w fun e w' => e = .returned (.bool true) ∧ Below w.heap.size w w' := by
  have c1 := fun W => cut_any A n c W hn.1 hn.2
  have c2 := fun W => few_any B m d W hm.1 hm.2
  have ha' := ha.take (k := min n 60) (Nat.min_le_left _ _)
  have hb' := hb.take (k := min m 10) (Nat.min_le_left _ _)
  have h60 : min n 60 ≤ 60 := Nat.min_le_right _ _
  have h10 : min m 10 ≤ 10 := Nat.min_le_right _ _
  generalize xs.take (min n 60) = xs' at *
  generalize ms.take (min m 10) = ms' at *
  generalize min n 60 = n' at *
  generalize min m 10 = m' at *
  have hxl := ha'.len
  have hml := hb'.len
  have kb := fun W h1 h2 => both_any A B n' m' c d xs' ms' W h1 h2 (by omega) (by omega)
  have k1 := fun W h1 h2 => Greedy_any prepOk A B n' m' c d xs' ms' W h1 h2 (by omega) (by omega)
  have k2 := fun W h1 h2 => Best_any prepOk A B n' m' c d xs' ms' W h1 h2 (by omega) (by omega)
  clear ha hb hn hm
  by_cases h0 : chkB xs' ms' = 0
  · have G := chkB_good hxl hml (by omega) h0
    have hsq := greedyL_seq xs' ms'
    have hbr := brok_of_seq hxl hsq
    have hlen := brok_len hxl hbr
    have hle := G.le hxl hsq
    rw [← costN_cos] at hle
    have k3 := fun W h1 h2 => mgreedy_any A B n' m' c d xs' ms' W h1 h2 G
    have k4 := fun A2 c3 W h1 h2 h3 => mlines_any A B A2 n' m' (greedyL xs' ms').length c d c3 (greedyL xs' ms') xs' ms' W h1 h2 h3 hbr.rise (by omega) ⟨G.m0, by omega⟩ (by omega) G.R G.M
    have k5 := fun A3 B3 c3 d3 W h1 h2 => same_c A3 B3 (greedyL xs' ms').length c3 d3 (ints (greedyL xs' ms')) W h1 h2 (by omega)
    simp only [h0, if_true] at kb k1 k2
    have hge1 : decide (bestV xs' ms' ≤ costN xs' ms' (greedyL xs' ms') (greedyL xs' ms').length) = true := decide_eq_true hle
    clear hle hbr hsq G h0
    generalize costN xs' ms' (greedyL xs' ms') (greedyL xs' ms').length = ct at *
    generalize greedyL xs' ms' = GL at *
    generalize bestV xs' ms' = be at *
    have hbw := Below.refl w.heap.size w
    go_enter Try.func10, Try.ntmps10
    go_wp2_with (first
      | (go_at_call 12; refine (c1 _).mono ?_; rintro e w1 ⟨rfl, rfl⟩)
      | (go_at_call 13; refine (c2 _).mono ?_; rintro e w1 ⟨rfl, rfl⟩)
      | (go_at_call 14; refine (known_of prepOk _).mono ?_; rintro e w2 ⟨rfl, h9⟩; have hbw := below_trans' hbw hbw.size h9; have hs4 := hs4.below h9)
      | (go_at_call 24; refine (kb _ (ha'.below hbw) (hb'.below hbw)).mono ?_; rintro e w3 ⟨rfl, h9⟩; have hbw := below_trans' hbw hbw.size h9; have hs4 := hs4.below h9)
      | (go_at_call 33; refine (k1 _ (ha'.below hbw) (hb'.below hbw)).mono ?_; rintro e w4 ⟨A4, c4, rfl, ho4, h9⟩; have hbw := below_trans' hbw hbw.size h9; have hs4 := ho4.sl intC_len; clear ho4)
      | (go_at_call 23; refine (k2 _ (ha'.below hbw) (hb'.below hbw)).mono ?_; rintro e w5 ⟨rfl, h9⟩; have hbw := below_trans' hbw hbw.size h9; have hs4 := hs4.below h9)
      | (go_at_call 34; refine (k3 _ (ha'.below hbw) (hb'.below hbw)).mono ?_; rintro e w6 ⟨A6, c6, rfl, ho6, h9⟩; have hbw := below_trans' hbw hbw.size h9; have hs4 := hs4.below h9; have hs6 := ho6.sl intC_len; clear ho6)
      | (go_at_call 27; refine (k4 A6 c6 _ (ha'.below hbw) (hb'.below hbw) hs6).mono ?_; rintro e w7 ⟨A7, c7, rfl, ho7, h9⟩; have hbw := below_trans' hbw hbw.size h9; have hs4 := hs4.below h9; have hs6 := hs6.below h9; clear ho7)
      | (go_at_call 20; refine (k5 A4 A6 c4 c6 _ hs4 hs6).mono ?_; rintro e w8 ⟨rfl, h9⟩; have hbw := below_trans' hbw hbw.size h9))
    go_ret
    exact ⟨rfl, hbw⟩
  · have h1 : (chkB xs' ms' != 0) = true := by simpa using h0
    simp only [h0, if_false] at k1
    clear k2 h0
    generalize chkB xs' ms' = v at *
    have hbw := Below.refl w.heap.size w
    go_enter Try.func10, Try.ntmps10
    go_wp2_with (first
      | (go_at_call 12; refine (c1 _).mono ?_; rintro e w1 ⟨rfl, rfl⟩)
      | (go_at_call 13; refine (c2 _).mono ?_; rintro e w1 ⟨rfl, rfl⟩)
      | (go_at_call 33; refine (k1 _ (ha'.below hbw) (hb'.below hbw)).mono ?_; rintro e w4 ⟨A4, c4, rfl, ho4, h9⟩; have hbw := below_trans' hbw hbw.size h9)
      | (go_at_call 14; refine (known_of prepOk _).mono ?_; rintro e w2 ⟨rfl, h9⟩; have hbw := below_trans' hbw hbw.size h9)
      | (go_at_call 24; refine (kb _ (ha'.below hbw) (hb'.below hbw)).mono ?_; rintro e w3 ⟨rfl, h9⟩; have hbw := below_trans' hbw hbw.size h9))
    go_ret
    exact ⟨rfl, hbw⟩
end Go.Proofs.Ytogbapdioccamaa
