/- known. -/
import Derived.Test.YtogbapdioccamaaE26
namespace Go.Proofs.Ytogbapdioccamaa
open Go.RowKit

theorem sl_alloc {α : Type} {w : World} {s n : Nat} {enc : α → List Value} {A : Option Addr} {xs : List α} (h : Sl w s enc A n xs) (o : Obj) : Sl (w.alloc o) s enc A n xs := h.below ((Below.refl _ w).alloc (Nat.le_refl _) o)

set_option maxRecDepth 100000 in
set_option maxHeartbeats 4000000 in
theorem known_of (hp : PrepOk) (w : World) : Calls Try.prog 14 #[] w fun e w' => e = .returned (.bool true) ∧ Below w.heap.size w w' := by
  have hl := lit_sl (w := w) (xs := [50, 30, 40]) (cs := #[.int .i64 50, .int .i64 30, .int .i64 40]) rfl (by unfold maxLen; simp)
  have hl2 := fun w2 => lit_sl (w := w2) (xs := [90]) (cs := #[.int .i64 90]) rfl (by unfold maxLen; simp)
  have hl3 := fun w2 => lit_sl (w := w2) (xs := [88]) (cs := #[.int .i64 88]) rfl (by unfold maxLen; simp)
  have hl4 := fun w2 => lit_sl (w := w2) (xs := [3, 6]) (cs := #[.int .i64 3, .int .i64 6]) rfl (by unfold maxLen; simp)
  have HL2 := Lib.hid hl2
  have HL3 := Lib.hid hl3
  have HL4 := Lib.hid hl4
  clear hl2 hl3 hl4
  go_enter Try.func14, Try.ntmps14
  go_upto_region 6 with (first
    | (go_at_call 31; refine (words_c _ _ 3 hl).mono ?_; rintro e w1 ⟨A1, c1, rfl, ho1, hb1⟩; have hs1 := ho1.sl itC_len; have hbw1 := ((Below.refl w.heap.size w).alloc (Nat.le_refl _) (.cells #[.int .i64 50, .int .i64 30, .int .i64 40] 3)).trans (hb1.mono (by simp)))
    | (go_at_call 19; refine (positions_c _ A1 c1 hs1).mono ?_; rintro e w2 ⟨A2, c2, rfl, ho2, hb2⟩; have hs2 := hs1.below hb2; have hbw2 := below_trans' hbw1 hbw1.size hb2; have M2 := HL2.out w2)
    | (go_at_call 22; refine (breaks_c hp _ A1 _ c1 1 (sl_alloc hs2 _) M2).mono ?_; rintro e w3 ⟨A3, c3, rfl, ho3, hb3⟩; have hb3' := ((Below.refl w2.heap.size w2).alloc (Nat.le_refl _) (.cells #[.int .i64 90] 3)).trans (hb3.mono (by simp)); have hs3 := hs2.below hb3'; have hbw3 := below_trans' hbw2 hbw2.size hb3'; have ho23 := ho2.below hb3'; have M3 := HL2.out w3)
    | (go_at_call 23; refine (best_c hp _ A1 _ c1 1 (sl_alloc hs3 _) M3).mono ?_; rintro e w4 ⟨rfl, hb4⟩; have hb4' := ((Below.refl w3.heap.size w3).alloc (Nat.le_refl _) (.cells #[.int .i64 90] 3)).trans (hb4.mono (by simp)); have hs4 := hs3.below hb4'; have hbw4 := below_trans' hbw3 hbw3.size hb4'; have ho24 := ho23.below hb4'; have ho34 := ho3.below hb4'; have M4 := HL3.out w4; have M5 := HL4.out (w4.alloc (.cells #[.int .i64 88] 3)); rw [show (w4.alloc (.cells #[.int .i64 88] 3)).heap.size = w4.heap.size + 1 by simp] at M5)
    | (go_at_call 30; refine (lines_c hp _ A1 _ c1 1 _ 2 (sl_alloc (sl_alloc hs4 _) _) (sl_alloc M4 _) M5).mono ?_; rintro e w5 ⟨g5, c5, rfl, hg5, k5, k6, k7, k9, hb5⟩))
  have hb5' := (((Below.refl w4.heap.size w4).alloc (Nat.le_refl _) (.cells #[.int .i64 88] 3)).alloc (by simp) (.cells #[.int .i64 3, .int .i64 6] 3)).trans (hb5.mono (by simp <;> omega))
  have ho25 := ho24.below hb5'
  have ho35 := ho34.below hb5'
  have hbw5 := below_trans' hbw4 hbw4.size hb5'
  have L1 := lit_sl (w := w5) (xs := [1, 3, 5, 6]) (cs := #[.int .i64 1, .int .i64 3, .int .i64 5, .int .i64 6]) rfl (by unfold maxLen; simp)
  have hs25 := sl_alloc (ho25.sl intC_len) (.cells #[.int .i64 1, .int .i64 3, .int .i64 5, .int .i64 6] 3)
  clear hb1 hb2 hb3 hb4 hb5 hb3' hb4' hb5' hs1 hs2 hs3 hs4 ho1 ho2 ho3 ho23 ho24 ho34 M2 M3 M4 M5 hl HL2 HL3 hbw1 hbw2 hbw3 hbw4 ho25
  go_wp2_with (first
    | (go_at_call 20; refine (same_c A2 _ 4 c2 4 [1, 3, 5, 6] _ hs25 L1 (by omega)).mono ?_; rintro e w6 ⟨rfl, hb6⟩; have hb6' := ((Below.refl w5.heap.size w5).alloc (Nat.le_refl _) (.cells #[.int .i64 1, .int .i64 3, .int .i64 5, .int .i64 6] 3)).trans (hb6.mono (by simp)); have ho36 := ho35.below hb6'; have hs36 := sl_alloc (ho36.sl intC_len) (.cells #[.int .i64 3, .int .i64 6] 3); have L2 := HL4.out w6; clear hs25 L1)
    | (go_at_call 20; refine (same_c A3 _ 2 c3 2 [3, 6] _ hs36 L2 (by omega)).mono ?_; rintro e w7 ⟨rfl, hb7⟩; have hb7' := below_trans' hb6' hb6'.size (((Below.refl w6.heap.size w6).alloc (Nat.le_refl _) (.cells #[.int .i64 3, .int .i64 6] 3)).trans (hb7.mono (by simp))); have q5 := (hb7'.cell (p := ⟨g5, 5, none⟩) hg5).trans k5; have q6 := (hb7'.cell (p := ⟨g5, 6, none⟩) hg5).trans k6; have q7 := (hb7'.cell (p := ⟨g5, 7, none⟩) hg5).trans k7; have q9 := (hb7'.cell (p := ⟨g5, 9, none⟩) hg5).trans k9))
  go_ret
  exact ⟨rfl, below_trans' hbw5 hbw5.size hb7'⟩
end Go.Proofs.Ytogbapdioccamaa
