/- BinarySearch of any slice of int that reads. -/
import Derived.Test.YtogbapdioccamaaW1
import Derived.Test.YtogbapdioccamaaShelf
import Derived.Lib.SlicesSearch
import Derived.Deep.LoopGhost
import Derived.Deep.Draws
import Derived.Lib.Walk
namespace Go.Proofs.Ytogbapdioccamaa
open Go.RowKit

set_option maxHeartbeats 4000000 in
set_option maxRecDepth 1000000 in
theorem bsearch_any (A : Option Addr) (n c : Nat) (zs : List Int) (x : Int) (w : World) (ha : Sl w 1 intC A n zs) (hbig : n < 4611686018427387904) (hs : zs.Pairwise (· ≤ ·)) :
    Calls Try.prog 50 #[.slice A n c, .int .i64 x] w fun e w' => e = .returned (.tuple #[.int .i64 (zs.countP (· < x) : Nat), .bool (zs.contains x)]) ∧ ∃ q, w' = w.drewN q := by
  have hl := ha.len
  have htk : zs.take n = zs := by rw [← hl, List.take_length]
  have S := Lib.hid (Go.Lib.sorted_at zs n (by omega) (by rw [htk]; exact hs))
  have E0 := Lib.hid (fun i (hi : i ≤ n) h1 h2 => Go.Lib.search_end zs n i x (by omega) hi h1 h2 S.out)
  rw [htk] at E0
  have HL := Lib.hid hl
  clear hs htk hl
  go_enter Try.func50, Try.ntmps50
  go_wp2_with fail
  go_loopg [7, 8] n (fun g s7 s8 wr => ∃ lo hi q : Nat, s7 = .int .i64 lo ∧ s8 = .int .i64 hi ∧ lo ≤ hi ∧ hi ≤ n ∧ hi - lo ≤ g ∧ wr = w.drewN q ∧ (∀ t, t < lo → zs.getD t 0 < x) ∧ (∀ t, hi ≤ t → t < n → x ≤ zs.getD t 0))
  case atStart => exact ⟨0, n, 0, rfl, rfl, Nat.zero_le _, Nat.le_refl _, by omega, rfl, fun t ht => absurd ht (Nat.not_lt_zero _), fun t h1 h2 => by omega⟩
  case round =>
    obtain ⟨lo, hi, q, rfl, rfl, hlh, hin, hg, rfl, h1, h2⟩ := hrel
    have I := Lib.hid (show (∀ t, t < lo → zs.getD t 0 < x) ∧ (∀ t, hi ≤ t → t < n → x ≤ zs.getD t 0) from ⟨h1, h2⟩)
    clear h1 h2
    by_cases hlt : lo < hi
    · obtain ⟨ad, rfl, hl, cm⟩ := ha.int (k := (lo + hi) / 2) (by omega)
      have HA := Lib.hid ha
      clear ha
      have hY : zs.getD ((lo + hi) / 2) 0 = gI zs ((lo + hi) / 2) := rfl
      generalize gI zs ((lo + hi) / 2) = y at cm hY
      have Y := Lib.hid hY
      clear hY
      by_cases hyx : y < x
      · go_wp2_with (first | (go_at_call 59; refine (Try.cmp_Less_int2 _ _ _).mono ?_; rintro e w' ⟨rfl, rfl⟩) | (go_at_call 60; refine (Try.slices_isNaN_int2 _ _).mono ?_; rintro e w' ⟨rfl, rfl⟩))
        go_roundg (hi - ((lo + hi) / 2 + 1))
        case measure => omega
        case rel =>
          refine ⟨(lo + hi) / 2 + 1, hi, _, by rw [show ((lo : Int) + (hi : Int)) / 2 + 1 = (((lo + hi) / 2 + 1 : Nat) : Int) by omega], rfl, by omega, hin, Nat.le_refl _, rfl, fun t ht => ?_, I.out.2⟩
          have := S.out t ((lo + hi) / 2) (by omega) (by omega)
          rw [Y.out] at this
          omega
      · go_wp2_with (first | (go_at_call 59; refine (Try.cmp_Less_int2 _ _ _).mono ?_; rintro e w' ⟨rfl, rfl⟩) | (go_at_call 60; refine (Try.slices_isNaN_int2 _ _).mono ?_; rintro e w' ⟨rfl, rfl⟩))
        go_roundg ((lo + hi) / 2 - lo)
        case measure => omega
        case rel =>
          refine ⟨lo, (lo + hi) / 2, _, rfl, by rw [show ((lo : Int) + (hi : Int)) / 2 = (((lo + hi) / 2 : Nat) : Int) by omega], by omega, by omega, Nat.le_refl _, rfl, I.out.1, fun t ht htn => ?_⟩
          have := S.out ((lo + hi) / 2) t ht htn
          rw [Y.out] at this
          omega
    · have hh : hi = lo := by omega
      subst hh
      have E := E0.out hi hin I.out.1 I.out.2
      have HE := Lib.hid E
      clear E
      by_cases hn : hi < n
      · obtain ⟨ad, rfl, hl, cl⟩ := ha.int hn
        have HA := Lib.hid ha
        clear ha
        have hY : zs.getD hi 0 = gI zs hi := rfl
        generalize gI zs hi = y at cl hY
        have Y := Lib.hid hY
        clear hY
        by_cases hyx : y = x
        · go_wp2_with (first | (go_at_call 59; refine (Try.cmp_Less_int2 _ _ _).mono ?_; rintro e w' ⟨rfl, rfl⟩) | (go_at_call 60; refine (Try.slices_isNaN_int2 _ _).mono ?_; rintro e w' ⟨rfl, rfl⟩))
          go_ret2
          refine ⟨?_, _, rfl⟩
          rw [HE.out.1, HE.out.2, Y.out, decide_eq_true (show hi < n ∧ y = x from ⟨hn, hyx⟩)]
          first | rfl | simp [*]
        · go_wp2_with (first | (go_at_call 59; refine (Try.cmp_Less_int2 _ _ _).mono ?_; rintro e w' ⟨rfl, rfl⟩) | (go_at_call 60; refine (Try.slices_isNaN_int2 _ _).mono ?_; rintro e w' ⟨rfl, rfl⟩))
          go_ret2
          refine ⟨?_, _, rfl⟩
          rw [HE.out.1, HE.out.2, Y.out, decide_eq_false (show ¬ (hi < n ∧ y = x) from fun h => hyx h.2)]
          first | rfl | simp [*]
      · clear ha
        go_wp2_with (first | (go_at_call 59; refine (Try.cmp_Less_int2 _ _ _).mono ?_; rintro e w' ⟨rfl, rfl⟩) | (go_at_call 60; refine (Try.slices_isNaN_int2 _ _).mono ?_; rintro e w' ⟨rfl, rfl⟩))
        go_ret2
        refine ⟨?_, _, rfl⟩
        rw [HE.out.1, HE.out.2, decide_eq_false (show ¬ (hi < n ∧ zs.getD hi 0 = x) from fun h => hn h.1)]
        first | rfl | simp [*]
end Go.Proofs.Ytogbapdioccamaa
