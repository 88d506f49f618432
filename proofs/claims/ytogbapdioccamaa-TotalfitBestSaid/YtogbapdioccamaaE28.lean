/- The walks of the laws TotalfitChecks, TotalfitPositions, of what prepare is said to do. -/
import Derived.Test.YtogbapdioccamaaE27
namespace Go.Proofs.Ytogbapdioccamaa
open Go.RowKit

set_option maxRecDepth 100000 in
set_option maxHeartbeats 1000000 in
theorem law_checks (hp : PrepOk) (A B : Option Addr) (n c m d : Nat) (xs : List It) (ms : List Int) (w : World) (ha : Sl w 6 itC A n xs) (hb : Sl w 1 intC B m ms) (hn : n ≤ c ∧ c ≤ maxLen) (hm : m ≤ d ∧ d ≤ maxLen) :
    Calls Try.prog 3 #[.slice A n c, .slice B m d] w fun e w' => e = .returned (.bool true) ∧ Below w.heap.size w w' := by
  have c1 := fun W => cut_any A n c W hn.1 hn.2
  have c2 := fun W => few_any B m d W hm.1 hm.2
  have ha' := ha.take (k := min n 60) (Nat.min_le_left _ _)
  have hb' := hb.take (k := min m 10) (Nat.min_le_left _ _)
  have h60 : min n 60 ≤ 60 := Nat.min_le_right _ _
  have h10 : min m 10 ≤ 10 := Nat.min_le_right _ _
  generalize xs.take (min n 60) = xs' at *
  generalize ms.take (min m 10) = ms' at *
  generalize min n 60 = n' at *
  generalize min m 10 = m' at *
  have k1 := fun W h => Check_any A n' c xs' W h (by omega)
  have k2 := fun W h => mcheck_any A n' c xs' W h (by omega)
  have k3 := fun W h => CheckM_any B m' d ms' W h (by omega)
  have k4 := fun W h => mcheckM_any B m' d ms' W h (by omega)
  generalize chk xs' = v at *
  generalize chkM ms' = u at *
  clear ha hb hn hm
  go_enter Try.func3, Try.ntmps3
  go_wp2_with (first
    | (go_at_call 12; refine (c1 _).mono ?_; rintro e w1 ⟨rfl, rfl⟩)
    | (go_at_call 13; refine (c2 _).mono ?_; rintro e w1 ⟨rfl, rfl⟩)
    | (go_at_call 14; refine (known_of hp _).mono ?_; rintro e w2 ⟨rfl, hb2⟩; have ha2 := ha'.below hb2; have hm2 := hb'.below hb2)
    | (go_at_call 15; refine (k1 _ ha2).mono ?_; rintro e w3 ⟨rfl, hb3⟩; have ha3 := ha2.below hb3; have hm3 := hm2.below hb3; have hbw3 := below_trans' hb2 hb2.size hb3)
    | (go_at_call 16; refine (k2 _ ha3).mono ?_; rintro e w4 ⟨rfl, hb4⟩; have hm4 := hm3.below hb4; have hbw4 := below_trans' hbw3 hbw3.size hb4)
    | (go_at_call 17; refine (k3 _ hm4).mono ?_; rintro e w5 ⟨rfl, hb5⟩; have hm5 := hm4.below hb5; have hbw5 := below_trans' hbw4 hbw4.size hb5)
    | (go_at_call 18; refine (k4 _ hm5).mono ?_; rintro e w6 ⟨rfl, hb6⟩; have hbw6 := below_trans' hbw5 hbw5.size hb6))
  go_ret
  exact ⟨rfl, hbw6⟩

set_option maxRecDepth 100000 in
set_option maxHeartbeats 1000000 in
theorem law_positions (hp : PrepOk) (A : Option Addr) (n c : Nat) (xs : List It) (w : World) (ha : Sl w 6 itC A n xs) (hn : n ≤ c ∧ c ≤ maxLen) :
    Calls Try.prog 4 #[.slice A n c] w fun e w' => e = .returned (.bool true) ∧ Below w.heap.size w w' := by
  have c1 := fun W => cut_any A n c W hn.1 hn.2
  have ha' := ha.take (k := min n 60) (Nat.min_le_left _ _)
  have h60 : min n 60 ≤ 60 := Nat.min_le_right _ _
  generalize xs.take (min n 60) = xs' at *
  generalize min n 60 = n' at *
  have k1 := fun W h => Positions_any A n' c xs' W h (by omega)
  have k2 := fun W h => mcheck_any A n' c xs' W h (by omega)
  have k3 := fun W h => mpositions_any A n' c xs' W h (by omega)
  have hlen := ha'.len
  have hpl : (posN xs').length ≤ 60 := by
    have := posT_len xs' xs'.length
    unfold posN
    omega
  clear ha hn hlen
  by_cases h0 : chk xs' = 0
  · have k4 : ∀ W, Sl W 6 itC A n' xs' → Calls Try.prog 19 #[.slice A n' c] W fun e w' => ∃ A' c', e = .returned (.tuple #[.slice A' (posN xs').length c', .int .i64 0]) ∧ Own w' W.heap.size 3 1 intC A' (posN xs').length c' (ints (posN xs')) ∧ Below W.heap.size W w' := fun W h => (k1 W h).mono fun e w' h => by
      rcases h with h | h
      · exact absurd h0 h.1
      · exact h.2
    rw [h0] at k2
    clear k1 h0
    have k5 := fun A B c d W h1 h2 => same_c A B (posN xs').length c d (ints (posN xs')) W h1 h2 (by omega)
    generalize (posN xs').length = pl at *
    generalize ints (posN xs') = ps at *
    go_enter Try.func4, Try.ntmps4
    go_wp2_with (first
      | (go_at_call 12; refine (c1 _).mono ?_; rintro e w1 ⟨rfl, rfl⟩)
      | (go_at_call 19; refine (k4 _ ha').mono ?_; rintro e w2 ⟨A2, c2, rfl, ho2, hb2⟩; have ha2 := ha'.below hb2)
      | (go_at_call 14; refine (known_of hp _).mono ?_; rintro e w3 ⟨rfl, hb3⟩; have ha3 := ha2.below hb3; have ho3 := ho2.below hb3; have hbw3 := below_trans' hb2 hb2.size hb3)
      | (go_at_call 16; refine (k2 _ ha3).mono ?_; rintro e w4 ⟨rfl, hb4⟩; have ha4 := ha3.below hb4; have ho4 := ho3.below hb4; have hbw4 := below_trans' hbw3 hbw3.size hb4)
      | (go_at_call 21; refine (k3 _ ha4).mono ?_; rintro e w5 ⟨A5, c5, rfl, ho5, hb5⟩; have hs4 := (ho4.below hb5).sl intC_len; have hs5 := ho5.sl intC_len; have hbw5 := below_trans' hbw4 hbw4.size hb5)
      | (go_at_call 20; refine (k5 A2 A5 c2 c5 _ hs4 hs5).mono ?_; rintro e w6 ⟨rfl, hb6⟩; have hbw6 := below_trans' hbw5 hbw5.size hb6))
    go_ret
    exact ⟨rfl, hbw6⟩
  · have k4 : ∀ W, Sl W 6 itC A n' xs' → Calls Try.prog 19 #[.slice A n' c] W fun e w' => e = .returned (.tuple #[.slice none 0 0, .int .i64 (chk xs')]) ∧ Below W.heap.size W w' := fun W h => (k1 W h).mono fun e w' h => by
      rcases h with h | h
      · exact h.2
      · exact absurd h.1 h0
    have h1 : (chk xs' != 0) = true := by simpa using h0
    clear k1 h0 k3
    generalize chk xs' = v at *
    go_enter Try.func4, Try.ntmps4
    go_wp2_with (first
      | (go_at_call 12; refine (c1 _).mono ?_; rintro e w1 ⟨rfl, rfl⟩)
      | (go_at_call 19; refine (k4 _ ha').mono ?_; rintro e w2 ⟨rfl, hb2⟩; have ha2 := ha'.below hb2)
      | (go_at_call 14; refine (known_of hp _).mono ?_; rintro e w3 ⟨rfl, hb3⟩; have ha3 := ha2.below hb3; have hbw3 := below_trans' hb2 hb2.size hb3)
      | (go_at_call 16; refine (k2 _ ha3).mono ?_; rintro e w4 ⟨rfl, hb4⟩; have hbw4 := below_trans' hbw3 hbw3.size hb4))
    go_ret
    exact ⟨rfl, hbw4⟩
end Go.Proofs.Ytogbapdioccamaa
