/- The walk of the law TocContents. -/
import Derived.Test.YtbeollddmglkcaaD2
namespace Go.Proofs.Ytbeollddmglkcaa
open Go.RowKit

set_option maxHeartbeats 2000000 in
set_option maxRecDepth 100000 in
theorem law_contents (A : Option Addr) (n c : Nat) (hs : List Hd) (a b : Int) (w : World) (ha : Sl w 5 hdC A n hs) (hn : n ≤ c) (hc : c ≤ maxLen) :
    Calls Try.prog 4 #[.slice A n c, .int .i64 a, .int .i64 b] w fun e w' => e = .returned (.bool true) ∧ Below w.heap.size w w' := by
  have hcut := cut_any A n c w hn hc
  have ha' := ha.take (k := min n 40) (Nat.min_le_left _ _)
  obtain ⟨m, hm⟩ : ∃ m, m = min n 40 := ⟨_, rfl⟩
  have hm40 : m ≤ 40 := by omega
  rw [← hm] at ha' hcut
  generalize hs.take m = hs' at ha'
  have HC := Lib.hid hcut
  clear hm hcut ha hn hc
  by_cases hbad : a < 1 ∨ b < a ∨ 9 < b
  · have h0 := fun W => contents_none A m c a b W hbad
    have H0 := Lib.hid h0
    clear h0
    by_cases h1 : a < 1
    · go_enter Try.func4, Try.ntmps4
      go_wp2_with (first
        | (go_at_call 9; refine (HC.out).mono ?_; rintro e w1 ⟨rfl, rfl⟩)
        | (go_at_call 13; refine (H0.out _).mono ?_; rintro e w2 ⟨rfl, hb2⟩)
        | (go_at_call 11; refine (known_any _).mono ?_; rintro e w3 ⟨rfl, hb3⟩))
      go_ret
      exact ⟨rfl, below_trans' hb2 hb2.size hb3⟩
    · by_cases h2 : b < a
      · go_enter Try.func4, Try.ntmps4
        go_wp2_with (first
          | (go_at_call 9; refine (HC.out).mono ?_; rintro e w1 ⟨rfl, rfl⟩)
          | (go_at_call 13; refine (H0.out _).mono ?_; rintro e w2 ⟨rfl, hb2⟩)
          | (go_at_call 11; refine (known_any _).mono ?_; rintro e w3 ⟨rfl, hb3⟩))
        go_ret
        exact ⟨rfl, below_trans' hb2 hb2.size hb3⟩
      · have h3 : 9 < b := by omega
        go_enter Try.func4, Try.ntmps4
        go_wp2_with (first
          | (go_at_call 9; refine (HC.out).mono ?_; rintro e w1 ⟨rfl, rfl⟩)
          | (go_at_call 13; refine (H0.out _).mono ?_; rintro e w2 ⟨rfl, hb2⟩)
          | (go_at_call 11; refine (known_any _).mono ?_; rintro e w3 ⟨rfl, hb3⟩))
        go_ret
        exact ⟨rfl, below_trans' hb2 hb2.size hb3⟩
  · have h1 : ¬ a < 1 := by omega
    have h2 : ¬ b < a := by omega
    have h3 : ¬ 9 < b := by omega
    have h0 := fun W h => contents_any A m c hs' a b W h (by omega) h1 h2 h3
    have h0' := fun W h => mcontents_any A m c hs' a b W h (by omega)
    have hlen : (hs'.filter (keptB a b)).length ≤ 40 := by have := List.length_filter_le (keptB a b) hs'; have := ha'.len; omega
    have hel : (entries (hs'.filter (keptB a b))).length = (hs'.filter (keptB a b)).length := by unfold entries; simp
    generalize entries (hs'.filter (keptB a b)) = es at h0 h0' hel
    generalize (hs'.filter (keptB a b)).length = l at h0 h0' hlen hel
    have H0 := Lib.hid h0
    have H0' := Lib.hid h0'
    have HEL := Lib.hid hel
    clear h0 h0' hbad hel
    go_enter Try.func4, Try.ntmps4
    go_wp2_with (first
      | (go_at_call 9; refine (HC.out).mono ?_; rintro e w1 ⟨rfl, rfl⟩)
      | (go_at_call 13; refine (H0.out _ ha').mono ?_; rintro e w2 ⟨A2, c2, rfl, ho2, hb2⟩)
      | (go_at_call 11; refine (known_any _).mono ?_; rintro e w3 ⟨rfl, hb3⟩; have hb23 := below_trans' hb2 hb2.size hb3)
      | (go_at_call 14; refine (H0'.out _ (ha'.below hb23)).mono ?_; rintro e w4 ⟨A4, c4, rfl, ho4, hb4⟩; have hb24 := below_trans' hb23 hb23.size hb4))
    have ho5 := (ho2.below hb3).below hb4
    clear ho2
    go_loopw [10] (fun vi wr => ∃ k : Nat, k ≤ l ∧ vi = .int .i64 k ∧ Below w4.heap.size w4 wr) (fun i _ => l - (intOf i).toNat)
    case atStart => exact ⟨0, Nat.zero_le _, rfl, Below.refl _ _⟩
    case round =>
      obtain ⟨k, hk, rfl, hbw⟩ := hrel
      by_cases hlt : k < l
      · obtain ⟨g, x, rfl, _, _, hx, hcx⟩ := (ho4.below hbw).field enC_len hlt
        obtain ⟨g2, y, rfl, _, _, hy, hcy⟩ := (ho5.below hbw).field enC_len hlt
        have hxy : x = y := by rw [hx] at hy; injection hy
        subst hxy
        have p0 : wr.cell? ⟨g, k * 6, none⟩ = _ := hcx 0 _ rfl
        have p1 := hcx 1 _ rfl
        have p2 := hcx 2 _ rfl
        have p3 := hcx 3 _ rfl
        have p4 := hcx 4 _ rfl
        have p5 := hcx 5 _ rfl
        have q0 : wr.cell? ⟨g2, k * 6, none⟩ = _ := hcy 0 _ rfl
        have q1 := hcy 1 _ rfl
        have q2 := hcy 2 _ rfl
        have q3 := hcy 3 _ rfl
        have q4 := hcy 4 _ rfl
        have q5 := hcy 5 _ rfl
        clear hcx hcy hx hy
        go_wp2_with fail
        go_quiet (fail)
        go_wp2_with fail
        go_roundw
        case rel => exact ⟨k + 1, by omega, by go_num, below_drewN hbw _⟩
        case measure => simp [intOf]; omega
      · go_wp2_with fail
        go_ret
        exact ⟨rfl, below_trans' hb24 hb24.size hbw⟩
end Go.Proofs.Ytbeollddmglkcaa
