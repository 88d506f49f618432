/- The walks of the laws of chapter 38: TocScopes, TocContents. -/
import Derived.Test.YtbeollddmglkcaaA10
import Derived.Test.YtbeollddmglkcaaP2
namespace Go.Proofs.Ytbeollddmglkcaa
open Go.RowKit

def hdOk (h : Hd) : Prop := -9223372036854775808 ≤ h.level ∧ h.level ≤ 9223372036854775807 ∧ h.label.size ≤ maxLen ∧ h.title.size ≤ maxLen

set_option maxHeartbeats 2000000 in
set_option maxRecDepth 100000 in
theorem law_scopes (A : Option Addr) (n c : Nat) (hs : List Hd) (p : Int) (w : World) (ha : Sl w 5 hdC A n hs) (hn : n ≤ c) (hc : c ≤ maxLen) (hp : -9223372036854775808 ≤ p ∧ p ≤ 9223372036854775807) :
    Calls Try.prog 3 #[.slice A n c, .int .i64 p] w fun e w' => e = .returned (.bool true) ∧ Below w.heap.size w w' := by
  have hcut := cut_any A n c w hn hc
  have ha' := ha.take (k := min n 40) (Nat.min_le_left _ _)
  obtain ⟨m, hm⟩ : ∃ m, m = min n 40 := ⟨_, rfl⟩
  have hm40 : m ≤ 40 := by omega
  have hm2 : m ≤ maxLen := by unfold maxLen; omega
  rw [← hm] at ha' hcut
  generalize hs.take m = hs' at ha'
  have HC := Lib.hid hcut
  clear hm hcut ha hn hc
  by_cases hin : p < 0 ∨ (m : Int) ≤ p
  · rcases hin with h1 | h1
    · go_enter Try.func3, Try.ntmps3
      go_wp2_with (first
        | (go_at_call 9; refine (HC.out).mono ?_; rintro e w1 ⟨rfl, rfl⟩)
        | (go_at_call 10; refine (scope_none A m c p _ hm2 (.inl h1)).mono ?_; rintro e w2 ⟨rfl, hb2⟩)
        | (go_at_call 11; refine (known_any _).mono ?_; rintro e w3 ⟨rfl, hb3⟩))
      go_ret
      exact ⟨rfl, below_trans' hb2 hb2.size hb3⟩
    · have h0 : ¬ p < 0 := by omega
      go_enter Try.func3, Try.ntmps3
      go_wp2_with (first
        | (go_at_call 9; refine (HC.out).mono ?_; rintro e w1 ⟨rfl, rfl⟩)
        | (go_at_call 10; refine (scope_none A m c p _ hm2 (.inr h1)).mono ?_; rintro e w2 ⟨rfl, hb2⟩)
        | (go_at_call 11; refine (known_any _).mono ?_; rintro e w3 ⟨rfl, hb3⟩))
      go_ret
      exact ⟨rfl, below_trans' hb2 hb2.size hb3⟩
  · obtain ⟨q, rfl⟩ := Int.eq_ofNat_of_zero_le (by omega : 0 ≤ p)
    have hqm : q < m := by omega
    obtain ⟨s1, s2, s3, s4⟩ := scope_spec (lvs hs') (n := m) (k := q) hqm
    have H3 := Lib.hid s3
    clear hin hp s3 s4
    have hsc := fun W h => scope_any A m c hs' q W h hm2 hqm
    have HSC := Lib.hid hsc
    have hbel := belF_spec (lvs hs') (n := m) (t := q) hqm
    have HBEL := Lib.hid hbel
    clear hsc hbel
    obtain ⟨e, he⟩ : ∃ e, e = scopeEnd (lvs hs') m q := ⟨_, rfl⟩
    rw [← he] at s1 s2 H3 HSC HBEL
    clear he
    go_enter Try.func3, Try.ntmps3
    go_wp2_with (first
      | (go_at_call 9; refine (HC.out).mono ?_; rintro e w1 ⟨rfl, rfl⟩)
      | (go_at_call 10; refine (HSC.out _ ha').mono ?_; rintro e w2 ⟨rfl, hb2⟩)
      | (go_at_call 11; refine (known_any _).mono ?_; rintro e w3 ⟨rfl, hb3⟩))
    have hb4 := below_trans' hb2 hb2.size hb3
    go_loopw [7] (fun vi wr => ∃ k : Nat, k ≤ m ∧ vi = .int .i64 k ∧ Below w.heap.size w wr) (fun i _ => m - (intOf i).toNat)
    case atStart => exact ⟨0, Nat.zero_le _, rfl, hb4⟩
    case round =>
      obtain ⟨k, hk, rfl, hbw⟩ := hrel
      by_cases hlt : k < m
      · have hb := HBEL.out (k + 2) k (by omega) (by omega) (by omega)
        have hcall := fun W h => belongs_q A m c hs' q hm2 (k + 2) (k : Int) W (by omega) (by omega) (by omega) h
        have hsl := ha'.below hbw
        obtain ⟨ad, x, rfl, _, hx, _, _, q2, _, _⟩ := hsl.hd hlt
        obtain ⟨_, y, e', _, hy, _, _, q3, _, _⟩ := hsl.hd hqm
        cases e'
        by_cases h1 : q ≤ k
        · by_cases h2 : k < e
          · rw [hb.2 ⟨by omega, by omega⟩] at hcall
            have HCL := Lib.hid hcall
            clear hb hcall
            by_cases h3 : q < k
            · have hxy : y.level < x.level := by
                have := H3.out k h3 h2
                simpa [lvs, hx, hy] using this
              clear hx hy
              go_wp2_with fail
              go_quiet ((go_at_call 12; exact Calls.quiet_of (HCL.out _ (hsl.drewN _))))
              go_wp2_with fail
              go_roundw
              case rel => exact ⟨k + 1, by omega, by go_num, below_drewN hbw _⟩
              case measure => simp [intOf]; omega
            · have h4 : decide ((q : Int) < (k : Int)) = false := by simp; omega
              clear hx hy
              go_wp2_with fail
              go_quiet ((go_at_call 12; exact Calls.quiet_of (HCL.out _ (hsl.drewN _))))
              go_wp2_with fail
              go_roundw
              case rel => exact ⟨k + 1, by omega, by go_num, below_drewN hbw _⟩
              case measure => simp [intOf]; omega
          · rw [show belF (lvs hs') (k + 2) k q = false from by
              rw [← Bool.not_eq_true]; intro h; have := hb.1 h; omega] at hcall
            have HCL := Lib.hid hcall
            have h4 : decide ((k : Int) < (e : Int)) = false := by simp; omega
            clear hb hcall hx hy
            by_cases h3 : q < k
            · go_wp2_with fail
              go_quiet ((go_at_call 12; exact Calls.quiet_of (HCL.out _ (hsl.drewN _))))
              go_wp2_with fail
              go_roundw
              case rel => exact ⟨k + 1, by omega, by go_num, below_drewN hbw _⟩
              case measure => simp [intOf]; omega
            · exfalso; omega
        · rw [show belF (lvs hs') (k + 2) k q = false from by
            rw [← Bool.not_eq_true]; intro h; have := hb.1 h; omega] at hcall
          have HCL := Lib.hid hcall
          have h6 : ¬ q < k := by omega
          clear hb hcall hx hy
          go_wp2_with fail
          go_quiet ((go_at_call 12; exact Calls.quiet_of (HCL.out _ (hsl.drewN _))))
          go_wp2_with fail
          go_roundw
          case rel => exact ⟨k + 1, by omega, by go_num, below_drewN hbw _⟩
          case measure => simp [intOf]; omega
      · go_wp2_with fail
        go_ret
        exact ⟨by simp, hbw⟩
end Go.Proofs.Ytbeollddmglkcaa
