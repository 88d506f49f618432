/- checkBreaks of the model. -/
import Derived.Test.YtogbapdioccamaaE32
namespace Go.Proofs.Ytogbapdioccamaa
open Go.RowKit

set_option maxRecDepth 100000 in
set_option maxHeartbeats 4000000 in
theorem mcheckBreaks_any (A B : Option Addr) (n K c d : Nat) (xs : List It) (bs : List Int) (w : World) (ha : Sl w 6 itC A n xs) (hB : Sl w 1 intC B K bs) (hn : n ≤ 4096) (hK : K ≤ 4096) :
    Calls Try.prog 26 #[.slice A n c, .slice B K d] w fun e w' => e = .returned (.int .i64 (brk xs bs)) ∧ Below w.heap.size w w' := by
  have hxl := ha.len
  have hbl := hB.len
  have b2 := fun k (hk : k < K) h0 h => brk_two (xs := xs) (bs := bs) (k := k) (by omega) h0 h
  have b6 := fun k (hk : k < K) h0 h hk0 hle => brk_six (xs := xs) (bs := bs) (k := k) (by omega) h0 h hk0 hle
  have b38 := fun (h0 : ∀ j, j < K → badB xs bs j = false) i (hi : i < n) h => brk_state (xs := xs) (bs := bs) (i := i) (fun j hj => h0 j (by omega)) (by omega) h
  have b0 := fun (h0 : ∀ j, j < K → badB xs bs j = false) (h : ∀ i, i < n → missB xs bs i = false) => brk_zero (xs := xs) (bs := bs) (fun j hj => h0 j (by omega)) (fun i hi => h i (by omega))
  have hma := fun (h0 : ∀ j, j < K → badB xs bs j = false) (k : Nat) (i : Int) (h1 : ∀ j, j < k → gI bs j < i) (h2 : k < K → i ≤ gI bs k) => mem_at (xs := xs) (bs := bs) (fun j hj => h0 j (by omega)) (k := k) (i := i) h1 (fun h => h2 (by omega))
  rw [hbl] at hma
  obtain ⟨T, hT⟩ : ∃ T, T = brk xs bs := ⟨_, rfl⟩
  rw [← hT] at b2 b6 b38 b0 ⊢
  clear hT
  have H2 := Lib.hid b2
  have H6 := Lib.hid b6
  have H38 := Lib.hid b38
  have H0 := Lib.hid b0
  have HM := Lib.hid hma
  have HX := Lib.hid hxl
  clear b2 b6 b38 b0 hma hxl hbl
  have cp := fun i w h => mposition_any A n c xs i w h hn
  have cf := fun i w h => mforced_any A n c xs i w h
  have CP := Lib.hid cp
  have CF := Lib.hid cf
  clear cp cf
  go_enter Try.func26, Try.ntmps26
  go_wp2_with fail
  go_loopw [5] (fun vi wr => ∃ k : Nat, k ≤ K ∧ vi = .int .i64 k ∧ (∀ j, j < k → badB xs bs j = false) ∧ Below w.heap.size w wr) (fun vi _ => K - (intOf vi).toNat)
  case atStart => exact ⟨0, Nat.zero_le _, rfl, fun j h => absurd h (by omega), Below.refl _ _⟩
  case round =>
    obtain ⟨k, hk, rfl, hall, hbw⟩ := hrel
    have HA := Lib.hid hall
    clear hall
    by_cases hlt : k < K
    · obtain ⟨ad, rfl, hl, r⟩ := (hB.below hbw).int hlt
      have ha1 := ha.below hbw
      have cp := CP.out (gI bs k) wr ha1
      by_cases hpo : posI xs (gI bs k) = true
      · have HP := Lib.hid hpo
        rw [hpo] at cp
        clear hpo
        by_cases hk0 : k = 0
        · have hz1 : decide (0 < k) = false := decide_eq_false (by omega)
          have HK0 := Lib.hid hk0
          clear hk0
          go_wp2_with (first | (go_at_call 42; refine cp.mono ?_; rintro e w3 ⟨rfl, rfl⟩))
          go_quiet (fail)
          go_wp2_with fail
          go_roundw
          case rel =>
            refine ⟨k + 1, by omega, by go_num, fun i hi => ?_, below_drewN hbw _⟩
            obtain rfl : i = k := by have := HK0.out; omega
            exact badB_no HP.out (.inl HK0.out)
          case measure => simp [intOf]; omega
        · obtain ⟨ad', e, _, rp⟩ := (hB.below hbw).int (k := k - 1) (by omega)
          injection e with e
          subst e
          have hk1 : decide (0 < k) = true := decide_eq_true (by omega)
          have hk2 : (0 : Int) ≤ (k : Int) - 1 := by omega
          have hk3 : ((k : Int) - 1).toNat = k - 1 := by omega
          by_cases hle : gI bs k ≤ gI bs (k - 1)
          · have hT6 := H6.out k hlt HA.out HP.out (by omega) hle
            have hle1 : decide (gI bs k ≤ gI bs (k - 1)) = true := decide_eq_true hle
            have HT := Lib.hid hT6
            clear hT6 hle
            go_wp2_with (first | (go_at_call 42; refine cp.mono ?_; rintro e w3 ⟨rfl, rfl⟩))
            go_quiet (fail)
            go_wp2_with fail
            go_ret
            exact ⟨ret_int HT.out.symm, below_drewN hbw _⟩
          · have hle1 : decide (gI bs k ≤ gI bs (k - 1)) = false := decide_eq_false hle
            have HLE := Lib.hid (show gI bs (k - 1) < gI bs k by omega)
            clear hle
            go_wp2_with (first | (go_at_call 42; refine cp.mono ?_; rintro e w3 ⟨rfl, rfl⟩))
            go_quiet (fail)
            go_wp2_with fail
            go_roundw
            case rel =>
              refine ⟨k + 1, by omega, by go_num, fun i hi => ?_, below_drewN hbw _⟩
              rcases Nat.lt_or_ge i k with h | h
              · exact HA.out i h
              · obtain rfl : i = k := by omega
                exact badB_no HP.out (.inr HLE.out)
            case measure => simp [intOf]; omega
      · have hpo2 : posI xs (gI bs k) = false := by simpa using hpo
        have HT := Lib.hid (H2.out k hlt HA.out hpo2)
        rw [hpo2] at cp
        clear hpo hpo2
        go_wp2_with (first | (go_at_call 42; refine cp.mono ?_; rintro e w3 ⟨rfl, rfl⟩))
        go_ret
        exact ⟨ret_int HT.out.symm, hbw⟩
    · have hkK : k = K := by omega
      subst hkK
      clear hlt hk
      go_wp2_with fail
      go_loopw [6, 7] (fun vk vi wx => ∃ k2 i : Nat, k2 ≤ k ∧ i ≤ n ∧ vk = .int .i64 k2 ∧ vi = .int .i64 i ∧ (∀ j, j < k2 → gI bs j < (i : Int)) ∧ (∀ j, j < i → missB xs bs j = false) ∧ Below w.heap.size w wx) (fun _ vi _ => n - (intOf vi).toNat)
      case atStart => exact ⟨0, 0, Nat.zero_le _, Nat.zero_le _, rfl, rfl, fun j h => absurd h (by omega), fun j h => absurd h (by omega), hbw⟩
      case round =>
        obtain ⟨k2, i, hk2, hi, rfl, rfl, hlo, hmi, hbx⟩ := hrel
        have HMI := Lib.hid hmi
        have HLO := Lib.hid hlo
        clear hmi hlo
        by_cases hin : i < n
        · go_wp2_with fail
          go_loopw [6] (fun vk wx => ∃ k3 : Nat, k3 ≤ k ∧ vk = .int .i64 k3 ∧ (∀ j, j < k3 → gI bs j < (i : Int)) ∧ Below w.heap.size w wx) (fun vk _ => k - (intOf vk).toNat)
          case atStart => exact ⟨k2, hk2, rfl, HLO.out, hbx⟩
          case round =>
            clear HLO
            obtain ⟨k3, hk3, rfl, hlo3, hb3⟩ := hrel
            have ha3 := ha.below hb3
            have cf := CF.out (i : Int) wr ha3
            have hmem := HM.out HA.out k3 (i : Int) hlo3
            have HLO3 := Lib.hid hlo3
            clear hlo3
            by_cases hkk : k3 < k
            · obtain ⟨ad, rfl, hl, r⟩ := (hB.below hb3).int hkk
              by_cases hg : gI bs k3 < (i : Int)
              · have hg1 : decide (gI bs k3 < (i : Int)) = true := decide_eq_true hg
                have HG := Lib.hid hg
                clear hg hmem
                go_wp2_with fail
                go_roundw
                case rel =>
                  refine ⟨k3 + 1, by omega, by go_num, fun j hj => ?_, hb3⟩
                  rcases Nat.lt_or_ge j k3 with h | h
                  · exact HLO3.out j h
                  · obtain rfl : j = k3 := by omega
                    exact HG.out
                case measure => simp [intOf]; omega
              · have hg1 : decide (gI bs k3 < (i : Int)) = false := decide_eq_false hg
                have hmm := hmem (fun _ => by omega)
                clear hmem
                cases hfi : forI xs (i : Int)
                · have HMS := Lib.hid (show missB xs bs i = false by unfold missB; rw [hfi]; rfl)
                  rw [hfi] at cf
                  clear hfi hmm hg
                  go_wp2_with (first | (go_at_call 47; refine cf.mono ?_; rintro e w3 ⟨rfl, rfl⟩))
                  go_roundw
                  case rel =>
                    refine ⟨k3, i + 1, by omega, by omega, rfl, by go_num, fun j hj => by have := HLO3.out j hj; omega, fun j hj => ?_, hb3⟩
                    rcases Nat.lt_or_ge j i with h | h
                    · exact HMI.out j h
                    · obtain rfl : j = i := by omega
                      exact HMS.out
                  case measure => simp [intOf]; omega
                · rw [hfi] at cf
                  by_cases hge : gI bs k3 = (i : Int)
                  · have HMS := Lib.hid (show missB xs bs i = false by unfold missB; rw [hfi, decide_eq_true (hmm.2 ⟨hkk, hge⟩)]; rfl)
                    have hne : (gI bs k3 != (i : Int)) = false := by rw [hge, bne_self_eq_false]
                    clear hfi hmm hg hge
                    go_wp2_with (first | (go_at_call 47; refine cf.mono ?_; rintro e w3 ⟨rfl, rfl⟩))
                    go_roundw
                    case rel =>
                      refine ⟨k3, i + 1, by omega, by omega, rfl, by go_num, fun j hj => by have := HLO3.out j hj; omega, fun j hj => ?_, hb3⟩
                      rcases Nat.lt_or_ge j i with h | h
                      · exact HMI.out j h
                      · obtain rfl : j = i := by omega
                        exact HMS.out
                    case measure => simp [intOf]; omega
                  · have HT := Lib.hid (H38.out HA.out i hin (by unfold missB; rw [hfi, decide_eq_false (fun h => hge (hmm.1 h).2)]; rfl))
                    have hne : (gI bs k3 != (i : Int)) = true := by simpa using hge
                    have hke : ((k3 : Int) == (k : Int)) = false := by simp; omega
                    clear hfi hmm hg hge
                    go_wp2_with (first | (go_at_call 47; refine cf.mono ?_; rintro e w3 ⟨rfl, rfl⟩))
                    go_ret
                    exact ⟨ret_int HT.out.symm, hb3⟩
            · have hkk2 : k3 = k := by omega
              have hmm := hmem (fun h => absurd h hkk)
              clear hmem
              subst hkk2
              cases hfi : forI xs (i : Int)
              · have HMS := Lib.hid (show missB xs bs i = false by unfold missB; rw [hfi]; rfl)
                rw [hfi] at cf
                clear hfi hmm
                go_wp2_with (first | (go_at_call 47; refine cf.mono ?_; rintro e w3 ⟨rfl, rfl⟩))
                go_roundw
                case rel =>
                  refine ⟨k3, i + 1, by omega, by omega, rfl, by go_num, fun j hj => by have := HLO3.out j hj; omega, fun j hj => ?_, hb3⟩
                  rcases Nat.lt_or_ge j i with h | h
                  · exact HMI.out j h
                  · obtain rfl : j = i := by omega
                    exact HMS.out
                case measure => simp [intOf]; omega
              · have HT := Lib.hid (H38.out HA.out i hin (by unfold missB; rw [hfi, decide_eq_false (fun h => hkk (hmm.1 h).1)]; rfl))
                rw [hfi] at cf
                clear hfi hmm
                go_wp2_with (first | (go_at_call 47; refine cf.mono ?_; rintro e w3 ⟨rfl, rfl⟩))
                go_ret
                exact ⟨ret_int HT.out.symm, hb3⟩
        · have hin2 : i = n := by omega
          subst hin2
          have HT := Lib.hid (H0.out HA.out HMI.out)
          go_wp2_with fail
          go_ret
          exact ⟨ret_int HT.out.symm, hbx⟩
end Go.Proofs.Ytogbapdioccamaa
