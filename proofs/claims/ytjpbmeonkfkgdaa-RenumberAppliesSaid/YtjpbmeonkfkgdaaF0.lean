/- codepoint.First, Valid. -/
import Derived.Test.YtjpbmeonkfkgdaaC1
namespace Go.Proofs.Ytjpbmeonkfkgdaa
open Go.RowKit

set_option maxHeartbeats 1000000 in
theorem first_any (s : ByteArray) (w : World) (hs : s.size ≤ maxLen) :
    Calls Try.prog 34 #[.string s] w fun e w' => e = .returned (.int .i64 (firstF (s.size + 1) 0 (byts s))) ∧ w = w' := by
  unfold maxLen at hs
  go_enter Try.func34, Try.ntmps34
  go_wp2_with fail
  go_loopw [3] (fun vi wr => ∃ (k f : Nat), k ≤ s.size ∧ s.size - k < f ∧ vi = .int .i64 k ∧ firstF f k ((byts s).drop k) = firstF (s.size + 1) 0 (byts s) ∧ w = wr) (fun i _ => s.size - (intOf i).toNat)
  case atStart => exact ⟨0, s.size + 1, Nat.zero_le _, by omega, rfl, rfl, rfl⟩
  case round =>
    obtain ⟨k, f, hk, hf, rfl, hr, rfl⟩ := hrel
    obtain ⟨f, rfl⟩ : ∃ f', f = f' + 1 := ⟨f - 1, by omega⟩
    by_cases hlt : k < s.size
    · have hd := byts_drop s k hlt
      rw [hd, firstF, ← hd] at hr
      have hsz := decF_sz ((byts s).drop k)
      have hbl := byts_len s
      rw [List.length_drop, hbl] at hsz
      have hdc := decode_any s k w hlt (by unfold maxLen; omega)
      obtain ⟨d, hdd⟩ : ∃ d, d = decF ((byts s).drop k) := ⟨_, rfl⟩
      rw [← hdd] at hr hsz hdc
      obtain ⟨p, z, ok⟩ := d
      clear hdd hd hbl
      cases ok
      · have HR := Lib.hid hr
        have HDC := Lib.hid hdc
        clear hr hdc hsz
        go_wp2_with (go_at_call 39; refine (HDC.out).mono ?_; rintro e w1 ⟨rfl, rfl⟩)
        go_ret
        exact ⟨ret_int HR.out, rfl⟩
      · obtain ⟨z1, z2, z3⟩ := hsz rfl
        have HR := Lib.hid hr
        have HDC := Lib.hid hdc
        simp only at z1 z2 z3
        clear hr hdc hsz
        go_wp2_with (go_at_call 39; refine (HDC.out).mono ?_; rintro e w1 ⟨rfl, rfl⟩)
        go_roundw
        case rel => exact ⟨k + z, f, by omega, by omega, by go_num, by have h := HR.out; rw [List.drop_drop] at h; simpa using h, by first | rfl | trivial⟩
        case measure => simp [intOf]; omega
    · have : k = s.size := by omega
      subst this
      rw [List.drop_eq_nil_of_le (by rw [byts_len]; omega), firstF] at hr
      have HR := Lib.hid hr
      clear hr
      go_wp2_with fail
      go_ret
      exact ⟨ret_int HR.out, rfl⟩

theorem valid_any (s : ByteArray) (w : World) (hs : s.size ≤ maxLen) :
    Calls Try.prog 29 #[.string s] w fun e w' => e = .returned (.bool (ptsO (byts s)).isSome) ∧ w = w' := by
  have hn := firstF_neg (s.size + 1) 0 (byts s) (by rw [byts_len]; omega)
  by_cases hv : (ptsO (byts s)).isSome = true
  · have h := hn.2 hv
    have HV := Lib.hid hv
    clear hn hv
    go_enter Try.func29, Try.ntmps29
    go_wp2_with (go_at_call 34; refine (first_any s w hs).mono ?_; rintro e w1 ⟨rfl, rfl⟩)
    go_ret
    exact ⟨ret_bool (by rw [HV.out]), rfl⟩
  · have h : ¬ firstF (s.size + 1) 0 (byts s) < 0 := fun h => hv (hn.1 h)
    have hv : (ptsO (byts s)).isSome = false := by simpa using hv
    have HV := Lib.hid hv
    clear hn hv
    go_enter Try.func29, Try.ntmps29
    go_wp2_with (go_at_call 34; refine (first_any s w hs).mono ?_; rintro e w1 ⟨rfl, rfl⟩)
    go_ret
    exact ⟨ret_bool (by rw [HV.out, decide_eq_false_iff_not]; omega), rfl⟩

end Go.Proofs.Ytjpbmeonkfkgdaa
