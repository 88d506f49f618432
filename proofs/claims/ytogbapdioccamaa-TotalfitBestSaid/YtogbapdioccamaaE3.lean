/- Check, CheckMeasures and those of the model: the walks. -/
import Derived.Test.YtogbapdioccamaaE2
namespace Go.Proofs.Ytogbapdioccamaa
open Go.RowKit

set_option maxHeartbeats 1000000 in
theorem Check_any (A : Option Addr) (n c : Nat) (xs : List It) (w : World) (ha : Sl w 6 itC A n xs) (hn : n ≤ 4096) :
    Calls Try.prog 15 #[.slice A n c] w fun e w' => e = .returned (.int .i64 (chk xs)) ∧ Below w.heap.size w w' := by
  have hlen := ha.len
  by_cases hz : n = 0
  · subst hz
    have HL := Lib.hid hlen
    clear hlen
    go_enter Try.func15, Try.ntmps15
    go_wp2_with fail
    go_ret
    exact ⟨ret_int (chk_nil HL.out).symm, Below.refl _ _⟩
  · have HL := Lib.hid hlen
    clear hlen
    have hz1 : ((n : Int) == 0) = false := by simpa using hz
    have hz2 : decide ((4096 : Int) < (n : Int)) = false := by simp; omega
    go_enter Try.func15, Try.ntmps15
    go_wp2_with fail
    go_loopw [16] (fun i wr => ∃ k : Nat, k ≤ n ∧ i = .int .i64 k ∧ (∀ j, j < k → err (gT xs j) = 0) ∧ Below w.heap.size w wr) (fun i _ => n - (intOf i).toNat)
    case atStart => exact ⟨0, Nat.zero_le _, rfl, fun j hj => absurd hj (Nat.not_lt_zero _), Below.refl _ _⟩
    case round =>
      obtain ⟨k, hk, rfl, h0, hbw⟩ := hrel
      have H0 := Lib.hid h0
      clear h0
      by_cases hlt : k < n
      · obtain ⟨ad, rfl, hl, q0, q1, q2, q3, q4, q5⟩ := (ha.below hbw).it hlt
        have cx := checkItem_any (gT xs k)
        obtain ⟨v, hv⟩ : ∃ v, v = err (gT xs k) := ⟨_, rfl⟩
        rw [← hv] at cx
        have HV := Lib.hid hv
        clear hv
        by_cases he : v = 0
        · subst he
          go_wp2_with (first | (go_at_call 37; refine (cx _).mono ?_; rintro e w1 ⟨rfl, hb1⟩; have hbx := hbw.alloc hbw.size (.cells #[.int .i64 (gT xs k).kind, .int .i64 (gT xs k).width, .int .i64 (gT xs k).stretch, .int .i64 (gT xs k).shrink, .int .i64 (gT xs k).cost, .bool (gT xs k).flag] 52); have hbn := below_trans' hbx hbx.size hb1))
          go_roundw
          case rel => exact ⟨k + 1, by omega, by go_num, fun j hj => by
            rcases Nat.lt_succ_iff_lt_or_eq.1 hj with h | h
            · exact H0.out j h
            · subst h; exact HV.out.symm, hbn⟩
          case measure => simp [intOf]; omega
        · have hne : (v != 0) = true := by simpa using he
          go_wp2_with (first | (go_at_call 37; refine (cx _).mono ?_; rintro e w1 ⟨rfl, hb1⟩; have hbx := hbw.alloc hbw.size (.cells #[.int .i64 (gT xs k).kind, .int .i64 (gT xs k).width, .int .i64 (gT xs k).stretch, .int .i64 (gT xs k).shrink, .int .i64 (gT xs k).cost, .bool (gT xs k).flag] 52); have hbn := below_trans' hbx hbx.size hb1))
          go_ret
          exact ⟨ret_int (by rw [chk_at (by rw [HL.out]; exact hlt) H0.out (by rw [← HV.out]; exact he), HV.out]), hbn⟩
      · have : k = n := by omega
        subst this
        obtain ⟨ad, rfl, hl, q0, q1, q2, q3, q4, q5⟩ := (ha.below hbw).it (k := k - 1) (by omega)
        have cf := forced_any (gT xs (k - 1))
        have hk1 : ((k : Int) - 1) = ((k - 1 : Nat) : Int) := by omega
        obtain ⟨v, hv⟩ : ∃ v, v = decide ((gT xs (k - 1)).kind = 3 ∧ (gT xs (k - 1)).cost = -10000) := ⟨_, rfl⟩
        rw [← hv] at cf
        have HV := Lib.hid hv
        clear hv
        cases v
        · go_wp2_with (first | (go_at_call 38; refine (cf _).mono ?_; rintro e w1 ⟨rfl, hb1⟩; have hbn := below_trans' hbw hbw.size hb1))
          go_ret
          exact ⟨ret_int (by
            rw [chk_end (by rw [HL.out]; exact hz) (by rw [HL.out]; exact H0.out), HL.out, if_neg (by simpa using HV.out)]), hbn⟩
        · go_wp2_with (first | (go_at_call 38; refine (cf _).mono ?_; rintro e w1 ⟨rfl, hb1⟩; have hbn := below_trans' hbw hbw.size hb1))
          go_ret
          exact ⟨ret_int (by
            rw [chk_end (by rw [HL.out]; exact hz) (by rw [HL.out]; exact H0.out), HL.out, if_pos (by simpa using HV.out)]), hbn⟩
end Go.Proofs.Ytogbapdioccamaa
