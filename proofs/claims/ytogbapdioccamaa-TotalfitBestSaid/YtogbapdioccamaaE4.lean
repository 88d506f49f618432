/- check of the model; measures. -/
import Derived.Test.YtogbapdioccamaaE3
namespace Go.Proofs.Ytogbapdioccamaa
open Go.RowKit

set_option maxHeartbeats 1000000 in
theorem mcheck_any (A : Option Addr) (n c : Nat) (xs : List It) (w : World) (ha : Sl w 6 itC A n xs) (hn : n ≤ 4096) :
    Calls Try.prog 16 #[.slice A n c] w fun e w' => e = .returned (.int .i64 (chk xs)) ∧ Below w.heap.size w w' := by
  have hlen := ha.len
  by_cases hz : n = 0
  · subst hz
    have HL := Lib.hid hlen
    clear hlen
    go_enter Try.func16, Try.ntmps16
    go_wp2_with fail
    go_ret
    exact ⟨ret_int (chk_nil HL.out).symm, Below.refl _ _⟩
  · have HL := Lib.hid hlen
    clear hlen
    have hz1 : ((n : Int) == 0) = false := by simpa using hz
    have hz2 : decide ((4096 : Int) < (n : Int)) = false := by simp; omega
    go_enter Try.func16, Try.ntmps16
    go_wp2_with fail
    go_loopw [3] (fun i wr => ∃ k : Nat, k ≤ n ∧ i = .int .i64 k ∧ (∀ j, j < k → err (gT xs j) = 0) ∧ Below w.heap.size w wr) (fun i _ => n - (intOf i).toNat)
    case atStart => exact ⟨0, Nat.zero_le _, rfl, fun j hj => absurd hj (Nat.not_lt_zero _), Below.refl _ _⟩
    case round =>
      obtain ⟨k, hk, rfl, h0, hbw⟩ := hrel
      have H0 := Lib.hid h0
      clear h0
      by_cases hlt : k < n
      · obtain ⟨ad, rfl, hl, q0, q1, q2, q3, q4, q5⟩ := (ha.below hbw).it hlt
        have cx := mcheckItem_any (gT xs k)
        obtain ⟨v, hv⟩ : ∃ v, v = err (gT xs k) := ⟨_, rfl⟩
        rw [← hv] at cx
        have HV := Lib.hid hv
        clear hv
        by_cases he : v = 0
        · subst he
          go_wp2_with (first | (go_at_call 39; refine (cx _).mono ?_; rintro e w1 ⟨rfl, hb1⟩; have hbn := below_trans' hbw hbw.size hb1))
          go_roundw
          case rel => exact ⟨k + 1, by omega, by go_num, fun j hj => by
            rcases Nat.lt_succ_iff_lt_or_eq.1 hj with h | h
            · exact H0.out j h
            · subst h; exact HV.out.symm, hbn⟩
          case measure => simp [intOf]; omega
        · have hne : (v != 0) = true := by simpa using he
          go_wp2_with (first | (go_at_call 39; refine (cx _).mono ?_; rintro e w1 ⟨rfl, hb1⟩; have hbn := below_trans' hbw hbw.size hb1))
          go_ret
          exact ⟨ret_int (by rw [chk_at (by rw [HL.out]; exact hlt) H0.out (by rw [← HV.out]; exact he), HV.out]), hbn⟩
      · have : k = n := by omega
        subst this
        obtain ⟨ad, rfl, hl, q0, q1, q2, q3, q4, q5⟩ := (ha.below hbw).it (k := k - 1) (by omega)
        have hk1 : ((k : Int) - 1) = ((k - 1 : Nat) : Int) := by omega
        have HE := Lib.hid (chk_end (xs := xs) (by rw [HL.out]; exact hz) (by rw [HL.out]; exact H0.out))
        by_cases h1 : (gT xs (k - 1)).kind = 3
        · rw [h1] at q0
          by_cases h2 : (gT xs (k - 1)).cost = -10000
          · rw [h2] at q4
            have H1 := Lib.hid h1
            have H2 := Lib.hid h2
            clear h1 h2
            go_wp2_with fail
            go_ret
            exact ⟨ret_int (by rw [HE.out, HL.out, if_pos ⟨H1.out, H2.out⟩]), hbw.alloc hbw.size _⟩
          · have h3 : ((gT xs (k - 1)).cost != -10000) = true := by simpa using h2
            have H1 := Lib.hid h1
            have H2 := Lib.hid h2
            clear h1 h2
            go_wp2_with fail
            go_ret
            exact ⟨ret_int (by rw [HE.out, HL.out, if_neg (fun h => H2.out h.2)]), hbw.alloc hbw.size _⟩
        · have h3 : ((gT xs (k - 1)).kind != 3) = true := by simpa using h1
          have H1 := Lib.hid h1
          clear h1
          go_wp2_with fail
          go_ret
          exact ⟨ret_int (by rw [HE.out, HL.out, if_neg (fun h => H1.out h.1)]), hbw.alloc hbw.size _⟩

theorem chkM_bad {xs : List Int} {k : Nat} (hk : k < xs.length) (h8 : xs.length ≤ 8) (h : gI xs k < 1 ∨ 31680 < gI xs k) : chkM xs = 32 := by
  unfold chkM; rw [if_neg (by omega), if_neg (by omega), fstM_at xs k hk h]
theorem chkM_ok {xs : List Int} (hk : xs.length ≠ 0) (h8 : xs.length ≤ 8) (h : ∀ j, j < xs.length → 1 ≤ gI xs j ∧ gI xs j ≤ 31680) : chkM xs = 0 := by
  unfold chkM; rw [if_neg (by omega), if_neg (by omega), fstM_none xs h]
theorem chkM_nil {xs : List Int} (hk : xs.length = 0) : chkM xs = 11 := if_pos hk
theorem chkM_long {xs : List Int} (hk : 8 < xs.length) : chkM xs = 9 := by unfold chkM; rw [if_neg (by omega), if_pos hk]

set_option maxHeartbeats 1000000 in
theorem CheckM_any (A : Option Addr) (n c : Nat) (xs : List Int) (w : World) (ha : Sl w 1 intC A n xs) (hn : n ≤ 4096) :
    Calls Try.prog 17 #[.slice A n c] w fun e w' => e = .returned (.int .i64 (chkM xs)) ∧ Below w.heap.size w w' := by
  have hlen := ha.len
  by_cases hz : n = 0
  · subst hz
    have HL := Lib.hid hlen
    clear hlen
    go_enter Try.func17, Try.ntmps17
    go_wp2_with fail
    go_ret
    exact ⟨ret_int (chkM_nil HL.out).symm, Below.refl _ _⟩
  by_cases h8 : 8 < n
  · have HL := Lib.hid hlen
    clear hlen
    have hz1 : ((n : Int) == 0) = false := by simpa using hz
    have hz2 : decide ((8 : Int) < (n : Int)) = true := by simp; omega
    go_enter Try.func17, Try.ntmps17
    go_wp2_with fail
    go_ret
    exact ⟨ret_int (chkM_long (by rw [HL.out]; exact h8)).symm, Below.refl _ _⟩
  · have HL := Lib.hid hlen
    clear hlen
    have hz1 : ((n : Int) == 0) = false := by simpa using hz
    have hz2 : decide ((8 : Int) < (n : Int)) = false := by simp; omega
    go_enter Try.func17, Try.ntmps17
    go_wp2_with fail
    go_loopw [15] (fun i wr => ∃ k : Nat, k ≤ n ∧ i = .int .i64 k ∧ (∀ j, j < k → 1 ≤ gI xs j ∧ gI xs j ≤ 31680) ∧ wr = w) (fun i _ => n - (intOf i).toNat)
    case atStart => exact ⟨0, Nat.zero_le _, rfl, fun j hj => absurd hj (Nat.not_lt_zero _), rfl⟩
    case round =>
      obtain ⟨k, hk, rfl, h0, rfl⟩ := hrel
      have H0 := Lib.hid h0
      clear h0
      by_cases hlt : k < n
      · obtain ⟨ad, rfl, hl, q0⟩ := ha.int hlt
        by_cases h1 : gI xs k < 1
        · have HB := Lib.hid (chkM_bad (xs := xs) (k := k) (by rw [HL.out]; exact hlt) (by rw [HL.out]; omega) (.inl h1))
          have h2 : decide (gI xs k < 1) = true := by simpa using h1
          go_wp2_with fail
          go_ret
          exact ⟨ret_int HB.out.symm, Below.refl _ _⟩
        · have h2 : decide (gI xs k < 1) = false := by simpa using h1
          by_cases h3 : 31680 < gI xs k
          · have HB := Lib.hid (chkM_bad (xs := xs) (k := k) (by rw [HL.out]; exact hlt) (by rw [HL.out]; omega) (.inr h3))
            have h4 : decide (31680 < gI xs k) = true := by simpa using h3
            go_wp2_with fail
            go_ret
            exact ⟨ret_int HB.out.symm, Below.refl _ _⟩
          · have h4 : decide (31680 < gI xs k) = false := by simpa using h3
            have HB := Lib.hid (show 1 ≤ gI xs k ∧ gI xs k ≤ 31680 by omega)
            go_wp2_with fail
            go_roundw
            case rel => exact ⟨k + 1, by omega, by go_num, fun j hj => by
              rcases Nat.lt_succ_iff_lt_or_eq.1 hj with h | h
              · exact H0.out j h
              · subst h; exact HB.out, trivial⟩
            case measure => simp [intOf]; omega
      · have : k = n := by omega
        subst this
        go_wp2_with fail
        go_ret
        exact ⟨ret_int (chkM_ok (by rw [HL.out]; exact hz) (by rw [HL.out]; omega) (by rw [HL.out]; exact H0.out)).symm, Below.refl _ _⟩

set_option maxHeartbeats 1000000 in
theorem mcheckM_any (A : Option Addr) (n c : Nat) (xs : List Int) (w : World) (ha : Sl w 1 intC A n xs) (hn : n ≤ 4096) :
    Calls Try.prog 18 #[.slice A n c] w fun e w' => e = .returned (.int .i64 (chkM xs)) ∧ Below w.heap.size w w' := by
  have hlen := ha.len
  by_cases hz : n = 0
  · subst hz
    have HL := Lib.hid hlen
    clear hlen
    go_enter Try.func18, Try.ntmps18
    go_wp2_with fail
    go_ret
    exact ⟨ret_int (chkM_nil HL.out).symm, Below.refl _ _⟩
  by_cases h8 : 8 < n
  · have HL := Lib.hid hlen
    clear hlen
    have hz1 : ((n : Int) == 0) = false := by simpa using hz
    have hz2 : decide ((8 : Int) < (n : Int)) = true := by simp; omega
    go_enter Try.func18, Try.ntmps18
    go_wp2_with fail
    go_ret
    exact ⟨ret_int (chkM_long (by rw [HL.out]; exact h8)).symm, Below.refl _ _⟩
  · have HL := Lib.hid hlen
    clear hlen
    have hz1 : ((n : Int) == 0) = false := by simpa using hz
    have hz2 : decide ((8 : Int) < (n : Int)) = false := by simp; omega
    go_enter Try.func18, Try.ntmps18
    go_wp2_with fail
    go_loopw [3] (fun i wr => ∃ k : Nat, k ≤ n ∧ i = .int .i64 k ∧ (∀ j, j < k → 1 ≤ gI xs j ∧ gI xs j ≤ 31680) ∧ wr = w) (fun i _ => n - (intOf i).toNat)
    case atStart => exact ⟨0, Nat.zero_le _, rfl, fun j hj => absurd hj (Nat.not_lt_zero _), rfl⟩
    case round =>
      obtain ⟨k, hk, rfl, h0, rfl⟩ := hrel
      have H0 := Lib.hid h0
      clear h0
      by_cases hlt : k < n
      · obtain ⟨ad, rfl, hl, q0⟩ := ha.int hlt
        have cw := fun w => within_any (gI xs k) 1 31680 w
        by_cases h1 : 1 ≤ gI xs k ∧ gI xs k ≤ 31680
        · rw [decide_eq_true h1] at cw
          have HB := Lib.hid h1
          clear h1
          go_wp2_with (first | (go_at_call 40; refine (cw _).mono ?_; rintro e w1 ⟨rfl, rfl⟩))
          go_roundw
          case rel => exact ⟨k + 1, by omega, by go_num, fun j hj => by
            rcases Nat.lt_succ_iff_lt_or_eq.1 hj with h | h
            · exact H0.out j h
            · subst h; exact HB.out, trivial⟩
          case measure => simp [intOf]; omega
        · rw [decide_eq_false h1] at cw
          have HB := Lib.hid (chkM_bad (xs := xs) (k := k) (by rw [HL.out]; exact hlt) (by rw [HL.out]; omega) (by omega))
          clear h1
          go_wp2_with (first | (go_at_call 40; refine (cw _).mono ?_; rintro e w1 ⟨rfl, rfl⟩))
          go_ret
          exact ⟨ret_int HB.out.symm, Below.refl _ _⟩
      · have : k = n := by omega
        subst this
        go_wp2_with fail
        go_ret
        exact ⟨ret_int (chkM_ok (by rw [HL.out]; exact hz) (by rw [HL.out]; omega) (by rw [HL.out]; exact H0.out)).symm, Below.refl _ _⟩

set_option maxHeartbeats 400000 in
theorem both_any (A B : Option Addr) (n m c d : Nat) (xs : List It) (ms : List Int) (w : World) (ha : Sl w 6 itC A n xs) (hb : Sl w 1 intC B m ms) (hn : n ≤ 4096) (hm : m ≤ 4096) :
    Calls Try.prog 24 #[.slice A n c, .slice B m d] w fun e w' => e = .returned (.int .i64 (chkB xs ms)) ∧ Below w.heap.size w w' := by
  have c1 := fun w h => mcheck_any A n c xs w h hn
  have c2 := fun w h => mcheckM_any B m d ms w h hm
  by_cases he : chk xs = 0
  · rw [he] at c1
    have HE := Lib.hid he
    clear he
    go_enter Try.func24, Try.ntmps24
    go_wp2_with (first
      | (go_at_call 16; refine (c1 _ ha).mono ?_; rintro e w1 ⟨rfl, hb1⟩)
      | (go_at_call 18; refine (c2 _ (hb.below hb1)).mono ?_; rintro e w2 ⟨rfl, hb2⟩))
    go_ret
    exact ⟨ret_int (by unfold chkB; rw [if_neg (by rw [HE.out]; simp)]), hb1.trans (hb2.mono hb1.size)⟩
  · obtain ⟨v, hv⟩ : ∃ v, v = chk xs := ⟨_, rfl⟩
    rw [← hv] at c1 he
    have h1 : (v != 0) = true := by simpa using he
    have HV := Lib.hid hv
    clear hv
    go_enter Try.func24, Try.ntmps24
    go_wp2_with (first | (go_at_call 16; refine (c1 _ ha).mono ?_; rintro e w1 ⟨rfl, hb1⟩))
    go_ret
    exact ⟨ret_int (by unfold chkB; rw [← HV.out, if_pos he]), hb1⟩

set_option maxHeartbeats 400000 in
theorem check_any (A B : Option Addr) (n m c d : Nat) (xs : List It) (ms : List Int) (w : World) (ha : Sl w 6 itC A n xs) (hb : Sl w 1 intC B m ms) (hn : n ≤ 4096) (hm : m ≤ 4096) :
    Calls Try.prog 43 #[.slice A n c, .slice B m d] w fun e w' => e = .returned (.int .i64 (chkB xs ms)) ∧ Below w.heap.size w w' := by
  have c1 := fun w h => Check_any A n c xs w h hn
  have c2 := fun w h => CheckM_any B m d ms w h hm
  by_cases he : chk xs = 0
  · rw [he] at c1
    have HE := Lib.hid he
    clear he
    go_enter Try.func43, Try.ntmps43
    go_wp2_with (first
      | (go_at_call 15; refine (c1 _ ha).mono ?_; rintro e w1 ⟨rfl, hb1⟩)
      | (go_at_call 17; refine (c2 _ (hb.below hb1)).mono ?_; rintro e w2 ⟨rfl, hb2⟩))
    go_ret
    exact ⟨ret_int (by unfold chkB; rw [if_neg (by rw [HE.out]; simp)]), hb1.trans (hb2.mono hb1.size)⟩
  · obtain ⟨v, hv⟩ : ∃ v, v = chk xs := ⟨_, rfl⟩
    rw [← hv] at c1 he
    have h1 : (v != 0) = true := by simpa using he
    have HV := Lib.hid hv
    clear hv
    go_enter Try.func43, Try.ntmps43
    go_wp2_with (first | (go_at_call 15; refine (c1 _ ha).mono ?_; rintro e w1 ⟨rfl, hb1⟩))
    go_ret
    exact ⟨ret_int (by unfold chkB; rw [← HV.out, if_pos he]), hb1⟩
end Go.Proofs.Ytogbapdioccamaa
