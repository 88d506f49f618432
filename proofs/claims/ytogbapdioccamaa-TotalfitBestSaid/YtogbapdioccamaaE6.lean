/- position and positions of the model, forced of the model, Positions. -/
import Derived.Test.YtogbapdioccamaaE5
namespace Go.Proofs.Ytogbapdioccamaa
open Go.RowKit

theorem posI_at {xs : List It} {k : Nat} (h : k < xs.length) : posI xs (k : Int) = posB xs k := by
  unfold posI; rw [decide_eq_true (by omega), decide_eq_true (by omega)]; rfl
def forI (xs : List It) (i : Int) : Bool := decide (0 ≤ i) && (decide (i < xs.length) && (decide ((gT xs i.toNat).kind = 3) && decide ((gT xs i.toNat).cost = -10000)))

set_option maxHeartbeats 2000000 in
theorem mposition_any (A : Option Addr) (n c : Nat) (xs : List It) (i : Int) (w : World) (ha : Sl w 6 itC A n xs) (hn : n ≤ 4096) :
    Calls Try.prog 42 #[.slice A n c, .int .i64 i] w fun e w' => e = .returned (.bool (posI xs i)) ∧ w' = w := by
  have hlen := ha.len
  by_cases hz : i < 0
  · have HP := Lib.hid (show posI xs i = false by unfold posI; rw [decide_eq_false (by omega)]; rfl)
    clear hlen
    have hz1 : decide (i < 0) = true := decide_eq_true hz
    go_enter Try.func42, Try.ntmps42
    go_wp2_with fail
    go_ret
    exact ⟨ret_bool HP.out.symm, rfl⟩
  have hz1 : decide (i < 0) = false := decide_eq_false hz
  obtain ⟨k, rfl⟩ : ∃ k : Nat, i = (k : Int) := ⟨i.toNat, by omega⟩
  by_cases hlt : n ≤ k
  · have HP := Lib.hid (show posI xs (k : Int) = false by unfold posI; rw [decide_eq_true (p := (0 : Int) ≤ k) (by omega), decide_eq_false (by omega)]; rfl)
    clear hlen
    have hz2 : decide (n ≤ k) = true := decide_eq_true hlt
    go_enter Try.func42, Try.ntmps42
    go_wp2_with fail
    go_ret
    exact ⟨ret_bool HP.out.symm, rfl⟩
  have hlt : k < n := by omega
  have hP : posI xs (k : Int) = posB xs k := posI_at (by omega)
  have hz2 : decide (n ≤ k) = false := decide_eq_false (by omega)
  obtain ⟨ad, rfl, hl, q0, q1, q2, q3, q4, q5⟩ := ha.it hlt
  clear hlen
  by_cases h3 : (gT xs k).kind = 3
  · have HP := Lib.hid (show posI xs (k : Int) = decide ((gT xs k).cost < 10000) by rw [hP]; unfold posB; rw [h3]; simp)
    clear hP
    rw [h3] at q0
    clear h3
    go_enter Try.func42, Try.ntmps42
    go_wp2_with fail
    go_ret
    exact ⟨ret_bool HP.out.symm, rfl⟩
  have h3' : ((gT xs k).kind == 3) = false := by simpa using h3
  by_cases h2 : (gT xs k).kind = 2
  · by_cases h0 : 0 < k
    · obtain ⟨_, e, hl', r0, _⟩ := ha.it (k := k - 1) (by omega)
      cases e
      have hk1 : ((k : Int) - 1) = ((k - 1 : Nat) : Int) := by omega
      have hk2 : decide (0 < k) = true := decide_eq_true h0
      by_cases h1 : (gT xs (k - 1)).kind = 1
      · have HP := Lib.hid (show posI xs (k : Int) = true by rw [hP]; unfold posB; rw [h2, h1]; simp; exact h0)
        rw [h2] at q0
        rw [h1] at r0
        clear hP h3 h3' h2 h1
        go_enter Try.func42, Try.ntmps42
        go_wp2_with fail
        go_ret
        exact ⟨ret_bool HP.out.symm, rfl⟩
      · have HP := Lib.hid (show posI xs (k : Int) = false by rw [hP]; unfold posB; simp [h3, h1])
        have h1' : ((gT xs (k - 1)).kind == 1) = false := by simpa using h1
        rw [h2] at q0
        clear hP h3 h3' h2 h1
        go_enter Try.func42, Try.ntmps42
        go_wp2_with fail
        go_ret
        exact ⟨ret_bool HP.out.symm, rfl⟩
    · have HP := Lib.hid (show posI xs (k : Int) = false by rw [hP]; unfold posB; rw [h2]; simp; intro h; omega)
      have hk2 : decide (0 < k) = false := decide_eq_false h0
      rw [h2] at q0
      clear hP h3 h3' h2
      go_enter Try.func42, Try.ntmps42
      go_wp2_with fail
      go_ret
      exact ⟨ret_bool HP.out.symm, rfl⟩
  · have HP := Lib.hid (show posI xs (k : Int) = false by rw [hP]; unfold posB; simp [h3, h2])
    have h2' : ((gT xs k).kind == 2) = false := by simpa using h2
    clear hP h3 h2
    go_enter Try.func42, Try.ntmps42
    go_wp2_with fail
    go_ret
    exact ⟨ret_bool HP.out.symm, rfl⟩

set_option maxHeartbeats 2000000 in
theorem mforced_any (A : Option Addr) (n c : Nat) (xs : List It) (i : Int) (w : World) (ha : Sl w 6 itC A n xs) :
    Calls Try.prog 47 #[.slice A n c, .int .i64 i] w fun e w' => e = .returned (.bool (forI xs i)) ∧ w' = w := by
  have hlen := ha.len
  by_cases hz : i < 0
  · have HP := Lib.hid (show forI xs i = false by unfold forI; rw [decide_eq_false (by omega)]; rfl)
    clear hlen
    have hz1 : decide (0 ≤ i) = false := decide_eq_false (by omega)
    go_enter Try.func47, Try.ntmps47
    go_wp2_with fail
    go_ret
    exact ⟨ret_bool HP.out.symm, rfl⟩
  obtain ⟨k, rfl⟩ : ∃ k : Nat, i = (k : Int) := ⟨i.toNat, by omega⟩
  by_cases hlt : n ≤ k
  · have HP := Lib.hid (show forI xs (k : Int) = false by unfold forI; rw [decide_eq_true (p := (0 : Int) ≤ k) (by omega), decide_eq_false (by omega)]; rfl)
    clear hlen
    have hz2 : decide (k < n) = false := decide_eq_false (by omega)
    go_enter Try.func47, Try.ntmps47
    go_wp2_with fail
    go_ret
    exact ⟨ret_bool HP.out.symm, rfl⟩
  have hlt : k < n := by omega
  have hP : forI xs (k : Int) = (decide ((gT xs k).kind = 3) && decide ((gT xs k).cost = -10000)) := by unfold forI; rw [decide_eq_true (by omega), decide_eq_true (by omega)]; rfl
  have hz2 : decide (k < n) = true := decide_eq_true hlt
  obtain ⟨ad, rfl, hl, q0, q1, q2, q3, q4, q5⟩ := ha.it hlt
  clear hlen
  by_cases h3 : (gT xs k).kind = 3
  · by_cases h4 : (gT xs k).cost = -10000
    · have HP := Lib.hid (show forI xs (k : Int) = true by rw [hP, h3, h4]; rfl)
      rw [h3] at q0
      rw [h4] at q4
      clear hP h3 h4
      go_enter Try.func47, Try.ntmps47
      go_wp2_with fail
      go_ret
      exact ⟨ret_bool HP.out.symm, rfl⟩
    · have HP := Lib.hid (show forI xs (k : Int) = false by rw [hP, decide_eq_false h4]; simp)
      have h4' : ((gT xs k).cost == -10000) = false := by simpa using h4
      rw [h3] at q0
      clear hP h3 h4
      go_enter Try.func47, Try.ntmps47
      go_wp2_with fail
      go_ret
      exact ⟨ret_bool HP.out.symm, rfl⟩
  · have HP := Lib.hid (show forI xs (k : Int) = false by rw [hP, decide_eq_false h3]; simp)
    have h3' : ((gT xs k).kind == 3) = false := by simpa using h3
    clear hP h3
    go_enter Try.func47, Try.ntmps47
    go_wp2_with fail
    go_ret
    exact ⟨ret_bool HP.out.symm, rfl⟩

set_option maxHeartbeats 1000000 in
theorem mpositions_any (A : Option Addr) (n c : Nat) (xs : List It) (w : World) (ha : Sl w 6 itC A n xs) (hn : n ≤ 4096) :
    Calls Try.prog 21 #[.slice A n c] w fun e w' => ∃ A' c', e = .returned (.slice A' (posN xs).length c') ∧ Own w' w.heap.size 3 1 intC A' (posN xs).length c' (ints (posN xs)) ∧ Below w.heap.size w w' := by
  have hlen := ha.len
  have HL := Lib.hid hlen
  clear hlen
  go_enter Try.func21, Try.ntmps21
  go_wp2_with fail
  go_loopw [3, 4] (fun vo vi wr => ∃ (k : Nat) (A1 : Option Addr) (c1 : Nat), k ≤ n ∧ vi = .int .i64 k ∧ vo = .slice A1 (posT xs k).length c1 ∧ Own wr w.heap.size 3 1 intC A1 (posT xs k).length c1 (ints (posT xs k)) ∧ Below w.heap.size w wr) (fun _ i _ => n - (intOf i).toNat)
  case atStart => exact ⟨0, none, 0, Nat.zero_le _, rfl, rfl, Own.nil_ _ _ _ _ _, Below.refl _ _⟩
  case round =>
    obtain ⟨k, A1, c1, hk, rfl, rfl, ho, hbw⟩ := hrel
    have hpl := posT_len xs k
    obtain ⟨wo, rfl⟩ : ∃ wo : World, wo = wr := ⟨_, rfl⟩
    by_cases hlt : k < n
    · have hc := fun w h => mposition_any A n c xs (k : Int) w h hn
      rw [posI_at (by rw [HL.out]; exact hlt)] at hc
      cases hp : posB xs k
      · rw [hp] at hc
        have HP := Lib.hid (posT_no hp)
        clear hp
        go_wp2_with (first | (go_at_call 42; refine (hc _ (ha.below hbw)).mono ?_; rintro e w1 ⟨rfl, rfl⟩))
        go_roundw
        case rel => exact ⟨k + 1, A1, c1, by omega, by go_num, by rw [HP.out], by rw [HP.out]; exact ho, hbw⟩
        case measure => simp [intOf]; omega
      · rw [hp] at hc
        have HP := Lib.hid (posT_yes hp)
        clear hp
        go_wp2_with (first
          | (go_at_call 42; refine (hc _ (ha.below hbw)).mono ?_; rintro e w1 ⟨rfl, rfl⟩)
          | (at_builtin; refine wpList_push elemI rfl (.tmp 14) (.tmp 16) rfl rfl _ rfl (ho.alloc _) (k : Int) _ rfl (by simp) (intC_one _) rfl (by unfold maxLen; omega) (Nat.le_trans hbw.size (by simp <;> omega)) ?_; intro A3 c3 w3 ho3 hg3 ha3))
        go_roundw
        case rel =>
          refine ⟨k + 1, A3, c3, by omega, by go_num, by rw [HP.out, List.length_append]; rfl, ?_, (hbw.alloc hbw.size _).grown hg3 (Nat.le_trans hbw.size (by simp <;> omega)) (fun g hg => (ho.lt g hg).1)⟩
          rw [HP.out, List.length_append, ints_snoc]; exact ho3
        case measure => simp [intOf]; omega
    · have : k = n := by omega
      subst this
      go_wp2_with fail
      go_ret
      have e : posN xs = posT xs k := by unfold posN; rw [HL.out]
      exact ⟨A1, c1, by rw [e]; rfl, by rw [e]; exact ho, hbw⟩

set_option maxHeartbeats 1000000 in
theorem Positions_any (A : Option Addr) (n c : Nat) (xs : List It) (w : World) (ha : Sl w 6 itC A n xs) (hn : n ≤ 4096) :
    Calls Try.prog 19 #[.slice A n c] w fun e w' => (chk xs ≠ 0 ∧ e = .returned (.tuple #[.slice none 0 0, .int .i64 (chk xs)]) ∧ Below w.heap.size w w') ∨
      (chk xs = 0 ∧ ∃ A' c', e = .returned (.tuple #[.slice A' (posN xs).length c', .int .i64 0]) ∧ Own w' w.heap.size 3 1 intC A' (posN xs).length c' (ints (posN xs)) ∧ Below w.heap.size w w') := by
  have c1 := fun w h => Check_any A n c xs w h hn
  have c2 := fun w h => positions_any A n c xs w h hn
  obtain ⟨v, hv⟩ : ∃ v, v = chk xs := ⟨_, rfl⟩
  rw [← hv] at c1 ⊢
  have HV := Lib.hid hv
  clear hv
  by_cases he : v = 0
  · subst he
    go_enter Try.func19, Try.ntmps19
    go_wp2_with (first
      | (go_at_call 15; refine (c1 _ ha).mono ?_; rintro e w1 ⟨rfl, hb1⟩)
      | (go_at_call 41; refine (c2 _ (ha.below hb1)).mono ?_; rintro e w2 ⟨A2, c2, rfl, ho2, hb2⟩))
    go_ret2
    exact .inr ⟨trivial, A2, c2, rfl, ho2.base hb1.size, hb1.trans (hb2.mono hb1.size)⟩
  · have h1 : (v != 0) = true := by simpa using he
    go_enter Try.func19, Try.ntmps19
    go_wp2_with (first | (go_at_call 15; refine (c1 _ ha).mono ?_; rintro e w1 ⟨rfl, hb1⟩))
    go_ret2
    exact .inl ⟨he, rfl, hb1⟩
end Go.Proofs.Ytogbapdioccamaa
