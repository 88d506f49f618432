/- same. -/
import Derived.Test.YtbeollddmglkcaaA0
namespace Go.Proofs.Ytbeollddmglkcaa
open Go.RowKit

theorem take_ext {xs ys : List Int} {k : Nat} (hx : k < xs.length) (hy : k < ys.length) (h : xs.take k = ys.take k) (e : gI xs k = gI ys k) : xs.take (k + 1) = ys.take (k + 1) := by
  rw [List.take_add_one, List.take_add_one, h]
  unfold gI at e
  rw [List.getD_eq_getElem?_getD, List.getD_eq_getElem?_getD, List.getElem?_eq_getElem hx, List.getElem?_eq_getElem hy] at e
  rw [List.getElem?_eq_getElem hx, List.getElem?_eq_getElem hy]
  simp only [Option.getD_some] at e
  rw [e]

theorem ne_of_getD {xs ys : List Int} {k : Nat} (e : ¬ gI xs k = gI ys k) : decide (xs = ys) = false := by
  simp only [decide_eq_false_iff_not]; rintro rfl; exact e rfl
theorem ne_of_len {xs ys : List Int} (e : ¬ xs.length = ys.length) : decide (xs = ys) = false := by
  simp only [decide_eq_false_iff_not]; rintro rfl; exact e rfl

set_option maxHeartbeats 400000 in
theorem same_any (A B : Option Addr) (n m c d : Nat) (xs ys : List Int) (w : World) (ha : Sl w 1 intC A n xs) (hb : Sl w 1 intC B m ys) (hn : n ≤ maxLen) (hm : m ≤ maxLen) :
    Calls Try.prog 19 #[.slice A n c, .slice B m d] w fun e w' => e = .returned (.bool (decide (xs = ys))) ∧ Below w.heap.size w w' := by
  unfold maxLen at hn hm
  have hla := ha.len
  have hlb := hb.len
  by_cases hnm : n = m
  · subst hnm
    have HA := Lib.hid hla
    have HB := Lib.hid hlb
    clear hla hlb
    go_enter Try.func19, Try.ntmps19
    go_wp2_with fail
    go_loopw [5] (fun i wr => ∃ k : Nat, k ≤ n ∧ i = .int .i64 k ∧ xs.take k = ys.take k ∧ Below w.heap.size w wr) (fun i _ => n - (intOf i).toNat)
    case atStart => exact ⟨0, Nat.zero_le _, rfl, rfl, Below.refl _ _⟩
    case round =>
      obtain ⟨k, hk, rfl, ht, hbw⟩ := hrel
      have HT := Lib.hid ht
      clear ht
      by_cases hlt : k < n
      · obtain ⟨ad, rfl, _, ca⟩ := (ha.below hbw).int hlt
        obtain ⟨bd, rfl, _, cb⟩ := (hb.below hbw).int hlt
        by_cases he : gI xs k = gI ys k
        · go_wp2_with fail
          have hne : (gI xs k != gI ys k) = false := by rw [he, bne_self_eq_false]
          have HE := Lib.hid he
          clear he
          go_quiet (fail)
          go_wp2_with fail
          go_roundw
          case rel => exact ⟨k + 1, by omega, by go_num, take_ext (by rw [HA.out]; exact hlt) (by rw [HB.out]; exact hlt) HT.out HE.out, below_drewN hbw _⟩
          case measure => simp [intOf]; omega
        · have hne : (gI xs k != gI ys k) = true := by simpa using he
          have HE := Lib.hid he
          clear he
          go_wp2_with fail
          go_quiet (fail)
          go_wp2_with fail
          go_ret
          exact ⟨ret_bool (ne_of_getD HE.out).symm, below_drewN hbw _⟩
      · have : k = n := by omega
        subst this
        go_wp2_with fail
        go_ret
        exact ⟨ret_bool (by have h := HT.out; rw [List.take_of_length_le (by rw [HA.out]; exact Nat.le_refl _), List.take_of_length_le (by rw [HB.out]; exact Nat.le_refl _)] at h; simp [h]), hbw⟩
  · go_enter Try.func19, Try.ntmps19
    have HA := Lib.hid hla
    have HB := Lib.hid hlb
    clear hla hlb
    go_wp2_with fail
    go_ret
    exact ⟨ret_bool (ne_of_len (by rw [HA.out, HB.out]; exact hnm)).symm, Below.refl _ _⟩
end Go.Proofs.Ytbeollddmglkcaa
