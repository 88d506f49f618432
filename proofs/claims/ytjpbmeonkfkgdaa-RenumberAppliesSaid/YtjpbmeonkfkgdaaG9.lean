/- The law's levels, plain: they are right. -/
import Derived.Test.YtjpbmeonkfkgdaaG2
namespace Go.Proofs.Ytjpbmeonkfkgdaa

def tmpl (i : Nat) : ByteArray := ⟨#[37, UInt8.ofNat (49 + i)]⟩
theorem tmpl_ok : ∀ i, i < 9 → checkE (tmpl i) ((i : Int) + 1) = 0 := lt9 (by decide +kernel) (by decide +kernel) (by decide +kernel) (by decide +kernel) (by decide +kernel) (by decide +kernel) (by decide +kernel) (by decide +kernel) (by decide +kernel)
def lvOf (s : Int) (i : Nat) : Lv := ⟨1, s % 4, tmpl i, (s / 4) % ((i : Int) + 1)⟩
def levelsP (g : Nat → Int) (k : Nat) : List Lv := (List.range k).map (fun i => lvOf (g (i % 3)) i)
theorem levelsP_len (g : Nat → Int) (k : Nat) : (levelsP g k).length = k := by simp [levelsP]
theorem levelsP_succ (g : Nat → Int) (k : Nat) : levelsP g (k + 1) = levelsP g k ++ [lvOf (g (k % 3)) k] := by simp [levelsP, List.range_succ]
theorem gL_levels (g : Nat → Int) {k i : Nat} (h : i < k) : gL (levelsP g k) i = lvOf (g (i % 3)) i := by
  unfold gL levelsP
  rw [List.getD_eq_getElem?_getD, List.getElem?_map, List.getElem?_range h]
  rfl
theorem lvE_ok (s : Int) {i : Nat} (h : i < 9) : lvE i (lvOf s i) = 0 := by
  have t := tmpl_ok i h
  have e1 : 0 ≤ s % 4 ∧ s % 4 < 4 := ⟨Int.emod_nonneg _ (by omega), Int.emod_lt_of_pos _ (by omega)⟩
  have e2 : 0 ≤ (s / 4) % ((i : Int) + 1) ∧ (s / 4) % ((i : Int) + 1) < (i : Int) + 1 := ⟨Int.emod_nonneg _ (by omega), Int.emod_lt_of_pos _ (by omega)⟩
  unfold lvE lvOf
  simp only
  rw [if_neg (by omega), if_neg (by omega), t, if_neg (by simp), if_neg (by omega)]
theorem clF_zero : ∀ (ls : List Lv) (i : Nat), (∀ j, j < ls.length → lvE (i + j) (gL ls j) = 0) → clF i ls = 0
  | [], _, _ => rfl
  | l :: r, i, h => by
    have h0 := h 0 (by simp)
    have e0 : gL (l :: r) 0 = l := rfl
    rw [e0, Nat.add_zero] at h0
    rw [clF, if_neg (by rw [h0]; simp)]
    refine clF_zero r (i + 1) fun j hj => ?_
    have := h (j + 1) (by simp; omega)
    have e : gL (l :: r) (j + 1) = gL r j := rfl
    rw [e] at this
    rw [show i + 1 + j = i + (j + 1) by omega]
    exact this
theorem levels_right (g : Nat → Int) {k : Nat} (h0 : 0 < k) (h9 : k ≤ 9) : clE (levelsP g k) = 0 := by
  unfold clE
  rw [levelsP_len, if_neg (by omega), if_neg (by omega)]
  refine clF_zero _ 0 fun j hj => ?_
  rw [levelsP_len] at hj
  rw [gL_levels g hj, Nat.zero_add]
  exact lvE_ok _ (by omega)
theorem levels_lvok (g : Nat → Int) {k : Nat} : LvOk k (levelsP g k) := by
  intro i hi
  rw [gL_levels g hi]
  have e1 : 0 ≤ g (i % 3) % 4 ∧ g (i % 3) % 4 < 4 := ⟨Int.emod_nonneg _ (by omega), Int.emod_lt_of_pos _ (by omega)⟩
  exact ⟨e1.1, by show g (i % 3) % 4 ≤ 32767; omega⟩
end Go.Proofs.Ytjpbmeonkfkgdaa
