/- The scanner: scan. -/
import Derived.Test.YtjpbmeonkfkgdaaF6
import Derived.Deep.LoopGhost
namespace Go.Proofs.Ytjpbmeonkfkgdaa
open Go.RowKit

theorem list_drop (s : ByteArray) {k : Nat} (h : k < s.size) : s.data.toList.drop k = s[k] :: s.data.toList.drop (k + 1) := by
  rw [List.drop_eq_getElem_cons (by simpa using h)]
  rfl
theorem hpA_eq (s p : ByteArray) (k : Nat) : hpA s p k = p.data.toList.isPrefixOf (s.data.toList.drop k) := by
  unfold hpA Lib.hasPrefix
  congr 1
  rw [ByteArray.data_extract, Array.toList_extract]
  simp only [List.extract_eq_take_drop]
  exact List.take_of_length_le (by rw [List.length_drop]; simp)
theorem digAt_drop (s : ByteArray) (k : Nat) : digAt s k = match s.data.toList.drop k with
    | [] => false
    | c :: _ => digB c := by
  unfold digAt
  rw [← List.head?_drop]
  cases s.data.toList.drop k <;> rfl
theorem getD_drop (s : ByteArray) (k : Nat) : s.data.toList.getD k 0 = (s.data.toList.drop k).headD 0 := by
  rw [List.getD_eq_getElem?_getD, ← List.head?_drop]
  cases s.data.toList.drop k <;> rfl
abbrev SX := List UInt8 × List Pt × Nat × Int
def More (w' : World) (B g : Nat) (s : ByteArray) (at_ : Nat) (X : SX) (n1 n2 n3 : Nat) : Prop :=
  ∃ a lit ps pl, at_ < a ∧ a ≤ s.size ∧ a ≤ at_ + 3 ∧ Sc w' B g s a lit ps pl 0 ∧ scanP (s.size + 1 - a) (s.data.toList.drop a) lit ps pl = X ∧ lit.length ≤ n1 + 1 ∧ ps.length ≤ n2 + 2 ∧ pl ≤ n3 + 1
theorem flushP_len (lit : List UInt8) (ps : List Pt) : (flushP lit ps).length ≤ ps.length + 1 := by
  unfold flushP
  split
  · omega
  · rw [List.length_append]; exact Nat.le_refl _
theorem placeP_len (lit : List UInt8) (ps : List Pt) (c : UInt8) (b : Bool) : (placeP lit ps c b).length ≤ ps.length + 2 := by
  have := flushP_len lit ps
  unfold placeP
  rw [List.length_append]
  simp only [List.length_singleton]
  omega
theorem pc_step {w w' : World} {B g : Nat} {s : ByteArray} {at_ pl : Nat} {lit : List UInt8} {ps : List Pt} {X : SX} (hat : at_ < s.size) (hc : s[at_] = 37) (h : PcP B g s at_ pl lit ps w w') (hX : scanP (s.size + 1 - at_) (s.data.toList.drop at_) lit ps pl = X) :
    More w' B g s at_ X lit.length ps.length pl ∨ (Sc w' B g s at_ lit ps pl 14 ∧ X = (lit, ps, pl, 14)) := by
  obtain ⟨hb, h⟩ := h
  have hd := list_drop s hat
  rw [hc] at hd
  have hsl : s.data.toList.length = s.size := by simp
  have hdl : (s.data.toList.drop (at_ + 1)).length = s.size - (at_ + 1) := by rw [List.length_drop, hsl]
  obtain ⟨f, hf⟩ : ∃ f, s.size + 1 - at_ = f + 1 := ⟨s.size - at_, by omega⟩
  rw [hf, hd] at hX
  unfold scanP at hX
  rw [if_pos rfl] at hX
  rw [hpA_eq, hpA_eq, hd, digAt_drop, digAt_drop, getD_drop, getD_drop] at h
  have hdd : s.data.toList.drop (at_ + 2) = (s.data.toList.drop (at_ + 1)).drop 1 := by rw [List.drop_drop]
  have hd3 : s.data.toList.drop (at_ + 3) = (s.data.toList.drop (at_ + 1)).drop 2 := by rw [List.drop_drop]
  rw [hdd] at h
  cases hr : s.data.toList.drop (at_ + 1) with
  | nil =>
    rw [hr] at h hX
    rw [if_neg (by simp [pcS, List.isPrefixOf]), if_neg (by simp), if_neg (by simp)] at h
    exact .inr ⟨h, hX.symm⟩
  | cons d r2 =>
    rw [hr] at h hX hdl hdd hd3
    simp only [List.length_cons] at hdl
    simp only [List.drop_succ_cons, List.drop_zero, List.headD_cons] at h hdd
    by_cases h37 : d = 37
    · subst h37
      rw [if_pos (by simp [pcS, List.isPrefixOf])] at h
      simp only [if_true] at hX
      refine .inl ⟨at_ + 2, _, ps, pl, by omega, by omega, by omega, h, ?_, by simp, by omega, by omega⟩
      rw [hdd]
      rw [← hX]
      exact scanP_fuel _ _ _ _ _ _ (by omega) (by omega)
    · rw [if_neg (by simp [pcS, List.isPrefixOf]; exact fun e => h37 e.symm)] at h
      simp only [h37, if_false] at hX
      by_cases hg : digB d = true
      · rw [if_pos hg] at h
        simp only [hg, if_true] at hX
        have hpl := placeP_len lit ps d false
        refine .inl ⟨at_ + 2, _, _, _, by omega, by omega, by omega, h, ?_, by simp, by omega, by omega⟩
        rw [hdd]
        rw [← hX]
        exact scanP_fuel _ _ _ _ _ _ (by omega) (by omega)
      · rw [if_neg hg] at h
        simp only [hg] at hX
        by_cases h100 : d = 100
        · subst h100
          simp only [if_true] at hX
          cases r2 with
          | nil =>
            rw [if_neg (by simp)] at h
            exact .inr ⟨h, hX.symm⟩
          | cons k r3 =>
            simp only [List.length_cons] at hdl
            simp only [List.headD_cons, List.drop_succ_cons, List.drop_zero] at h hX hd3
            by_cases hk : digB k = true
            · rw [if_pos (by simp [pdS, List.isPrefixOf, hk])] at h
              simp only [hk, if_true] at hX
              have hpl := placeP_len lit ps k true
              refine .inl ⟨at_ + 3, _, _, _, by omega, by omega, by omega, h, ?_, by simp, by omega, by omega⟩
              rw [hd3]
              rw [← hX]
              exact scanP_fuel _ _ _ _ _ _ (by omega) (by omega)
            · rw [if_neg (by simp [hk])] at h
              simp only [hk] at hX
              exact .inr ⟨h, hX.symm⟩
        · rw [if_neg (by simp [pdS, List.isPrefixOf]; intro e; exact absurd e.symm h100)] at h
          simp only [h100, if_false] at hX
          exact .inr ⟨h, hX.symm⟩
end Go.Proofs.Ytjpbmeonkfkgdaa
