/- The plain laws of paths: Find finds what Path gives; paths increase. -/
import Derived.Test.YtbeollddmglkcaaP2
namespace Go.Proofs.Ytbeollddmglkcaa
theorem kids_cnt (g : Nat → Int) (p : Int) : ∀ n : Nat, ((kids g n p).length : Int) = cntTo g p n
  | 0 => rfl
  | n + 1 => by
    rw [kids_snoc, List.length_append, cntTo, ← kids_cnt g p n]
    by_cases h : par g n = p <;> simp [h]
theorem kids_pre (g : Nat → Int) (p : Int) {m n : Nat} (h : m ≤ n) : ∃ r, kids g n p = kids g m p ++ r := by
  obtain ⟨d, rfl⟩ : ∃ d, n = m + d := ⟨n - m, by omega⟩
  clear h
  induction d with
  | zero => exact ⟨[], by simp⟩
  | succ d ih =>
    obtain ⟨r, hr⟩ := ih
    exact ⟨r ++ _, by rw [← Nat.add_assoc, kids_snoc, hr, List.append_assoc]⟩
theorem cnt_pos (g : Nat → Int) {n i : Nat} (h : i < n) : 1 ≤ cnt g i ∧ cnt g i ≤ (kids g n (par g i)).length ∧ (kids g n (par g i)).getD (cnt g i - 1).toNat 0 = i := by
  have e : cnt g i = (kids g i (par g i)).length + 1 := by unfold cnt; rw [cntTo, if_pos rfl, kids_cnt]
  obtain ⟨r, hr⟩ := kids_pre g (par g i) (m := i + 1) (n := n) h
  rw [kids_snoc, if_pos rfl] at hr
  refine ⟨by omega, by rw [hr, e]; simp; omega, ?_⟩
  rw [hr, e, show (((kids g i (par g i)).length : Int) + 1 - 1).toNat = (kids g i (par g i)).length by omega, List.getD_eq_getElem?_getD, List.append_assoc, List.getElem?_append_right (Nat.le_refl _)]
  simp
theorem kids_at (g : Nat → Int) (p : Int) : ∀ (n q : Nat), q < (kids g n p).length → ∃ j : Nat, j < n ∧ (kids g n p).getD q 0 = j ∧ par g j = p ∧ cnt g j = q + 1
  | 0, q, h => by simp [kids] at h
  | n + 1, q, h => by
    rcases Nat.lt_or_ge q (kids g n p).length with hl | hl
    · obtain ⟨j, h1, h2, h3, h4⟩ := kids_at g p n q hl
      refine ⟨j, by omega, ?_, h3, h4⟩
      rw [← h2, kids_snoc, List.getD_eq_getElem?_getD, List.getD_eq_getElem?_getD, List.getElem?_append_left hl]
    · have hk := kids_cnt g p n
      rw [kids_snoc] at h
      by_cases hp : par g n = p
      · rw [if_pos hp] at h
        have : q = (kids g n p).length := by simp at h; omega
        subst this
        refine ⟨n, by omega, ?_, hp, ?_⟩
        · rw [kids_snoc, if_pos hp, List.getD_eq_getElem?_getD, List.getElem?_append_right (Nat.le_refl _)]; simp
        · unfold cnt; rw [cntTo, if_pos rfl, hp, hk]
      · rw [if_neg hp] at h; simp at h; omega

theorem findF_append (g : Nat → Int) (n : Nat) (k : Int) : ∀ (xs : List Int) (a : Int), findF g n (xs ++ [k]) a = (findF g n xs a).bind (fun b => findF g n [k] b)
  | [], a => rfl
  | x :: xs, a => by
    rw [List.cons_append, findF, findF]
    split
    · exact findF_append g n k xs _
    · rfl
theorem findF_pathF (g : Nat → Int) (n : Nat) : ∀ (f i : Nat), i < f → i < n → findF g n (pathF g f i) (-1) = some (i : Int)
  | 0, _, h, _ => absurd h (by omega)
  | f + 1, i, _, hn => by
    obtain ⟨c1, c2, c3⟩ := cnt_pos g hn
    have hp := par_lt g i
    unfold pathF
    rw [findF_append]
    have hb : findF g n (if par g i < 0 then [] else pathF g f (par g i).toNat) (-1) = some (par g i) := by
      by_cases h : par g i < 0
      · rw [if_pos h, findF, show par g i = -1 by omega]
      · rw [if_neg h, findF_pathF g n f _ (by omega) (by omega), Int.toNat_of_nonneg (by omega)]
    rw [hb, Option.bind_some, findF, if_pos ⟨c1, c2⟩, c3, findF]
theorem findF_path (g : Nat → Int) {n i : Nat} (h : i < n) : findF g n (pathOf g i) (-1) = some (i : Int) := findF_pathF g n _ _ (by omega) h
theorem findF_inv (g : Nat → Int) (n : Nat) : ∀ (ws : List Int) (a b : Int), -1 ≤ a → a < n → findF g n ws a = some b → pathI g b = pathI g a ++ ws ∧ -1 ≤ b ∧ b < n
  | [], a, b, h1, h2, h => by rw [findF] at h; injection h with h; subst h; simp; omega
  | k :: ks, a, b, h1, h2, h => by
    rw [findF] at h
    by_cases hk : 1 ≤ k ∧ k ≤ (kids g n a).length
    · rw [if_pos hk] at h
      obtain ⟨j, j1, j2, j3, j4⟩ := kids_at g a n (k - 1).toNat (by omega)
      rw [j2] at h
      obtain ⟨e1, e2, e3⟩ := findF_inv g n ks j b (by omega) (by omega) h
      refine ⟨?_, e2, e3⟩
      rw [e1, pathI_step, j3, j4, show (((k - 1).toNat : Nat) : Int) + 1 = k by omega]
      simp
    · rw [if_neg hk] at h; cases h
theorem path_ne (g : Nat → Int) (i : Nat) : pathOf g i ≠ [] := by rw [pathOf_eq]; simp

theorem less_append : ∀ xs ys zs : List Int, lessF (xs ++ ys) (xs ++ zs) = lessF ys zs
  | [], _, _ => rfl
  | x :: xs, ys, zs => by rw [List.cons_append, List.cons_append, lessF, if_pos rfl]; exact less_append xs ys zs
theorem cntTo_mono (g : Nat → Int) (p : Int) (a : Nat) : ∀ d, cntTo g p a ≤ cntTo g p (a + d)
  | 0 => Int.le_refl _
  | d + 1 => by
    rw [← Nat.add_assoc, cntTo]
    have := cntTo_mono g p a d
    split <;> omega
theorem path_under (g : Nat → Int) (i : Nat) : ∀ j : Nat, par g (i + 1) < j → j ≤ i → ∃ (a : Nat) (r : List Int), a ≤ j ∧ par g a = par g (i + 1) ∧ pathOf g j = pathI g (par g (i + 1)) ++ cnt g a :: r := by
  intro j
  induction j using Nat.strongRecOn with
  | _ j ih =>
    intro h1 h2
    have hj := par_lt g j
    have hge : par g (i + 1) ≤ par g j := by
      rcases par_spec g (i + 1) with ⟨e, _⟩ | ⟨q, hq, e, h3, h4⟩
      · omega
      · rw [e] at h1 ⊢
        have h5 := h4 j (by omega) (by omega)
        rcases par_spec g j with ⟨_, h6⟩ | ⟨r, hr, e', h6, h7⟩
        · have := h6 q (by omega); omega
        · rw [e']
          rcases Nat.lt_or_ge r q with h8 | h8
          · have := h7 q h8 (by omega); omega
          · omega
    by_cases he : par g j = par g (i + 1)
    · exact ⟨j, [], Nat.le_refl _, he, by rw [← pathI_nat, pathI_step, he]⟩
    · obtain ⟨m, hm⟩ := Int.eq_ofNat_of_zero_le (by have := par_lt g (i + 1); omega : 0 ≤ par g j)
      rw [hm] at hj he hge
      obtain ⟨a, r, h8, h9, h10⟩ := ih m (by omega) (by omega) (by omega)
      refine ⟨a, r ++ [cnt g j], by omega, h9, ?_⟩
      rw [← pathI_nat, pathI_step, hm, pathI_nat, h10]
      simp
theorem path_less (g : Nat → Int) (i : Nat) : lessF (pathOf g i) (pathOf g (i + 1)) = true := by
  have hp := par_lt g (i + 1)
  rw [← pathI_nat g (i + 1), pathI_step]
  by_cases h : par g (i + 1) = i
  · rw [h, pathI_nat]
    have := less_append (pathOf g i) [] [cnt g (i + 1)]
    rw [List.append_nil] at this
    rw [this, lessF]
  · obtain ⟨a, r, h1, h2, h3⟩ := path_under g i i (by omega) (Nat.le_refl _)
    rw [h3, less_append, lessF]
    have hc : cnt g a < cnt g (i + 1) := by
      unfold cnt
      rw [h2, cntTo, if_pos h2, cntTo, if_pos rfl]
      have h4 := cntTo_mono g (par g (i + 1)) (a + 1) (i + 1 - (a + 1))
      rw [show a + 1 + (i + 1 - (a + 1)) = i + 1 by omega, cntTo, if_pos h2] at h4
      omega
    rw [if_neg (by omega), decide_eq_true hc]
end Go.Proofs.Ytbeollddmglkcaa
