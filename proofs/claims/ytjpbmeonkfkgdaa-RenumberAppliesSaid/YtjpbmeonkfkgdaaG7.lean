/- Effects, plain: Then is associative, the zero effect neutral. -/
import Derived.Test.YtjpbmeonkfkgdaaG5
namespace Go.Proofs.Ytjpbmeonkfkgdaa

theorem thenC_assoc (s : Int) (a b c : Ch) (hb : 0 ≤ b.add) (hc : 0 ≤ c.add) : thenC s (thenC s a b) c = thenC s a (thenC s b c) := by
  obtain ⟨af, ah, an, ad⟩ := a
  obtain ⟨bf, bs, bn, bd⟩ := b
  obtain ⟨cf, cs, cn, cd⟩ := c
  simp only at hb hc
  cases cf
  · cases bf
    · cases af
      · simp [thenC, Int.add_assoc]
      · by_cases b0 : bd = 0
        · subst b0
          simp [thenC, stepF]
        · by_cases c0 : cd = 0
          · subst c0
            cases ah <;> simp [thenC, stepF, b0]
          · have h : ¬ bd + cd = 0 := by omega
            cases ah
            · simp [thenC, stepF, b0, c0, h]; omega
            · simp [thenC, stepF, b0, c0, h]; omega
    · simp [thenC]
  · simp [thenC]
def Nrm (n : Nat) (E : Eff) : Prop := ∀ i, ((E i).fx = false → (E i).st = false ∧ (E i).num = 0) ∧ ((E i).fx = true → (E i).add = 0) ∧ 0 ≤ (E i).add ∧ (n ≤ i → E i = chZ)
theorem thenC_nrm (s : Int) (a b : Ch) (ha : 0 ≤ a.add) (hb : (b.fx = false → b.st = false ∧ b.num = 0) ∧ (b.fx = true → b.add = 0) ∧ 0 ≤ b.add) :
    ((thenC s a b).fx = false → (thenC s a b).st = false ∧ (thenC s a b).num = 0) ∧ ((thenC s a b).fx = true → (thenC s a b).add = 0) ∧ 0 ≤ (thenC s a b).add := by
  unfold thenC
  by_cases f : b.fx = true
  · rw [if_pos f]; exact hb
  · rw [if_neg f]
    by_cases g : a.fx = true
    · rw [if_pos g]; exact ⟨fun h => by simp at h, fun _ => rfl, Int.le_refl _⟩
    · rw [if_neg g]; exact ⟨fun _ => ⟨rfl, rfl⟩, fun h => by simp at h, by show 0 ≤ a.add + b.add; omega⟩
theorem nrm_then {ls : List Lv} {n : Nat} {x y : Eff} (hx : Nrm n x) (hy : Nrm n y) : Nrm n (thenE ls n x y) := by
  intro i
  unfold thenE
  by_cases h : i < n
  · rw [if_pos h]
    have := thenC_nrm (gL ls i).start (x i) (y i) (hx i).2.2.1 ⟨(hy i).1, (hy i).2.1, (hy i).2.2.1⟩
    exact ⟨this.1, this.2.1, this.2.2, fun k => by omega⟩
  · rw [if_neg h]
    exact ⟨fun _ => ⟨rfl, rfl⟩, fun _ => rfl, Int.le_refl _, fun _ => rfl⟩
theorem nrm_zero (n : Nat) : Nrm n effZ := fun _ => ⟨fun _ => ⟨rfl, rfl⟩, fun _ => rfl, Int.le_refl _, fun _ => rfl⟩
theorem nrm_eff (ls : List Lv) (n L : Nat) (r : Int) (hL : L < n) : Nrm n (effF ls n L r) := by
  intro i
  have e : effF ls n L r i = effP ls L r n i := rfl
  rw [e, effP_at]
  by_cases h : i = L
  · rw [if_pos h]
    by_cases hr : 0 < r
    · rw [if_pos hr]; exact ⟨fun h => by simp at h, fun _ => rfl, Int.le_refl _, fun k => by omega⟩
    · rw [if_neg hr]; exact ⟨fun _ => ⟨rfl, rfl⟩, fun h => by simp at h, by show (0 : Int) ≤ 1; omega, fun k => by omega⟩
  · rw [if_neg h]
    by_cases h2 : L < i ∧ i < n ∧ (L : Int) + 1 ≤ (gL ls i).restart
    · rw [if_pos h2]; exact ⟨fun h => by simp at h, fun _ => rfl, Int.le_refl _, fun k => by omega⟩
    · rw [if_neg h2]; exact nrm_zero n i
theorem nrm_fold {ls : List Lv} {n : Nat} {ms : List Mk} (hm : MkOk n ms) : ∀ i, i ≤ ms.length → Nrm n (foldE ls n (ms.take i))
  | 0, _ => nrm_zero n
  | i + 1, h => by
    rw [foldE_take ls n ms h]
    have := hm i h
    exact nrm_then (nrm_fold hm i (by omega)) (nrm_eff ls n _ _ (by omega))
theorem thenE_assoc {ls : List Lv} {n : Nat} {a b c : Eff} (hb : Nrm n b) (hc : Nrm n c) : thenE ls n (thenE ls n a b) c = thenE ls n a (thenE ls n b c) := by
  funext i
  show (if i < n then thenC _ (if i < n then _ else _) _ else _) = (if i < n then thenC _ _ (if i < n then _ else _) else _)
  by_cases h : i < n
  · rw [if_pos h, if_pos h, if_pos h, if_pos h]
    exact thenC_assoc _ _ _ _ (hb i).2.2.1 (hc i).2.2.1
  · rw [if_neg h, if_neg h]
theorem thenE_zero_left {ls : List Lv} {n : Nat} {a : Eff} (ha : Nrm n a) : thenE ls n effZ a = a := by
  funext i
  show (if i < n then thenC _ chZ (a i) else chZ) = a i
  by_cases h : i < n
  · rw [if_pos h]
    obtain ⟨h1, h2, h3, _⟩ := ha i
    generalize a i = x at *
    obtain ⟨f, s, m, d⟩ := x
    cases f
    · obtain ⟨rfl, rfl⟩ := h1 rfl
      simp [thenC, chZ]
    · simp [thenC]
  · rw [if_neg h]; exact ((ha i).2.2.2 (by omega)).symm
theorem thenE_zero_right {ls : List Lv} {n : Nat} {a : Eff} (ha : Nrm n a) : thenE ls n a effZ = a := by
  funext i
  show (if i < n then thenC _ (a i) chZ else chZ) = a i
  by_cases h : i < n
  · rw [if_pos h]
    obtain ⟨h1, h2, h3, _⟩ := ha i
    generalize a i = x at *
    obtain ⟨f, s, m, d⟩ := x
    cases f
    · obtain ⟨rfl, rfl⟩ := h1 rfl
      simp [thenC, chZ]
    · have := h2 rfl
      simp only at this
      subst this
      simp [thenC, stepF, chZ]
  · rw [if_neg h]; exact ((ha i).2.2.2 (by omega)).symm
end Go.Proofs.Ytjpbmeonkfkgdaa
