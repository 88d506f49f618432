/- Best, Breaks: plain. -/
import Derived.Test.YtogbapdioccamaaE19
namespace Go.Proofs.Ytogbapdioccamaa
open Go.RowKit

/-- what the first error being none gives. -/
structure Good (xs : List It) (ms : List Int) (n m : Nat) : Prop where
  n0 : 0 < n
  n1 : n ≤ 4096
  m0 : 0 < m
  m1 : m ≤ 8
  R : ∀ k, k < n → Right 31680 (gT xs k)
  M : ∀ k, k < m → 1 ≤ gI ms k ∧ gI ms k ≤ 31680
  F : forcedI (gT xs (n - 1)) = true
theorem chk_good {xs : List It} {n : Nat} (hl : xs.length = n) (hn : n ≤ 4096) (h : chk xs = 0) : 0 < n ∧ (∀ k, k < n → Right 31680 (gT xs k)) ∧ forcedI (gT xs (n - 1)) = true := by
  have h0 : xs.length ≠ 0 := fun e => by rw [chk_nil e] at h; cases h
  have he : ∀ j, j < xs.length → err (gT xs j) = 0 := by
    intro j
    induction j using Nat.strongRecOn with
    | _ j ih =>
      intro hj
      rcases Classical.em (err (gT xs j) = 0) with h1 | h1
      · exact h1
      · have := chk_at hj (fun i hi => ih i hi (by omega)) h1
        exact absurd (this.symm.trans h) h1
  have h1 := chk_end h0 he
  rw [h] at h1
  by_cases hc : (gT xs (xs.length - 1)).kind = 3 ∧ (gT xs (xs.length - 1)).cost = -10000
  · refine ⟨by omega, fun k hk => right_of (he k (by omega)) (by omega) (by omega) (by omega), ?_⟩
    rw [← hl]
    unfold forcedI
    rw [hc.1, hc.2]
    rfl
  · rw [if_neg hc] at h1
    cases h1
theorem chkB_good {xs : List It} {ms : List Int} {n m : Nat} (hl : xs.length = n) (hm : ms.length = m) (hn : n ≤ 4096) (h : chkB xs ms = 0) : Good xs ms n m := by
  unfold chkB at h
  have h0 : chk xs = 0 := by
    rcases Classical.em (chk xs = 0) with e | e
    · exact e
    · rw [if_pos e] at h; exact absurd h e
  rw [if_neg (by rw [h0]; simp)] at h
  obtain ⟨a, b, c⟩ := chk_good hl hn h0
  have m0 : ms.length ≠ 0 := fun e => by rw [chkM_nil e] at h; cases h
  have m8 : ms.length ≤ 8 := by
    rcases Nat.lt_or_ge 8 ms.length with e | e
    · rw [chkM_long e] at h; cases h
    · exact e
  unfold chkM at h
  rw [if_neg m0, if_neg (by omega)] at h
  exact ⟨a, hn, by omega, by omega, b, fun k hk => fstM_zero _ h k (by omega), c⟩
section
variable (xs : List It) (ms : List Int)
theorem scM_mem : ∀ (r : List Nat) (a : Int) (k : Nat) (c : Int) (acc : Option (Int × Nat)) (x : Int × Nat), scM xs ms r a k c acc = some x → acc = some x ∨ x.2 ∈ r
  | [], _, _, _, _, _, h => .inl h
  | b :: r, a, k, c, acc, x, h => by
    unfold scM at h
    unfold scan at h
    have hb : ∀ y, betterC acc (Dm xs ms a k c b + optC (scan (Dm xs ms) (Cm xs ms) (fbm xs) r b (k + 1) (Cm xs ms a k b) none), b) = some y → acc = some y ∨ y.2 ∈ b :: r := fun y hy => by
      obtain ⟨z, h1, h2⟩ := betterC_some acc (Dm xs ms a k c b + optC (scan (Dm xs ms) (Cm xs ms) (fbm xs) r b (k + 1) (Cm xs ms a k b) none), b)
      rw [h1] at hy
      injection hy with hy
      subst hy
      rcases h2 with rfl | h2
      · exact .inr (by simp)
      · exact .inl h2
    by_cases hf : fbm xs b = true
    · rw [if_pos hf] at h; exact hb x h
    · rw [if_neg hf] at h
      rcases scM_mem r a k c _ x h with h1 | h1
      · exact hb x h1
      · exact .inr (by simp [h1])
/-- the best breaks behind a. -/
def pathM (r : List Nat) (a : Int) (k : Nat) (c : Int) : List Nat := pathD (Dm xs ms) (Cm xs ms) (fbm xs) r.length r a k c
theorem after_len {b : Nat} : ∀ {r : List Nat}, r ≠ [] → (after b r).length < r.length
  | [], h => absurd rfl h
  | x :: r, _ => by
    unfold after
    split
    · simp
    · by_cases hr : r = []
      · subst hr; simp [after]
      · have := after_len (b := b) hr
        simp only [List.length_cons]
        omega
theorem pathD_fuel : ∀ (f : Nat) (r : List Nat) (a : Int) (k : Nat) (c : Int), r.length ≤ f → pathD (Dm xs ms) (Cm xs ms) (fbm xs) f r a k c = pathM xs ms r a k c := by
  intro f
  induction f using Nat.strongRecOn with
  | _ f ih =>
    intro r a k c h
    unfold pathM
    rcases r with _ | ⟨b, r⟩
    · cases f <;> rfl
    · rcases f with _ | f
      · simp at h
      · have hl := fun y : Nat => after_len (b := y) (r := b :: r) (by simp)
        simp only [List.length_cons] at hl h ⊢
        unfold pathD
        cases scan (Dm xs ms) (Cm xs ms) (fbm xs) (b :: r) a k c none with
        | none => rfl
        | some x =>
          simp only
          have := hl x.2
          rw [ih f (by omega) _ _ _ _ (by omega), ih r.length (by omega) _ _ _ _ (by omega)]
theorem path_nil (a : Int) (k : Nat) (c : Int) : pathM xs ms [] a k c = [] := rfl
theorem path_step {r : List Nat} {a : Int} {k : Nat} {c : Int} {x : Int × Nat} (hr : r ≠ []) (h : scM xs ms r a k c none = some x) : pathM xs ms r a k c = x.2 :: pathM xs ms (after x.2 r) x.2 (k + 1) (Cm xs ms a k x.2) := by
  have hl := after_len (b := x.2) hr
  obtain ⟨f, hrl⟩ : ∃ f, r.length = f + 1 := ⟨r.length - 1, by omega⟩
  rw [← pathD_fuel xs ms (f + 1) r a k c (by omega)]
  unfold pathD
  unfold scM at h
  rw [h]
  simp only
  rw [pathD_fuel xs ms f _ _ _ _ (by omega)]
theorem after_drop {l : List Nat} (hs : l.Pairwise (· < ·)) {i j : Nat} (hij : i ≤ j) (hj : j < l.length) : after (gN l j) (l.drop i) = l.drop (j + 1) := by
  obtain ⟨d, hd⟩ : ∃ d, d = j - i := ⟨_, rfl⟩
  induction d generalizing i with
  | zero =>
    have : i = j := by omega
    subst this
    rw [drop_at hj]
    unfold after
    rw [if_pos rfl]
  | succ d ih =>
    rw [drop_at (by omega)]
    unfold after
    rw [if_neg (by have := gN_rise hs (i := i) (j := j) (by omega) hj; omega)]
    exact ih (by omega) (by omega)
def bestV : Int := cst (scM xs ms (posN xs) (-1) 0 1 none)
def breaksL : List Nat := pathM xs ms (posN xs) (-1) 0 1
end
end Go.Proofs.Ytogbapdioccamaa
