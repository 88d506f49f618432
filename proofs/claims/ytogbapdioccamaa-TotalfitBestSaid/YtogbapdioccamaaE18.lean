/- the choices, plain. -/
import Derived.Test.YtogbapdioccamaaE16
namespace Go.Proofs.Ytogbapdioccamaa
open Go.RowKit

section
variable (xs : List It) (ms : List Int)
def Dm (a : Int) (k : Nat) (c : Int) (b : Nat) : Int := demF 31680 xs (lineF xs ms a b k) b a c
def Cm (a : Int) (k : Nat) (b : Nat) : Int := (lineF xs ms a b k).cls
def fbm (b : Nat) : Bool := forcedI (gT xs b)
def scM (r : List Nat) (a : Int) (k : Nat) (c : Int) (acc : Option (Int × Nat)) : Option (Int × Nat) := scan (Dm xs ms) (Cm xs ms) (fbm xs) r a k c acc
theorem line_min {k k' : Nat} (h : min k (ms.length - 1) = min k' (ms.length - 1)) (a : Int) (b : Nat) : lineF xs ms a b k = lineF xs ms a b k' := by
  unfold lineF measOf
  rw [h]
theorem Dm_min {k k' : Nat} (h : min k (ms.length - 1) = min k' (ms.length - 1)) (a c : Int) (b : Nat) : Dm xs ms a k c b = Dm xs ms a k' c b := by unfold Dm; rw [line_min xs ms h]
theorem Cm_min {k k' : Nat} (h : min k (ms.length - 1) = min k' (ms.length - 1)) (a : Int) (b : Nat) : Cm xs ms a k b = Cm xs ms a k' b := by unfold Cm; rw [line_min xs ms h]
theorem scM_min : ∀ (r : List Nat) (a : Int) (k k' : Nat) (c : Int) (acc : Option (Int × Nat)), min k (ms.length - 1) = min k' (ms.length - 1) → scM xs ms r a k c acc = scM xs ms r a k' c acc
  | [], _, _, _, _, _, _ => rfl
  | b :: r, a, k, k', c, acc, h => by
    have i1 := scM_min r b (k + 1) (k' + 1) (Cm xs ms a k' b) none (by omega)
    unfold scM at i1 ⊢
    unfold scan
    rw [Dm_min xs ms h, Cm_min xs ms h, i1]
    have i2 := scM_min r a k k' c (betterC acc (Dm xs ms a k' c b + optC (scan (Dm xs ms) (Cm xs ms) (fbm xs) r b (k' + 1) (Cm xs ms a k' b) none), b)) h
    unfold scM at i2
    rw [i2]
theorem betterC_some (acc : Option (Int × Nat)) (x : Int × Nat) : ∃ y, betterC acc x = some y ∧ (y = x ∨ acc = some y) := by
  cases acc with
  | none => exact ⟨x, rfl, .inl rfl⟩
  | some z =>
    unfold betterC
    by_cases h : x.1 < z.1
    · exact ⟨x, if_pos h, .inl rfl⟩
    · exact ⟨z, if_neg h, .inr rfl⟩
theorem optC_cst (o : Option (Int × Nat)) : optC o = cst o := by cases o <;> rfl
/-- costs stay small. -/
theorem scM_bd {n : Nat} (hD : ∀ a k c b, b < n → -200000000 ≤ Dm xs ms a k c b ∧ Dm xs ms a k c b ≤ 50000000000000) :
    ∀ (r : List Nat) (a : Int) (k : Nat) (c : Int) (acc : Option (Int × Nat)) (N : Nat), (∀ b ∈ r, b < n) → r.length ≤ N → (∀ x, acc = some x → -200000000 * (N : Int) ≤ x.1 ∧ x.1 ≤ 50000000000000 * (N : Int)) →
      ∀ x, scM xs ms r a k c acc = some x → -200000000 * (N : Int) ≤ x.1 ∧ x.1 ≤ 50000000000000 * (N : Int)
  | [], _, _, _, acc, _, _, _, ha, x, hx => ha x hx
  | b :: r, a, k, c, acc, N, hb, hN, ha, x, hx => by
    have hN1 : r.length + 1 ≤ N := hN
    have i1 := scM_bd hD r b (k + 1) (Cm xs ms a k b) none (N - 1) (fun y hy => hb y (by simp [hy])) (by omega) (fun x hx => by cases hx)
    have d := hD a k c b (hb b (by simp))
    have e : -200000000 * ((N - 1 : Nat) : Int) ≤ optC (scM xs ms r b (k + 1) (Cm xs ms a k b) none) ∧ optC (scM xs ms r b (k + 1) (Cm xs ms a k b) none) ≤ 50000000000000 * ((N - 1 : Nat) : Int) := by
      cases hs : scM xs ms r b (k + 1) (Cm xs ms a k b) none with
      | none => simp only [optC]; omega
      | some y => exact i1 y hs
    have hacc : ∀ y, betterC acc (Dm xs ms a k c b + optC (scM xs ms r b (k + 1) (Cm xs ms a k b) none), b) = some y → -200000000 * (N : Int) ≤ y.1 ∧ y.1 ≤ 50000000000000 * (N : Int) := fun y hy => by
      obtain ⟨z, h1, h2⟩ := betterC_some acc (Dm xs ms a k c b + optC (scM xs ms r b (k + 1) (Cm xs ms a k b) none), b)
      rw [h1] at hy
      injection hy with hy
      subst hy
      rcases h2 with rfl | h2
      · simp only; omega
      · exact ha z h2
    unfold scM at hx
    unfold scan at hx
    by_cases hf : fbm xs b = true
    · rw [if_pos hf] at hx; exact hacc x hx
    · rw [if_neg hf] at hx
      exact scM_bd hD r a k c _ N (fun y hy => hb y (by simp [hy])) (by omega) hacc x hx
/-- the choices of a map that holds the rests are those of the definition. -/
theorem scanG_scM {l : List Nat} (a : Int) (k : Nat) (c : Int) (v : Nat → Int) : ∀ (d j : Nat) (acc : Option (Int × Nat)), d = l.length - j →
    (∀ i, j ≤ i → i < l.length → v (gN l i) = Dm xs ms a k c (gN l i) + optC (scM xs ms (l.drop (i + 1)) (gN l i) (k + 1) (Cm xs ms a k (gN l i)) none)) →
    scanG (fbm xs) v (l.drop j) acc = scM xs ms (l.drop j) a k c acc
  | 0, j, acc, hd, _ => by rw [List.drop_eq_nil_of_le (by omega)]; rfl
  | d + 1, j, acc, hd, hv => by
    have hj : j < l.length := by omega
    have ih := fun acc => scanG_scM a k c v d (j + 1) acc (by omega) (fun i h1 h2 => hv i (by omega) h2)
    have h1 := hv j (Nat.le_refl _) hj
    rw [drop_at hj]
    unfold scanG
    unfold scM
    unfold scan
    rw [h1]
    unfold scM at ih
    rw [ih]
    rfl
/-- a last one is reached: there is a choice. -/
theorem scM_ne {b : Nat} {r : List Nat} {a : Int} {k : Nat} {c : Int} {acc : Option (Int × Nat)} : scM xs ms (b :: r) a k c acc ≠ none := by
  have hg : ∀ (r : List Nat) (acc : Option (Int × Nat)), acc ≠ none → scan (Dm xs ms) (Cm xs ms) (fbm xs) r a k c acc ≠ none := by
    intro r
    induction r with
    | nil => intro acc h; exact h
    | cons b r ih =>
      intro acc h
      unfold scan
      obtain ⟨y, hy, _⟩ := betterC_some acc (Dm xs ms a k c b + optC (scan (Dm xs ms) (Cm xs ms) (fbm xs) r b (k + 1) (Cm xs ms a k b) none), b)
      split
      · rw [hy]; simp
      · exact ih _ (by rw [hy]; simp)
  unfold scM
  unfold scan
  obtain ⟨y, hy, _⟩ := betterC_some acc (Dm xs ms a k c b + optC (scan (Dm xs ms) (Cm xs ms) (fbm xs) r b (k + 1) (Cm xs ms a k b) none), b)
  split
  · rw [hy]; simp
  · exact hg _ _ (by rw [hy]; simp)
def nx1 (o : Option (Int × Nat)) : Int := match o with | none => -1 | some x => (x.2 : Int)
theorem nx1_nxt {o : Option (Int × Nat)} (h : o ≠ none) : nxt o = nx1 o := by cases o; exact absurd rfl h; rfl
/-- what the map holds at a state, r being the positions behind it. -/
def valS (r : List Nat) (a : Int) (k : Nat) (c : Int) : Int × Int := (cst (scM xs ms r a k c none), nx1 (scM xs ms r a k c none))
/-- positions from index i on are done. -/
def Inv (l : List Nat) (i : Nat) (f : Int → Int → Int → Int × Int) : Prop := ∀ j, i ≤ j → j < l.length → ∀ k : Nat, k < ms.length → ∀ c : Int, 0 ≤ c → c < 4 → f (gN l j) k c = valS xs ms (l.drop (j + 1)) (gN l j) k c
theorem cls4 (a : Int) (k b : Nat) : 0 ≤ Cm xs ms a k b ∧ Cm xs ms a k b < 4 := by have := cls_bd (lineF xs ms a b k).ratio; exact ⟨this.1, by have := this.2; unfold Cm; show clsOf _ < 4; exact Int.lt_of_le_of_lt this (by omega)⟩
theorem chF_at {l : List Nat} {i : Nat} {f : Int → Int → Int → Int × Int} (hm : 0 < ms.length) (h : Inv xs ms l i f) (hi : i < l.length) (a : Int) {k : Nat} (hk : k < ms.length) {c : Int} (h0 : 0 ≤ c) (h4 : c < 4) :
    chF xs ms f a k (min (k + 1) (ms.length - 1)) (l.drop i) a k c = valS xs ms (l.drop i) a k c := by
  have hv : ∀ j, i ≤ j → j < l.length → vC xs ms f a k (min (k + 1) (ms.length - 1)) c.toNat (gN l j) = Dm xs ms a k c (gN l j) + optC (scM xs ms (l.drop (j + 1)) (gN l j) (k + 1) (Cm xs ms a k (gN l j)) none) := fun j h1 h2 => by
    have hc := cls4 xs ms a k (gN l j)
    have h3 := h j h1 h2 (min (k + 1) (ms.length - 1)) (by omega) (Cm xs ms a k (gN l j)) hc.1 hc.2
    unfold vC
    rw [show (lineF xs ms a (gN l j) k).cls = Cm xs ms a k (gN l j) from rfl, h3]
    unfold valS
    simp only
    rw [← optC_cst, scM_min xs ms _ _ (min (k + 1) (ms.length - 1)) (k + 1) _ _ (by omega), show ((c.toNat : Nat) : Int) = c by omega]
    unfold Dm
    omega
  have e := scanG_scM xs ms a k c _ (l.length - i) i none rfl hv
  have hne : scM xs ms (l.drop i) a k c none ≠ none := by rw [drop_at hi]; exact scM_ne xs ms
  unfold chF valS
  rw [if_pos ⟨rfl, rfl, h0, h4⟩, show (fun b => forcedI (gT xs b)) = fbm xs from rfl, e, nx1_nxt hne]
end
end Go.Proofs.Ytogbapdioccamaa
