/- Greedy's breaks, plain. -/
import Derived.Test.YtogbapdioccamaaE36
namespace Go.Proofs.Ytogbapdioccamaa
open Go.RowKit

section
variable (xs : List It) (ms : List Int)
/-- the last break from a on whose line is not overfull, up to the first forced one. -/
def endG (a : Int) (k : Nat) : List Nat → Nat → Nat
  | [], acc => acc
  | b :: r, acc => if fbm xs b = true then (if (lineF xs ms a b k).over = 0 then b else acc) else endG a k r (if (lineF xs ms a b k).over = 0 then b else acc)
def greedyG : Nat → List Nat → Int → Nat → List Nat
  | 0, _, _, _ => []
  | _ + 1, [], _, _ => []
  | f + 1, x :: r, a, k => endG xs ms a k (x :: r) x :: greedyG f (after (endG xs ms a k (x :: r) x) (x :: r)) (endG xs ms a k (x :: r) x) (k + 1)
def greedyL : List Nat := greedyG xs ms (posN xs).length (posN xs) (-1) 0
/-- b can be reached in r: all before it are not forced. -/
inductive Reach (b : Nat) : List Nat → Prop
  | here (r : List Nat) : Reach b (b :: r)
  | there (x : Nat) (r : List Nat) (hx : fbm xs x = false) (h : Reach b r) : Reach b (x :: r)
theorem reach_mem {b : Nat} {r : List Nat} (h : Reach xs b r) : b ∈ r := by
  induction h with
  | here r => simp
  | there x r hx h ih => simp [ih]
theorem reach_seq {b : Nat} {r : List Nat} (h : Reach xs b r) (hs : r.Pairwise (· < ·)) {s : List Nat} (hss : s ∈ seqM xs (after b r)) : b :: s ∈ seqM xs r := by
  induction h with
  | here r =>
    unfold after at hss
    rw [if_pos rfl] at hss
    unfold seqM
    rw [seqs, List.mem_append]
    exact .inl (List.mem_map.2 ⟨s, hss, rfl⟩)
  | there x r hx h ih =>
    obtain ⟨h1, h2⟩ := List.pairwise_cons.1 hs
    have hne : x ≠ b := by have := h1 b (reach_mem xs h); omega
    unfold after at hss
    rw [if_neg hne] at hss
    unfold seqM
    rw [seqs, List.mem_append]
    refine .inr ?_
    rw [if_neg (by rw [hx]; simp)]
    exact ih h2 hss
theorem endG_reach (a : Int) (k : Nat) : ∀ (r : List Nat) (acc : Nat) , (endG xs ms a k r acc = acc ∨ Reach xs (endG xs ms a k r acc) r)
  | [], _ => .inl rfl
  | b :: r, acc => by
    unfold endG
    by_cases hf : fbm xs b = true
    · rw [if_pos hf]
      split
      · exact .inr (.here r)
      · exact .inl rfl
    · rw [if_neg hf]
      have hf2 : fbm xs b = false := by simpa using hf
      rcases endG_reach a k r (if (lineF xs ms a b k).over = 0 then b else acc) with h | h
      · rw [h]
        split
        · exact .inr (.here r)
        · exact .inl rfl
      · exact .inr (.there b r hf2 h)
theorem end_reach (a : Int) (k x : Nat) (r : List Nat) : Reach xs (endG xs ms a k (x :: r) x) (x :: r) := by
  rcases endG_reach xs ms a k (x :: r) x with h | h
  · rw [h]; exact .here r
  · exact h
theorem after_pair {b : Nat} : ∀ {r : List Nat}, r.Pairwise (· < ·) → (after b r).Pairwise (· < ·)
  | [], h => h
  | x :: r, h => by
    unfold after
    split
    · exact (List.pairwise_cons.1 h).2
    · exact after_pair (List.pairwise_cons.1 h).2
theorem greedy_seq : ∀ (f : Nat) (r : List Nat) (a : Int) (k : Nat), r.length ≤ f → r.Pairwise (· < ·) → greedyG xs ms f r a k ∈ seqM xs r
  | 0, r, a, k, h, _ => by
    have : r = [] := List.eq_nil_of_length_eq_zero (by omega)
    subst this
    exact List.mem_singleton.2 rfl
  | f + 1, [], a, k, _, _ => List.mem_singleton.2 rfl
  | f + 1, x :: r, a, k, h, hs => by
    unfold greedyG
    have hl := after_len (b := endG xs ms a k (x :: r) x) (r := x :: r) (by simp)
    exact reach_seq xs (end_reach xs ms a k x r) hs (greedy_seq f _ _ _ (by simp only [List.length_cons] at h hl ⊢; omega) (after_pair hs))
theorem greedyL_seq : greedyL xs ms ∈ seqM xs (posN xs) := greedy_seq xs ms _ _ _ _ (Nat.le_refl _) (posN_sorted xs)
end
end Go.Proofs.Ytogbapdioccamaa
