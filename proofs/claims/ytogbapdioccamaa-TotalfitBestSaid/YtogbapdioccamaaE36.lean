/- The best breaks are right, cost bestV, and none costs less. -/
import Derived.Test.YtogbapdioccamaaE35
import Derived.Test.YtogbapdioccamaaE31
import Derived.Test.YtogbapdioccamaaE35
import Derived.Test.YtogbapdioccamaaE31
namespace Go.Proofs.Ytogbapdioccamaa
open Go.RowKit

theorem fm_mem (f : List Nat → Int) : ∀ (l : List (List Nat)) (acc : Acc) (s : List Nat) (v : Int), fm f l acc = some (s, v) → acc = some (s, v) ∨ (s ∈ l ∧ f s = v)
  | [], acc, s, v, h => .inl h
  | x :: l, acc, s, v, h => by
    rw [fm] at h
    rcases fm_mem f l _ s v h with h1 | h1
    · cases acc with
      | none =>
        simp only [better, Option.some.injEq, Prod.mk.injEq] at h1
        exact .inr ⟨by rw [h1.1]; simp, by rw [← h1.1]; exact h1.2⟩
      | some y =>
        simp only [better] at h1
        split at h1
        · simp only [Option.some.injEq, Prod.mk.injEq] at h1
          exact .inr ⟨by rw [h1.1]; simp, by rw [← h1.1]; exact h1.2⟩
        · exact .inl h1
    · exact .inr ⟨by simp [h1.1], h1.2⟩
theorem ends_of {fb : Nat → Bool} : ∀ {l : List Nat}, l ≠ [] → fb (gN l (l.length - 1)) = true → Ends fb l
  | [], h, _ => absurd rfl h
  | [b], _, h => h
  | a :: b :: r, _, h => ends_of (l := b :: r) (by simp) (by
      have e : gN (a :: b :: r) ((a :: b :: r).length - 1) = gN (b :: r) ((b :: r).length - 1) := by
        unfold gN
        simp only [List.length_cons, Nat.add_sub_cancel]
        rfl
      rw [← e]
      exact h)
theorem sub_of : ∀ (r t : List Nat), t.Pairwise (· < ·) → r.Pairwise (· < ·) → (∀ x ∈ t, x ∈ r) → t.Sublist r
  | [], t, _, _, h => by
    have : t = [] := by
      cases t with
      | nil => rfl
      | cons x t => exact absurd (h x (by simp)) (by simp)
    subst this
    exact List.Sublist.refl _
  | b :: r, t, ht, hr, h => by
    obtain ⟨hb, hr2⟩ := List.pairwise_cons.1 hr
    cases t with
    | nil => exact List.nil_sublist _
    | cons x t =>
      obtain ⟨hx, ht2⟩ := List.pairwise_cons.1 ht
      by_cases e : x = b
      · subst e
        refine (sub_of r t ht2 hr2 fun y hy => ?_).cons_cons x
        rcases List.mem_cons.1 (h y (by simp [hy])) with h1 | h1
        · have := hx y hy; omega
        · exact h1
      · refine (sub_of r (x :: t) ht hr2 fun y hy => ?_).cons b
        have hxb : b < x := by
          rcases List.mem_cons.1 (h x (by simp)) with h1 | h1
          · exact absurd h1 e
          · exact hb x h1
        rcases List.mem_cons.1 (h y hy) with h1 | h1
        · rcases List.mem_cons.1 hy with h2 | h2
          · omega
          · have := hx y h2; omega
        · exact h1
theorem rise_of {l : List Nat} {n : Nat} (hs : l.Pairwise (· < ·)) (h : ∀ x ∈ l, x < n) : Rise l n :=
  ⟨fun k hk => h _ (gN_mem hk), fun k hk => gN_rise hs (by omega) hk⟩
section
variable {xs : List It} {ms : List Int} {n m : Nat}
theorem Good.ends (G : Good xs ms n m) (hl : xs.length = n) : Ends (fbm xs) (posN xs) := by
  obtain ⟨h1, h2⟩ := posN_last hl G.n0 G.F
  refine ends_of (fun e => by rw [e] at h1; simp at h1) ?_
  rw [(h2 ((posN xs).length - 1) (by omega)).2 (by omega)]
  exact G.F
theorem Good.fm_ (G : Good xs ms n m) (hl : xs.length = n) : fm (fun s => cosM xs ms s (-1) 0 1) (seqM xs (posN xs)) none = some (breaksL xs ms, bestV xs ms) :=
  fm_path xs ms (posN xs) (-1) 0 1 (.inr (G.ends hl)) (posN_sorted xs)
theorem Good.seq (G : Good xs ms n m) (hl : xs.length = n) : breaksL xs ms ∈ seqM xs (posN xs) ∧ cosM xs ms (breaksL xs ms) (-1) 0 1 = bestV xs ms := by
  rcases fm_mem _ _ _ _ _ (G.fm_ hl) with h | h
  · cases h
  · exact h
theorem Good.le (G : Good xs ms n m) (hl : xs.length = n) {t : List Nat} (ht : t ∈ seqM xs (posN xs)) : bestV xs ms ≤ cosM xs ms t (-1) 0 1 :=
  (fm_le _ _ _ _ _ (G.fm_ hl)).2 t ht
theorem brok_of_seq (hl : xs.length = n) {t : List Nat} (ht : t ∈ seqM xs (posN xs)) : BrOk xs n t := by
  obtain ⟨h1, h2⟩ := seq_sub xs _ _ ht
  refine ⟨rise_of ((posN_sorted xs).sublist h1) (fun x hx => ?_), fun b hb => h1.subset hb, fun b hb hf => h2 b hb hf⟩
  have := posN_mem.1 (h1.subset hx)
  omega
theorem seq_of_brok {t : List Nat} (h : BrOk xs n t) : t ∈ seqM xs (posN xs) :=
  sub_seq xs _ _ (sub_of _ _ h.rise.pair (posN_sorted xs) h.pos) h.all (posN_sorted xs)
theorem Good.brok (G : Good xs ms n m) (hl : xs.length = n) : BrOk xs n (breaksL xs ms) := brok_of_seq hl (G.seq hl).1
theorem foldr_costN (bl : List Nat) : ∀ (d : Nat) (t : Int), (List.range d).foldr (fun i t => demAt xs ms bl (0 + i) + t) t = costN xs ms bl d + t
  | 0, t => by simp [costN]
  | d + 1, t => by
    rw [List.range_succ, List.foldr_append, List.foldr_cons, List.foldr_nil, foldr_costN bl d]
    show _ = costN xs ms bl d + demAt xs ms bl d + t
    rw [Nat.zero_add]
    omega
theorem costN_cos (bl : List Nat) : costN xs ms bl bl.length = cosM xs ms bl (-1) 0 1 := by
  have h := cos_costN xs ms bl bl.length 0 (by omega) (Nat.zero_le _)
  rw [List.drop_zero, foldr_costN, Int.add_zero] at h
  exact h.symm
end
end Go.Proofs.Ytogbapdioccamaa
