/- Words for memory: slices of slices. No program in sight. -/
import Derived.Test.YtjpbmeonkfkgdaaW1
namespace Go.Proofs.Ytjpbmeonkfkgdaa
open Go.RowKit

section
variable {P : Program} {t e : TypeId} {s : Nat} {α : Type} {enc : α → List Value}
theorem Sl.drop_ {w : World} {ad : Addr} {n : Nat} {xs : List α} (h : Sl w s enc (some ad) n xs) {k : Nat} (hk : k ≤ n) : Sl w s enc (some (ad.add (k * s))) (n - k) (xs.drop k) := by
  refine ⟨by rw [List.length_drop, h.len], fun hn => ?_⟩
  obtain ⟨ad', e, hl, hc⟩ := h.rd (by omega)
  injection e with e
  subst e
  refine ⟨_, rfl, by rw [block_add]; exact hl, fun i x hx j u hu => ?_⟩
  rw [List.getElem?_drop] at hx
  have := hc (k + i) x hx j u hu
  rw [add_add_, show k * s + (i * s + j) = (k + i) * s + j by rw [Nat.add_mul]; omega]
  exact this
def cutA (A : Option Addr) (l c s : Nat) : Option Addr := if c = l then A else A.map (·.add (l * s))
theorem Sl.cut {w : World} {A : Option Addr} {n c : Nat} {xs : List α} (h : Sl w s enc A n xs) {l k : Nat} (h1 : l ≤ k) (h2 : k ≤ n) (hc : n ≤ c) : Sl w s enc (cutA A l c s) (k - l) ((xs.drop l).take (k - l)) := by
  by_cases h0 : k = l
  · subst h0
    rw [Nat.sub_self, List.take_zero]
    exact ⟨rfl, fun h => absurd h (by omega)⟩
  · obtain ⟨ad, e, _, _⟩ := h.rd (by omega)
    subst e
    unfold cutA
    rw [if_neg (by omega)]
    exact (h.drop_ (k := l) (by omega)).take (by omega)
theorem run_cut_lh (ht : P.underlying t = some (.slice e)) (hs : ∀ w, (sizeOf e).run P w = .ok s w) (A : Option Addr) {n c l k : Nat} (h1 : l ≤ k) (h2 : k ≤ n) (hc : n ≤ c) (w : World) :
    (Instr.slice t (.slice A n c) (some (.int .i64 l)) (some (.int .i64 k)) none).run P w = .ok (.slice (cutA A l c s) (k - l) (c - l)) w := by
  have he : P.elem t = e := by unfold Program.elem; rw [ht]
  rw [run_slice_lh w t A n c (by rw [he]; exact ht) _ _ _ _ (by omega) (by omega) (by omega), he, hs]
  simp only [Result.andThen, sliced, Int.toNat_natCast]
  rfl
theorem run_cut_l (ht : P.underlying t = some (.slice e)) (hs : ∀ w, (sizeOf e).run P w = .ok s w) (A : Option Addr) {n c l : Nat} (h1 : l ≤ n) (w : World) :
    (Instr.slice t (.slice A n c) (some (.int .i64 l)) none none).run P w = .ok (.slice (cutA A l c s) (n - l) (c - l)) w := by
  have he : P.elem t = e := by unfold Program.elem; rw [ht]
  rw [run_slice_l w t A n c (by rw [he]; exact ht) _ _ (by omega) (by omega), he, hs]
  simp only [Result.andThen, sliced, Int.toNat_natCast]
  rfl
theorem run_cut_h (ht : P.underlying t = some (.slice e)) (hs : ∀ w, (sizeOf e).run P w = .ok s w) (A : Option Addr) {n c k : Nat} (h2 : k ≤ n) (hc : n ≤ c) (w : World) :
    (Instr.slice t (.slice A n c) none (some (.int .i64 k)) none).run P w = .ok (.slice A k c) w := by
  have he : P.elem t = e := by unfold Program.elem; rw [ht]
  rw [run_slice_h w t A n c (by rw [he]; exact ht) _ _ (by omega) (by omega), he, hs]
  simp only [Result.andThen, sliced, Int.toNat_natCast, Nat.sub_zero, Nat.zero_mul]
  congr 2
  split
  · rfl
  · cases A
    · rfl
    · simp [Addr.add]
end
end Go.Proofs.Ytjpbmeonkfkgdaa
