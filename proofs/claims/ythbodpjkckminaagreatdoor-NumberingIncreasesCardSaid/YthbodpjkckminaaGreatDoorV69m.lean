/- A nil slice's capacity. -/
import Derived.Test.YthbodpjkckminaaGreatDoorm27
namespace Go.Proofs.YthbodpjkckminaaGreatDoor
open Go.ChangeShapes Go.WideShapes Go.ChangeAt Go.RowKit Go.Deep

section
variable {H : Type} {enc : TypeId × Value → H} {P : Program}
theorem sl_none {w : World} {t e : TypeId} (ht : P.underlying t = some (.slice e)) {A : Option Addr} {n c : Nat} {d : DataW H} {p : List MemPlace} (h : DataW.Trod enc P w 0 (fun _ => true) true t (.slice A n c) d p) : A = none → c = 0 := by
  obtain ⟨fuel, hf⟩ := h
  rcases open_slice ht hf with ⟨h0, _⟩ | ⟨a, n', c', m, k, D, Pl, hcs, _⟩
  · simp only [Value.cells, List.cons.injEq, and_true] at h0
    injection h0 with h1 h2 h3
    intro _
    exact h3
  · simp only [Value.cells, List.cons.injEq, and_true] at hcs
    injection hcs with h1 h2 h3
    intro hA
    rw [h1] at hA
    cases hA
end
end Go.Proofs.YthbodpjkckminaaGreatDoor
