/- Arrays and structs by value, opened. -/
import Derived.Test.YtjpbmeonkfkgdaaL
namespace Go.Proofs.Ytjpbmeonkfkgdaa
open Go.ChangeShapes Go.WideShapes Go.ChangeAt Go.RowKit Go.Deep

section
variable {H : Type} {enc : TypeId × Value → H} {P : Program}
theorem okWide_array {w : World} {r : Reach} {base : Nat} {t e : TypeId} {n : Nat} {v : Value} (ht : P.underlying t = some (.array n e)) (h : Value.okWide P w r base t v) : ∃ cs, v = .agg cs ∧ cs.size = P.cellsOf t := by
  simp only [Value.okWide, ht] at h
  obtain ⟨cs, h1, h2, _⟩ := h
  exact ⟨cs, h1, h2⟩
theorem opens_arr2 {α : Type} {w : World} {t e : TypeId} {ev : α → List Value} {ok : α → Prop} (ht : P.underlying t = some (.array 2 e)) (hC : P.cellsOf t = 2) (ce : P.cellsOf e = 1) (ho : Opens enc P w e ev ok) :
    Opens enc P w t (fun p : α × α => ev p.1 ++ ev p.2) (fun p => ok p.1 ∧ ok p.2) := fun fuel cs x h => by
  obtain ⟨xs, m, _, _, hl, hx, hf⟩ := DataW.trod_array ht h
  rw [hC] at hl
  match cs, hl with
  | [a, b], _ =>
    have f0 := hf 0 (by omega)
    have f1 := hf 1 (by omega)
    rw [ce] at f0 f1
    rw [List.getElem?_eq_getElem (by omega)] at f0 f1
    obtain ⟨y0, e0, o0⟩ := ho _ _ _ f0
    obtain ⟨y1, e1, o1⟩ := ho _ _ _ f1
    refine ⟨(y0, y1), ?_, o0, o1⟩
    show _ = ev y0 ++ ev y1
    rw [← e0, ← e1]
    rfl
theorem opens_arr3 {α : Type} {w : World} {t e : TypeId} {ev : α → List Value} {ok : α → Prop} (ht : P.underlying t = some (.array 3 e)) (hC : P.cellsOf t = 3) (ce : P.cellsOf e = 1) (ho : Opens enc P w e ev ok) :
    Opens enc P w t (fun p : α × α × α => ev p.1 ++ ev p.2.1 ++ ev p.2.2) (fun p => ok p.1 ∧ ok p.2.1 ∧ ok p.2.2) := fun fuel cs x h => by
  obtain ⟨xs, m, _, _, hl, hx, hf⟩ := DataW.trod_array ht h
  rw [hC] at hl
  match cs, hl with
  | [a, b, c], _ =>
    have f0 := hf 0 (by omega)
    have f1 := hf 1 (by omega)
    have f2 := hf 2 (by omega)
    rw [ce] at f0 f1 f2
    rw [List.getElem?_eq_getElem (by omega)] at f0 f1 f2
    obtain ⟨y0, e0, o0⟩ := ho _ _ _ f0
    obtain ⟨y1, e1, o1⟩ := ho _ _ _ f1
    obtain ⟨y2, e2, o2⟩ := ho _ _ _ f2
    refine ⟨(y0, y1, y2), ?_, o0, o1, o2⟩
    show _ = ev y0 ++ ev y1 ++ ev y2
    rw [← e0, ← e1, ← e2]
    rfl
theorem open_aggv {α : Type} {w : World} {t : TypeId} {ev : α → List Value} {ok : α → Prop} {v : Value} {d : DataW H} {p : List MemPlace} (ho : Opens enc P w t ev ok) (hv : ∃ cs, v = .agg cs) (h : DataW.Trod enc P w 0 (fun _ => true) true t v d p) :
    ∃ y, v = .agg (ev y).toArray ∧ ok y := by
  obtain ⟨cs, rfl⟩ := hv
  obtain ⟨fuel, hf⟩ := h
  obtain ⟨y, hy, hok⟩ := ho _ _ _ hf
  refine ⟨y, ?_, hok⟩
  rw [← hy]
  rfl
end
end Go.Proofs.Ytjpbmeonkfkgdaa
