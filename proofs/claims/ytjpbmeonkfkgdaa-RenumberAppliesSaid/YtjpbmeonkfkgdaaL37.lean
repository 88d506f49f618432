/- Levels and pairs of bytes, opened. -/
import Derived.Test.YtjpbmeonkfkgdaaLA
import Derived.Test.YtjpbmeonkfkgdaaG8
namespace Go.Proofs.Ytjpbmeonkfkgdaa
open Go.ChangeShapes Go.WideShapes Go.ChangeAt Go.RowKit Go.Deep

section
variable {H : Type} {enc : TypeId × Value → H}
theorem wf_u8 {n : Int} (h : (Lit.int .u8 n).wf = true) : 0 ≤ n ∧ n ≤ 255 := by
  simpa [Lit.wf, IntKind.min, IntKind.max, IntKind.signed, IntKind.bits] using h
def lvsC (p : Int × Int × Int × Int) : List Value := [.int .u8 p.1, .int .u8 p.2.1, .int .u8 p.2.2.1, .int .u8 p.2.2.2]
def u8 (n : Int) : Prop := 0 ≤ n ∧ n ≤ 255
theorem opens_tw (w : World) : Opens enc Try.prog w 39 twC TwOk := fun fuel cs x h => by
  obtain ⟨y, e, o0, o1⟩ := opens_arr2 Try.underlying39 (by kernel_rfl) (by kernel_rfl) (opens_int Try.underlying5) fuel cs x h
  exact ⟨⟨y.1, y.2⟩, e, (wf_u8 o0).1, (wf_u8 o0).2, (wf_u8 o1).1, (wf_u8 o1).2⟩
set_option maxRecDepth 100000 in
theorem opens_lvs (w : World) : Opens enc Try.prog w 24 lvsC (fun p => u8 p.1 ∧ u8 p.2.1 ∧ u8 p.2.2.1 ∧ u8 p.2.2.2) := fun fuel cs x h => by
  obtain ⟨xs, n, _, _, hcl, hxl, hf⟩ := DataW.trod_struct Try.underlying24 h
  have hc2 : cs.length = 4 := hcl
  have f0 := hf 0 _ rfl
  have f1 := hf 1 _ rfl
  match cs, hc2 with
  | [a, b, c, d], _ =>
    match xs, hxl with
    | [y0, y1], _ =>
      obtain ⟨n0, e0, _, w0⟩ := DataW.trod_int Try.underlying5 (show DataW.trod enc Try.prog w 0 (fun _ => true) true n 5 [a] = some y0 from f0)
      obtain ⟨p, e1, o0, o1, o2⟩ := opens_arr3 Try.underlying22 (by kernel_rfl) (by kernel_rfl) (opens_int Try.underlying5) n [b, c, d] y1 (show DataW.trod enc Try.prog w 0 (fun _ => true) true n 22 [b, c, d] = some y1 from f1)
      simp only [List.cons_append, List.nil_append, List.cons.injEq, and_true] at e0 e1
      obtain ⟨e10, e11, e12⟩ := e1
      subst e0; subst e10; subst e11; subst e12
      exact ⟨(n0, p.1, p.2.1, p.2.2), rfl, wf_u8 w0, wf_u8 o0, wf_u8 o1, wf_u8 o2⟩
theorem gW_ok {xs : List Tw} (h : ∀ x ∈ xs, TwOk x) : ∀ i, i < xs.length → TwOk (gW xs i) := fun i hi => by
  have : gW xs i = xs[i] := by unfold gW; rw [List.getD_eq_getElem?_getD, List.getElem?_eq_getElem hi]; rfl
  rw [this]
  exact h _ (List.getElem_mem hi)
end
end Go.Proofs.Ytjpbmeonkfkgdaa
