/- An item, opened. -/
import Derived.Test.YtogbapdioccamaaL
import Derived.Test.YtogbapdioccamaaE1
namespace Go.Proofs.Ytogbapdioccamaa
open Go.ChangeShapes Go.WideShapes Go.ChangeAt Go.RowKit Go.Deep

section
variable {H : Type} {enc : TypeId × Value → H}
theorem wf_i64 {n : Int} (h : (Lit.int .i64 n).wf = true) : -9223372036854775808 ≤ n ∧ n ≤ 9223372036854775807 := by
  simpa [Lit.wf, IntKind.min, IntKind.max, IntKind.signed, IntKind.bits] using h
theorem wf_u8 {n : Int} (h : (Lit.int .u8 n).wf = true) : 0 ≤ n ∧ n ≤ 255 := by
  simpa [Lit.wf, IntKind.min, IntKind.max, IntKind.signed, IntKind.bits] using h
theorem opens_it (w : World) : Opens enc Try.prog w 52 itC (fun _ => True) := fun fuel cs x h => by
  obtain ⟨xs, n, _, _, hcl, hxl, hf⟩ := DataW.trod_struct Try.underlying52 h
  have hc2 : cs.length = 6 := hcl
  have f0 := hf 0 _ rfl
  have f1 := hf 1 _ rfl
  have f2 := hf 2 _ rfl
  have f3 := hf 3 _ rfl
  have f4 := hf 4 _ rfl
  have f5 := hf 5 _ rfl
  match cs, hc2 with
  | [a, b, c, d, e, g], _ =>
    match xs, hxl with
    | [y0, y1, y2, y3, y4, y5], _ =>
      obtain ⟨n0, e0, _, _⟩ := DataW.trod_int Try.underlying3 (show DataW.trod enc Try.prog w 0 (fun _ => true) true n 3 [a] = some y0 from f0)
      obtain ⟨n1, e1, _, _⟩ := DataW.trod_int Try.underlying3 (show DataW.trod enc Try.prog w 0 (fun _ => true) true n 3 [b] = some y1 from f1)
      obtain ⟨n2, e2, _, _⟩ := DataW.trod_int Try.underlying3 (show DataW.trod enc Try.prog w 0 (fun _ => true) true n 3 [c] = some y2 from f2)
      obtain ⟨n3, e3, _, _⟩ := DataW.trod_int Try.underlying3 (show DataW.trod enc Try.prog w 0 (fun _ => true) true n 3 [d] = some y3 from f3)
      obtain ⟨n4, e4, _, _⟩ := DataW.trod_int Try.underlying3 (show DataW.trod enc Try.prog w 0 (fun _ => true) true n 3 [e] = some y4 from f4)
      obtain ⟨b5, e5, _⟩ := DataW.trod_bool Try.underlying4 (show DataW.trod enc Try.prog w 0 (fun _ => true) true n 4 [g] = some y5 from f5)
      simp only [List.cons.injEq, and_true] at e0 e1 e2 e3 e4 e5
      subst e0; subst e1; subst e2; subst e3; subst e4; subst e5
      exact ⟨⟨n0, n1, n2, n3, n4, b5⟩, rfl, trivial⟩
end
end Go.Proofs.Ytogbapdioccamaa
