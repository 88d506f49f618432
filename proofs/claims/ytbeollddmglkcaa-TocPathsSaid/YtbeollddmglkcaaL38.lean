/- A heading, opened. -/
import Derived.Test.YtbeollddmglkcaaL
import Derived.Test.YtbeollddmglkcaaA0
namespace Go.Proofs.Ytbeollddmglkcaa
open Go.ChangeShapes Go.WideShapes Go.ChangeAt Go.RowKit Go.Deep

section
variable {H : Type} {enc : TypeId × Value → H}
theorem wf_i64 {n : Int} (h : (Lit.int .i64 n).wf = true) : -9223372036854775808 ≤ n ∧ n ≤ 9223372036854775807 := by
  simpa [Lit.wf, IntKind.min, IntKind.max, IntKind.signed, IntKind.bits] using h
theorem opens_pos (w : World) : Opens enc Try.prog w 30 (fun p : Int × Int => [Value.int .i64 p.1, Value.int .i64 p.2]) (fun _ => True) := fun fuel cs x h => by
  obtain ⟨xs, n, _, _, hcl, hxl, hf⟩ := DataW.trod_struct Try.underlying30 h
  have hc2 : cs.length = 2 := hcl
  have f0 := hf 0 _ rfl
  have f1 := hf 1 _ rfl
  match cs, hc2 with
  | [a, b], _ =>
    match xs, hxl with
    | [y0, y1], _ =>
      obtain ⟨n0, e0, _, _⟩ := DataW.trod_int Try.underlying3 (show DataW.trod enc Try.prog w 0 (fun _ => true) true n 3 [a] = some y0 from f0)
      obtain ⟨n1, e1, _, _⟩ := DataW.trod_int Try.underlying3 (show DataW.trod enc Try.prog w 0 (fun _ => true) true n 3 [b] = some y1 from f1)
      exact ⟨(n0, n1), by simp at e0 e1; rw [e0, e1], trivial⟩
theorem opens_hd (w : World) : Opens enc Try.prog w 32 hdC (fun h => -9223372036854775808 ≤ h.level ∧ h.level ≤ 9223372036854775807 ∧ h.label.size ≤ maxLen ∧ h.title.size ≤ maxLen) := fun fuel cs x h => by
  obtain ⟨xs, n, _, _, hcl, hxl, hf⟩ := DataW.trod_struct Try.underlying32 h
  have hc2 : cs.length = 5 := hcl
  have f0 := hf 0 _ rfl
  have f1 := hf 1 _ rfl
  have f2 := hf 2 _ rfl
  have f3 := hf 3 _ rfl
  match cs, hc2 with
  | [a, b, c, d, e], _ =>
    match xs, hxl with
    | [y0, y1, y2, y3], _ =>
      obtain ⟨p, e0, _⟩ := opens_pos w n [a, b] y0 (show DataW.trod enc Try.prog w 0 (fun _ => true) true n 30 [a, b] = some y0 from f0)
      obtain ⟨n1, e1, _, w1⟩ := DataW.trod_int Try.underlying3 (show DataW.trod enc Try.prog w 0 (fun _ => true) true n 3 [c] = some y1 from f1)
      obtain ⟨s2, e2, _, h2⟩ := DataW.trod_string Try.underlying9 (show DataW.trod enc Try.prog w 0 (fun _ => true) true n 9 [d] = some y2 from f2)
      obtain ⟨s3, e3, _, h3⟩ := DataW.trod_string Try.underlying9 (show DataW.trod enc Try.prog w 0 (fun _ => true) true n 9 [e] = some y3 from f3)
      simp only [List.cons.injEq, and_true] at e0 e1 e2 e3
      obtain ⟨e00, e01⟩ := e0
      subst e00; subst e01; subst e1; subst e2; subst e3
      exact ⟨⟨p.1, p.2, n1, s2, s3⟩, rfl, (wf_i64 w1).1, (wf_i64 w1).2, h2, h3⟩
end
end Go.Proofs.Ytbeollddmglkcaa
