/-
  THE STATEMENT 'Rows.TotalfitPositionsSaid': for every input the law obeluslaw46.TotalfitPositions returns true, and its arguments read afterwards as they read before. No condition beyond the row's own.
-/
import Derived.Test.YtogbapdioccamaaL46
import Derived.Test.YtogbapdioccamaaE28
import Derived.Test.YtogbapdioccamaaE29
namespace Go.Proofs.Ytogbapdioccamaa.totalfitPositions
open Go.ChangeShapes Go.WideShapes Go.ChangeAt Go.RowKit Go.Deep
open Go.ChangeMaps (open_string shut_string)
set_option linter.unusedVariables false

set_option maxRecDepth 100000 in
theorem lifted (os : Os) (started : os.Started) (H : Type) (enc : TypeId × Value → H) :
    ReturnsInHanded {} Try.checked os 4 .any (Rows.totalfitPositionsSpec.pre6 enc Try.prog Try.f4 Rows.totalfitPositionsRow.domain false) (Rows.totalfitPositionsSpec.post enc Try.prog Try.f4 false true false false) := by
  refine returnsInHanded_of_change (C := Try.checked) own_knob started (by kernel_rfl) Try.func4
    (ChangeSpec.witness6 (enc := enc) (C := Try.checked) false ⟨#[], #[.slice none 0 0], []⟩ 8 (by kernel_rfl) (by kernel_rfl) (by kernel_rfl) (by kernel_rfl)) ?_
  intro W base args ds gs before hval0 hW hcnd _
  have hval : ∀ (j : Nat) t v, Try.f4.params[j]? = some t → args[j]? = some v → Value.okWide Try.prog W .any base t v := hval0
  have hW' := hW
  obtain ⟨p, q, hA0, hV, rfl, hfz, hnd⟩ := hW
  have hA : DataW.TrodAll enc Try.prog W 0 (fun _ => true) true Try.f4.params.toList args.toList ds p := hA0
  rw [Try.params4] at hA hval
  obtain ⟨v0, vs0, d0, ds0, p0, q0, hargs, rfl, rfl, h0, r0⟩ := trodAll_cons hA
  obtain ⟨rfl, rfl, rfl⟩ := trodAll_nil r0
  obtain rfl : args = #[v0] := by cases args; simp_all
  obtain ⟨rfl, rfl⟩ := trodVars_none hV
  obtain ⟨A0, n0, c0, xs0, rfl, hc0, hm0, hs0, hx0⟩ := open_sl Try.underlying22 (s := 6) (by kernel_rfl) (by omega) (opens_it W) (hval 0 22 v0 rfl rfl) h0
  refine (law_positions prepOk A0 n0 c0 xs0 W hs0 ⟨hc0, hm0⟩).mono fun e W' ⟨he, hg⟩ => ?_
  subst he
  exact ⟨_, rfl, post_law laid_out (by rw [Try.params4]; intro t ht; simp at ht; rcases ht with rfl <;> exact ⟨by kernel_rfl, of_decide_eq_true (by kernel_rfl)⟩) hW' rfl rfl rfl rfl Try.underlying4 (by kernel_rfl) hg⟩

theorem over : Rows.totalfitPositionsRow.holds Try.pinned (OpenSpec.ofChange Rows.totalfitPositionsSpec) :=
  OpenClaim.holds_of_wide 4 Try.f4 rfl rfl rfl rfl rfl rfl rfl ⟨rfl, rfl, rfl, rfl, rfl⟩ rfl rfl rfl rfl rfl (by kernel_rfl) Try.func4 (by kernel_rfl)
    (of_decide_eq_true (by kernel_rfl)) (by unfold Func.isWrapper; first | (rw [if_pos (by decide +kernel)]; kernel_rfl) | (rw [if_neg (by decide +kernel)]; exact ⟨rfl, rfl⟩))
    (fun os started H enc _ => lifted os started H enc)

theorem proved : Rows.TotalfitPositionsSaid :=
  over
#print axioms proved
end Go.Proofs.Ytogbapdioccamaa.totalfitPositions
