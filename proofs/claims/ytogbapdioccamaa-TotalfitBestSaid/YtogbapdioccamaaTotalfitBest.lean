/-
  THE STATEMENT 'Rows.TotalfitBestSaid': for every input the law obeluslaw46.TotalfitBest returns true, and its arguments read afterwards as they read before. No condition beyond the row's own.
-/
import Derived.Test.YtogbapdioccamaaL46
import Derived.Test.YtogbapdioccamaaE59
namespace Go.Proofs.Ytogbapdioccamaa.totalfitBest
open Go.ChangeShapes Go.WideShapes Go.ChangeAt Go.RowKit Go.Deep
open Go.ChangeMaps (open_string shut_string)
set_option linter.unusedVariables false

set_option maxRecDepth 100000 in
theorem lifted (os : Os) (started : os.Started) (H : Type) (enc : TypeId × Value → H) :
    ReturnsInHanded {} Try.checked os 5 .any (Rows.totalfitBestSpec.pre6 enc Try.prog Try.f5 Rows.totalfitBestRow.domain false) (Rows.totalfitBestSpec.post enc Try.prog Try.f5 false true false false) := by
  refine returnsInHanded_of_change (C := Try.checked) own_knob started (by kernel_rfl) Try.func5
    (ChangeSpec.witness6 (enc := enc) (C := Try.checked) false ⟨#[], #[.slice none 0 0, .slice none 0 0], []⟩ 8 (by kernel_rfl) (by kernel_rfl) (by kernel_rfl) (by kernel_rfl)) ?_
  intro W base args ds gs before hval0 hW hcnd _
  have hval : ∀ (j : Nat) t v, Try.f5.params[j]? = some t → args[j]? = some v → Value.okWide Try.prog W .any base t v := hval0
  have hW' := hW
  obtain ⟨p, q, hA0, hV, rfl, hfz, hnd⟩ := hW
  have hA : DataW.TrodAll enc Try.prog W 0 (fun _ => true) true Try.f5.params.toList args.toList ds p := hA0
  rw [Try.params5] at hA hval
  obtain ⟨v0, vs0, d0, ds0, p0, q0, hargs, rfl, rfl, h0, r0⟩ := trodAll_cons hA
  obtain ⟨v1, vs1, d1, ds1, p1, q1, rfl, rfl, rfl, h1, r1⟩ := trodAll_cons r0
  obtain ⟨rfl, rfl, rfl⟩ := trodAll_nil r1
  obtain rfl : args = #[v0, v1] := by cases args; simp_all
  obtain ⟨rfl, rfl⟩ := trodVars_none hV
  obtain ⟨A0, n0, c0, xs0, rfl, hc0, hm0, hs0, hx0⟩ := open_sl Try.underlying22 (s := 6) (by kernel_rfl) (by omega) (opens_it W) (hval 0 22 v0 rfl rfl) h0
  obtain ⟨A1, n1, c1, xs1, rfl, hc1, hm1, hs1, hx1⟩ := open_sl Try.underlying23 (s := 1) (by kernel_rfl) (by omega) (opens_int Try.underlying3) (hval 1 23 v1 rfl rfl) h1
  refine (law_best A0 A1 n0 c0 n1 c1 xs0 xs1 W hs0 hs1 ⟨hc0, hm0⟩ ⟨hc1, hm1⟩).mono fun e W' ⟨he, hg⟩ => ?_
  subst he
  exact ⟨_, rfl, post_law laid_out (by rw [Try.params5]; intro t ht; simp at ht; rcases ht with rfl | rfl <;> exact ⟨by kernel_rfl, of_decide_eq_true (by kernel_rfl)⟩) hW' rfl rfl rfl rfl Try.underlying4 (by kernel_rfl) hg⟩

theorem over : Rows.totalfitBestRow.holds Try.pinned (OpenSpec.ofChange Rows.totalfitBestSpec) :=
  OpenClaim.holds_of_wide 5 Try.f5 rfl rfl rfl rfl rfl rfl rfl ⟨rfl, rfl, rfl, rfl, rfl⟩ rfl rfl rfl rfl rfl (by kernel_rfl) Try.func5 (by kernel_rfl)
    (of_decide_eq_true (by kernel_rfl)) (by unfold Func.isWrapper; first | (rw [if_pos (by decide +kernel)]; kernel_rfl) | (rw [if_neg (by decide +kernel)]; exact ⟨rfl, rfl⟩))
    (fun os started H enc _ => lifted os started H enc)

theorem proved : Rows.TotalfitBestSaid :=
  over
#print axioms proved
end Go.Proofs.Ytogbapdioccamaa.totalfitBest
