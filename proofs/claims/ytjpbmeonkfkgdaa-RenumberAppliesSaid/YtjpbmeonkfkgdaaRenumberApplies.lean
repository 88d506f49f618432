/-
  THE STATEMENT 'Rows.RenumberAppliesSaid': for every input the law obeluslaw37.RenumberApplies returns true, and its arguments read afterwards as they read before. No condition beyond the row's own.
-/
import Derived.Test.YtjpbmeonkfkgdaaL37
import Derived.Test.YtjpbmeonkfkgdaaG25
namespace Go.Proofs.Ytjpbmeonkfkgdaa.renumberApplies
open Go.ChangeShapes Go.WideShapes Go.ChangeAt Go.RowKit Go.Deep
open Go.ChangeMaps (open_string shut_string)
set_option linter.unusedVariables false

set_option maxRecDepth 100000 in
theorem lifted (os : Os) (started : os.Started) (H : Type) (enc : TypeId × Value → H) :
    ReturnsInHanded {} Try.checked os 6 .any (Rows.renumberAppliesSpec.pre6 enc Try.prog Try.f6 Rows.renumberAppliesRow.domain false) (Rows.renumberAppliesSpec.post enc Try.prog Try.f6 false true false false) := by
  refine returnsInHanded_of_change (C := Try.checked) own_knob started (by kernel_rfl) Try.func6
    (ChangeSpec.witness6 (enc := enc) (C := Try.checked) false ⟨#[], #[.agg #[.int .u8 0, .int .u8 0, .int .u8 0, .int .u8 0], .slice none 0 0, .slice none 0 0], []⟩ 8 (by kernel_rfl) (by kernel_rfl) (by kernel_rfl) (by kernel_rfl)) ?_
  intro W base args ds gs before hval0 hW hcnd _
  have hval : ∀ (j : Nat) t v, Try.f6.params[j]? = some t → args[j]? = some v → Value.okWide Try.prog W .any base t v := hval0
  have hW' := hW
  obtain ⟨p, q, hA0, hV, rfl, hfz, hnd⟩ := hW
  have hA : DataW.TrodAll enc Try.prog W 0 (fun _ => true) true Try.f6.params.toList args.toList ds p := hA0
  rw [Try.params6] at hA hval
  obtain ⟨v0, vs0, d0, ds0, p0, q0, hargs, rfl, rfl, h0, r0⟩ := trodAll_cons hA
  obtain ⟨v1, vs1, d1, ds1, p1, q1, rfl, rfl, rfl, h1, r1⟩ := trodAll_cons r0
  obtain ⟨v2, vs2, d2, ds2, p2, q2, rfl, rfl, rfl, h2, r2⟩ := trodAll_cons r1
  obtain ⟨rfl, rfl, rfl⟩ := trodAll_nil r2
  obtain rfl : args = #[v0, v1, v2] := by cases args; simp_all
  obtain ⟨rfl, rfl⟩ := trodVars_none hV
  obtain ⟨a0, rfl, w0⟩ := open_aggv (opens_lvs W) ((okWide_struct Try.underlying24 (hval 0 24 v0 rfl rfl)).imp fun _ h => h.1) h0
  obtain ⟨A1, n1, c1, xs1, rfl, hc1, hm1, hs1, hx1⟩ := open_sl Try.underlying25 (s := 2) (by kernel_rfl) (by omega) (opens_tw W) (hval 1 25 v1 rfl rfl) h1
  obtain ⟨A2, n2, c2, xs2, rfl, hc2, hm2, hs2, hx2⟩ := open_sl Try.underlying25 (s := 2) (by kernel_rfl) (by omega) (opens_tw W) (hval 2 25 v2 rfl rfl) h2
  refine (law_applies a0.1 a0.2.1 a0.2.2.1 a0.2.2.2 A1 n1 c1 xs1 A2 n2 c2 xs2 W w0.1 w0.2.1 w0.2.2.1 w0.2.2.2 hs1 (fun i hi => gW_ok hx1 i (by rw [hs1.len]; exact hi)) hs2 (fun i hi => gW_ok hx2 i (by rw [hs2.len]; exact hi))).mono fun e W' ⟨he, hg⟩ => ?_
  subst he
  exact ⟨_, rfl, post_law laid_out (by rw [Try.params6]; intro t ht; simp at ht; rcases ht with rfl | rfl | rfl <;> exact ⟨by kernel_rfl, of_decide_eq_true (by kernel_rfl)⟩) hW' rfl rfl rfl rfl Try.underlying4 (by kernel_rfl) hg⟩

theorem over : Rows.renumberAppliesRow.holds Try.pinned (OpenSpec.ofChange Rows.renumberAppliesSpec) :=
  OpenClaim.holds_of_wide 6 Try.f6 rfl rfl rfl rfl rfl rfl rfl ⟨rfl, rfl, rfl, rfl, rfl⟩ rfl rfl rfl rfl rfl (by kernel_rfl) Try.func6 (by kernel_rfl)
    (of_decide_eq_true (by kernel_rfl)) (by unfold Func.isWrapper; first | (rw [if_pos (by decide +kernel)]; kernel_rfl) | (rw [if_neg (by decide +kernel)]; exact ⟨rfl, rfl⟩))
    (fun os started H enc _ => lifted os started H enc)

theorem proved : Rows.RenumberAppliesSaid :=
  over
#print axioms proved
end Go.Proofs.Ytjpbmeonkfkgdaa.renumberApplies
