/-
  THE STATEMENT 'Rows.NumberingOfCardSaid': for every input the law obeluslaw36.NumberingOf returns true, and its arguments read afterwards as they read before; the listed package variables (numeral.signs, strconv's powers of ten and the other tables) read as the program's text lays them, by the given tie. No condition beyond the card's own.
-/
import Derived.Test.YthbodpjkckminaaGreatDoorm24
import Derived.Test.YthbodpjkckminaaGreatDoorCards
import Derived.Test.YthbodpjkckminaaGreatDoorTie
import Derived.Lay
import Derived.SevenTiedAt
import Derived.Stop.Joined
namespace Go.Proofs.YthbodpjkckminaaGreatDoor.numberingOf
open Go.ChangeShapes Go.WideShapes Go.ChangeAt Go.RowKit Go.Deep
set_option linter.unusedVariables false

set_option maxRecDepth 100000 in
theorem lifted (os : Os) (started : os.Started) (H : Type) (enc : TypeId × Value → H) :
    ReturnsInHanded {} Tryz.checked os 4 .any (fun w args => (Rows.numberingOfSpec.pre enc Tryz.prog Tryz.f4 Rows.numberingOfRow.domain false w args ∧ laidMetH Tryz.prog Rows.numberingOfRow.laid w) ∧ sizedMet enc Tryz.prog Tryz.f4 (OpenSpec.ofChange Rows.numberingOfSpec) false w args)
      (Rows.numberingOfSpec.post enc Tryz.prog Tryz.f4 false true false false) := by
  refine returnsInHanded_of_change_and (C := Tryz.checked) (X := fun w _ => laidMetH Tryz.prog Rows.numberingOfRow.laid w) (fun _ _ _ hh h => h.of_heap hh) own_knob started (by kernel_rfl) Tryz.func4
    (ChangeSpec.witness_shaped (enc := enc) (C := Tryz.checked) (os := os) (X := fun w _ => laidMetH Tryz.prog Rows.numberingOfRow.laid w) false (World.laidAll Tryz.prog os Rows.numberingOfRow.laid) #[.agg #[.slice none 0 0, .slice none 0 0, .slice none 0 0, .slice none 0 0], .slice none 0 0, .slice none 0 0] 8 (World.laidAll_os _ _ _)
      (World.shaped_of_ZipB (by kernel_rfl) (by kernel_rfl)) (by kernel_rfl) (by kernel_rfl) (by kernel_rfl)
      (by rw [MakeChecks.laidMetH_plain _ _ _ (by kernel_rfl)]; exact laidMet_laidAll _ (by kernel_rfl) (by kernel_rfl))) ?_
  intro W base args ds gs before hval0 hW _ hsz hL _
  have hval : ∀ (j : Nat) t v, Tryz.f4.params[j]? = some t → args[j]? = some v → Value.okWide Tryz.prog W .any base t v := hval0
  have hW' := hW
  obtain ⟨p, q, hA0, hV, rfl, hfz, hnd⟩ := hW'
  have hA : DataW.TrodAll enc Tryz.prog W 0 (fun _ => true) true Tryz.f4.params.toList args.toList ds p := hA0
  rw [Tryz.params4] at hA hval
  obtain ⟨v0, vs0, d0, ds0, p0, q0, hargs, rfl, rfl, h0, r0⟩ := trodAll_cons hA
  obtain ⟨v1, vs1, d1, ds1, p1, q1, rfl, rfl, rfl, h1, r1⟩ := trodAll_cons r0
  obtain ⟨v2, vs2, d2, ds2, p2, q2, rfl, rfl, rfl, h2, r2⟩ := trodAll_cons r1
  obtain ⟨rfl, rfl, rfl⟩ := trodAll_nil r2
  obtain rfl : args = #[v0, v1, v2] := by cases args; simp_all
  obtain ⟨rfl, rfl⟩ := trodVars_none hV
  obtain ⟨A1, A, A2, A3, l1, l, l2, l3, c1, c, c2, c3, es, rfl, hsl, hok, hlc, hcm, k1, k2, k3⟩ := open_set ((okWide_struct Tryz.underlying46 (hval 0 46 v0 rfl rfl)).imp fun _ h => h.1) h0 (fun z hz => by
    have := List.all_eq_true.1 hsz z (DataW.weights_mem_each (j := 0) (by rw [Tryz.params4]; rfl) rfl z hz)
    simpa using this)
  obtain ⟨AE, ne, ce, eff, rfl, hec, hem, he1, _⟩ := open_sl Tryz.underlying47 (s := 2) (by kernel_rfl) (by omega) (opens_pr W) (hval 1 47 v1 rfl rfl) h1
  obtain ⟨AO, no, co, own, rfl, hoc, hom, ho1, _⟩ := open_sl Tryz.underlying47 (s := 2) (by kernel_rfl) (by omega) (opens_pr W) (hval 2 47 v2 rfl rfl) h2
  obtain ⟨vs, hls⟩ := lst_of hsl hok
  refine (of_law A1 A A2 A3 l1 l l2 l3 c1 c c2 c3 es vs AE AO ne ce no co eff own W (laid_gl5 hL) hls he1 ho1 (by unfold maxLen at hem; omega) (by unfold maxLen at hom; omega) (by unfold maxLen at hcm; omega) (by unfold reachBytes at k1 k2 k3; omega)).mono fun e W' ⟨he, hg⟩ => ?_
  subst he
  exact ⟨_, rfl, post_law laid_out (by rw [Tryz.params4]; intro t ht; simp at ht; rcases ht with rfl | rfl | rfl <;> exact ⟨by kernel_rfl, of_decide_eq_true (by kernel_rfl)⟩) hW rfl rfl rfl rfl Tryz.underlying4 (by kernel_rfl) hg⟩

theorem over : Rows.NumberingOfSaid :=
  OpenClaim.holds_of_wide 4 Tryz.f4 rfl rfl rfl rfl rfl rfl rfl ⟨rfl, rfl, rfl, rfl, rfl⟩ rfl rfl rfl rfl rfl (by kernel_rfl) Tryz.func4 (by kernel_rfl)
    (of_decide_eq_true (by kernel_rfl)) (by unfold Func.isWrapper; first | (rw [if_pos (by decide +kernel)]; kernel_rfl) | (rw [if_neg (by decide +kernel)]; exact ⟨rfl, rfl⟩))
    (fun os started H enc _ => lifted os started H enc)

theorem proved : Rows.NumberingOfCardSaid :=
  Claim7.holds_tied_plain_at .later [] [.data, .data, .data, .data, .data, .pinned, .pinned] true (true, "025dc4f841b8eb06e79601940bc12cb46c18f646f701f8b491cc8894fea64fec") false
    over (fun _ h => by cases h) (by kernel_rfl) (fun _ h => by cases h) numberingOf_row_tie rfl ⟨rfl, rfl⟩ (by kernel_rfl) rfl
    (fun f fn hf hfn => by
      obtain rfl : f = 4 := Option.some.inj ((show Tryz.prog.funcNamed "obelus/obeluslaw36.NumberingOf" = some 4 by kernel_rfl).symm.trans hf) |>.symm
      obtain rfl : fn = Tryz.f4 := (Option.some.inj (Tryz.func4.symm.trans hfn)).symm
      exact ⟨by kernel_rfl, fun j t ht => by
        rw [Tryz.params4] at ht
        have hm : t ∈ [46, 47, 47] := by simpa using Array.mem_of_getElem? ht
        have hall : ([46, 47, 47].all fun u => !Tryz.prog.wantsStandIn u) = true := by kernel_rfl
        exact (show Tryz.prog.wantsStandIn t = false by simpa using List.all_eq_true.1 hall t hm)⟩)
    (by kernel_rfl)
#print axioms proved
end Go.Proofs.YthbodpjkckminaaGreatDoor.numberingOf
