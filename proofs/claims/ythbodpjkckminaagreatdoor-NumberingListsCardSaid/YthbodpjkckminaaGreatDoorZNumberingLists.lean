/-
  THE STATEMENT 'Rows.NumberingListsCardSaid': for every input the law obeluslaw36.NumberingLists returns true, and its arguments read afterwards as they read before; the listed package variables (numeral.signs, strconv's powers of ten and the other tables) read as the program's text lays them, by the given tie. No condition beyond the card's own.
-/
import Derived.Test.YthbodpjkckminaaGreatDoorm28
import Derived.Test.YthbodpjkckminaaGreatDoorV78m
import Derived.Test.YthbodpjkckminaaGreatDoorCards
import Derived.Test.YthbodpjkckminaaGreatDoorTie
import Derived.Lay
import Derived.SevenTiedAt
import Derived.Stop.Joined
namespace Go.Proofs.YthbodpjkckminaaGreatDoor.numberingLists
open Go.ChangeShapes Go.WideShapes Go.ChangeAt Go.RowKit Go.Deep
set_option linter.unusedVariables false

set_option maxRecDepth 100000 in
theorem lifted (os : Os) (started : os.Started) (H : Type) (enc : TypeId × Value → H) :
    ReturnsInHanded {} Tryz.checked os 7 .any (fun w args => (Rows.numberingListsSpec.pre enc Tryz.prog Tryz.f7 Rows.numberingListsRow.domain false w args ∧ laidMetH Tryz.prog Rows.numberingListsRow.laid w) ∧ sizedMet enc Tryz.prog Tryz.f7 (OpenSpec.ofChange Rows.numberingListsSpec) false w args)
      (Rows.numberingListsSpec.post enc Tryz.prog Tryz.f7 false true false false) := by
  refine returnsInHanded_of_change_and (C := Tryz.checked) (X := fun w _ => laidMetH Tryz.prog Rows.numberingListsRow.laid w) (fun _ _ _ hh h => h.of_heap hh) own_knob started (by kernel_rfl) Tryz.func7
    (ChangeSpec.witness_shaped (enc := enc) (C := Tryz.checked) (os := os) (X := fun w _ => laidMetH Tryz.prog Rows.numberingListsRow.laid w) false (World.laidAll Tryz.prog os Rows.numberingListsRow.laid) #[.slice none 0 0, .slice none 0 0, .slice none 0 0] 8 (World.laidAll_os _ _ _)
      (World.shaped_of_ZipB (by kernel_rfl) (by kernel_rfl)) (by kernel_rfl) (by kernel_rfl) (by kernel_rfl)
      (by rw [MakeChecks.laidMetH_plain _ _ _ (by kernel_rfl)]; exact laidMet_laidAll _ (by kernel_rfl) (by kernel_rfl))) ?_
  intro W base args ds gs before hval0 hW _ hsz hL _
  have hval : ∀ (j : Nat) t v, Tryz.f7.params[j]? = some t → args[j]? = some v → Value.okWide Tryz.prog W .any base t v := hval0
  have hW' := hW
  obtain ⟨p, q, hA0, hV, rfl, hfz, hnd⟩ := hW'
  have hA : DataW.TrodAll enc Tryz.prog W 0 (fun _ => true) true Tryz.f7.params.toList args.toList ds p := hA0
  rw [Tryz.params7] at hA hval
  obtain ⟨v0, vs0, d0, ds0, p0, q0, hargs, rfl, rfl, h0, r0⟩ := trodAll_cons hA
  obtain ⟨v1, vs1, d1, ds1, p1, q1, rfl, rfl, rfl, h1, r1⟩ := trodAll_cons r0
  obtain ⟨v2, vs2, d2, ds2, p2, q2, rfl, rfl, rfl, h2, r2⟩ := trodAll_cons r1
  obtain ⟨rfl, rfl, rfl⟩ := trodAll_nil r2
  obtain rfl : args = #[v0, v1, v2] := by cases args; simp_all
  obtain ⟨rfl, rfl⟩ := trodVars_none hV
  obtain ⟨A, n, c, l, rfl, _, hm, hl, hok⟩ := open_sl Tryz.underlying53 (s := 3) (by kernel_rfl) (by omega) (opens_im W) (hval 0 53 v0 rfl rfl) h0
  obtain ⟨Aa, na, ca, la, rfl, hac, ham, ha, _⟩ := open_sl Tryz.underlying22 (s := 4) (by kernel_rfl) (by omega) (opens_lv W) (hval 1 22 v1 rfl rfl) h1
  obtain ⟨Ab, nb, cb, lb, rfl, hbc, hbm, hb, _⟩ := open_sl Tryz.underlying22 (s := 4) (by kernel_rfl) (by omega) (opens_lv W) (hval 2 22 v2 rfl rfl) h2
  have hnc := hl.len
  refine (lists_law A n c l Aa na ca la Ab nb cb lb W (laid_gl5 hL) hl hok ha hb hac hbc).mono fun e W' ⟨he, hg⟩ => ?_
  subst he
  exact ⟨_, rfl, post_law laid_out (by rw [Tryz.params7]; intro t ht; simp at ht; rcases ht with rfl | rfl | rfl <;> exact ⟨by kernel_rfl, of_decide_eq_true (by kernel_rfl)⟩) hW rfl rfl rfl rfl Tryz.underlying4 (by kernel_rfl) hg⟩

theorem over : Rows.NumberingListsSaid :=
  OpenClaim.holds_of_wide 7 Tryz.f7 rfl rfl rfl rfl rfl rfl rfl ⟨rfl, rfl, rfl, rfl, rfl⟩ rfl rfl rfl rfl rfl (by kernel_rfl) Tryz.func7 (by kernel_rfl)
    (of_decide_eq_true (by kernel_rfl)) (by unfold Func.isWrapper; first | (rw [if_pos (by decide +kernel)]; kernel_rfl) | (rw [if_neg (by decide +kernel)]; exact ⟨rfl, rfl⟩))
    (fun os started H enc _ => lifted os started H enc)

theorem proved : Rows.NumberingListsCardSaid :=
  Claim7.holds_tied_plain_at .later [] [.data, .data, .data, .data, .data, .pinned, .pinned] true (true, "025dc4f841b8eb06e79601940bc12cb46c18f646f701f8b491cc8894fea64fec") false
    over (fun _ h => by cases h) (by kernel_rfl) (fun _ h => by cases h) numberingLists_row_tie rfl ⟨rfl, rfl⟩ (by kernel_rfl) rfl
    (fun f fn hf hfn => by
      obtain rfl : f = 7 := Option.some.inj ((show Tryz.prog.funcNamed "obelus/obeluslaw36.NumberingLists" = some 7 by kernel_rfl).symm.trans hf) |>.symm
      obtain rfl : fn = Tryz.f7 := (Option.some.inj (Tryz.func7.symm.trans hfn)).symm
      exact ⟨by kernel_rfl, fun j t ht => by
        rw [Tryz.params7] at ht
        have hm : t ∈ [53, 22, 22] := by simpa using Array.mem_of_getElem? ht
        have hall : ([53, 22, 22].all fun u => !Tryz.prog.wantsStandIn u) = true := by kernel_rfl
        exact (show Tryz.prog.wantsStandIn t = false by simpa using List.all_eq_true.1 hall t hm)⟩)
    (by kernel_rfl)
#print axioms proved
end Go.Proofs.YthbodpjkckminaaGreatDoor.numberingLists
