/- renumber.checkMark, Of. -/
import Derived.Test.YtjpbmeonkfkgdaaG3
namespace Go.Proofs.Ytjpbmeonkfkgdaa
open Go.RowKit

section
variable {P : Program}
theorem results_cell_tmp {fn : Func} {p q : Tmp} {ty : TypeId} (h : fn.results = #[.cell p ty, .tmp q]) (tmps : Array Value) (w : World) (g : Nat) (t : TypeId) (cs : Array Value) (fr : Nat × Nat) (d : TypeDesc)
    (hp : tmps.getD p undef = .pointer (some ⟨g, 0, none⟩)) (hg : w.heap[g]? = some (.cells cs t fr))
    (hu : P.underlying ty = some d) (hd : (match d with | .struct _ | .array _ _ => true | _ => false) = true) (hi : (P.info? ty).map (·.size) = some cs.size) :
    (results fn tmps).run P w = .ok (.tuple #[.agg cs, tmps.getD q undef]) w := by
  have hp' : tmps[p]?.getD undef = .pointer (some ⟨g, 0, none⟩) := by simpa using hp
  simp [results, h, hp', asAddr, run_loadVar_row w g t ty cs fr d hg hu hd hi]
end
def mkE (n : Nat) (level restart : Int) : Int := if level < 1 ∨ (n : Int) < level then 2 else if restart < 0 ∨ 32767 < restart then 5 else 0
def ofE (ls : List Lv) (n : Nat) (level restart : Int) : Int := if clE ls ≠ 0 then clE ls else mkE n level restart
def ofF (ls : List Lv) (n : Nat) (level restart : Int) : Eff := if ofE ls n level restart = 0 then effF ls n (level - 1).toNat restart else effZ
theorem clE_len {ls : List Lv} (h : clE ls = 0) : 0 < ls.length ∧ ls.length ≤ 9 := by
  unfold clE at h
  by_cases h0 : ls.length = 0
  · rw [if_pos h0] at h; omega
  · rw [if_neg h0] at h
    by_cases h9 : 9 < ls.length
    · rw [if_pos h9] at h; omega
    · omega
set_option maxHeartbeats 2000000 in
theorem checkMark_any (A : Option Addr) (n c : Nat) (level restart : Int) (w : World) :
    Calls Try.prog 21 #[.slice A n c, .int .i64 level, .int .i64 restart] w fun e w' => e = .returned (.int .i64 (mkE n level restart)) ∧ w' = w := by
  have HM := Lib.hid (show mkE n level restart = if level < 1 ∨ (n : Int) < level then 2 else if restart < 0 ∨ 32767 < restart then 5 else 0 from rfl)
  by_cases h1 : level < 1
  · go_enter Try.func21, Try.ntmps21
    go_wp2_with fail
    go_ret
    exact ⟨ret_int (by rw [HM.out, if_pos (.inl h1)]), rfl⟩
  by_cases h2 : (n : Int) < level
  · go_enter Try.func21, Try.ntmps21
    go_wp2_with fail
    go_ret
    exact ⟨ret_int (by rw [HM.out, if_pos (.inr h2)]), rfl⟩
  have HM2 := Lib.hid (HM.out.trans (if_neg (by omega)))
  clear HM
  by_cases h3 : restart < 0
  · go_enter Try.func21, Try.ntmps21
    go_wp2_with fail
    go_ret
    exact ⟨ret_int (by rw [HM2.out, if_pos (.inl h3)]), rfl⟩
  by_cases h4 : 32767 < restart
  · go_enter Try.func21, Try.ntmps21
    go_wp2_with fail
    go_ret
    exact ⟨ret_int (by rw [HM2.out, if_pos (.inr h4)]), rfl⟩
  go_enter Try.func21, Try.ntmps21
  go_wp2_with fail
  go_ret
  exact ⟨ret_int (by rw [HM2.out, if_neg (by omega)]), rfl⟩
set_option maxHeartbeats 8000000 in
set_option maxRecDepth 100000 in
theorem of_any (A : Option Addr) (n c : Nat) (ls : List Lv) (level restart : Int) (w : World) (ha : Sl w 4 lvC A n ls) :
    Calls Try.prog 13 #[.slice A n c, .int .i64 level, .int .i64 restart] w fun e w' => e = .returned (.tuple #[.agg (effA (ofF ls n level restart)), .int .i64 (ofE ls n level restart)]) ∧ Below w.heap.size w w' := by
  have hlen := ha.len
  have B0 := Blk.new w 33 (effA effZ)
  have hb0 := (Below.refl w.heap.size w).alloc (Nat.le_refl _) (.cells (effA effZ) 33)
  have HE := Lib.hid (show ofE ls n level restart = if clE ls ≠ 0 then clE ls else mkE n level restart from rfl)
  have HF := Lib.hid (show ofF ls n level restart = if ofE ls n level restart = 0 then effF ls n (level - 1).toNat restart else effZ from rfl)
  go_enter Try.func13, Try.ntmps13
  go_upto_region 0 with fail
  go_cut [6, 7] (fun v6 v7 wx => ∃ p6, v6 = .pointer (some ⟨p6, 0, none⟩) ∧ v7 = .int .i64 0 ∧ Blk wx p6 33 (effA effZ) ∧ w.heap.size ≤ p6 ∧ Below w.heap.size w wx)
  case first =>
    go_wp2_with fail
    go_meet
    case rel => exact ⟨_, rfl, rfl, B0, Nat.le_refl _, hb0⟩
  case rest =>
  obtain ⟨p6, rfl, rfl, B1, hp6, hb1⟩ := hcut
  clear B0 hb0
  have cl := checkLevels_any A n c ls wc (ha.below hb1)
  by_cases hc : clE ls = 0
  · rw [hc] at cl
    have hn := clE_len hc
    rw [hlen] at hn
    have HE2 := Lib.hid (HE.out.trans (if_neg (by rw [hc]; simp)))
    clear HE hc
    have cm := fun w1 => checkMark_any A n c level restart w1
    by_cases hm : mkE n level restart = 0
    · have hlv : 1 ≤ level ∧ level ≤ n := by
        unfold mkE at hm
        by_cases h1 : level < 1 ∨ (n : Int) < level
        · rw [if_pos h1] at hm; omega
        · omega
      rw [hm] at cm
      have HE3 := Lib.hid (HE2.out.trans hm)
      have HF2 := Lib.hid (HF.out.trans (if_pos HE3.out))
      obtain ⟨L, rfl⟩ : ∃ L : Nat, level = (L : Int) + 1 := ⟨(level - 1).toNat, by omega⟩
      have eL : ((L : Int) + 1 - 1).toNat = L := by omega
      rw [eL] at HF2
      have ef := fun w1 (ha1 : Sl w1 4 lvC A n ls) => effect_any A n c ls L restart w1 ha1 (by omega) (by omega)
      generalize effF ls n L restart = E at *
      clear hm hlv eL HE2 HF
      go_upto_region 7 with (first | (go_at_call 20; refine cl.mono ?_; rintro er w2 ⟨rfl, hb2⟩; have B2 := B1.below hb2; have hb2' := below_trans' hb1 hb1.size hb2) | (go_at_call 21; refine (cm _).mono ?_; rintro er w3 ⟨rfl, rfl⟩))
      go_wp2_with (first | (go_at_call 22; refine (ef _ (ha.below hb2')).mono ?_; rintro er w4 ⟨rfl, hb4⟩; have B4 := B2.below hb4; have B4' := B4; unfold Blk at B4') | (refine wpList_store_row rfl 33 _ _ rfl p6 _ rfl rfl 33 _ B4' (by kernel_rfl) rfl (effA_one _) ?_))
      refine bodyPost_ret (results_cell_tmp rfl _ _ p6 33 _ (0, 0) _ rfl (setRow_heap _ p6 _ _ _ _ B4') Try.underlying33 rfl (by kernel_rfl)) rfl ?_
      rw [HF2.out, HE3.out]
      exact ⟨rfl, below_setRow (below_trans' hb2' hb2'.size hb4) hp6 _⟩
    · have HE3 := Lib.hid HE2.out
      have HF2 := Lib.hid (HF.out.trans (if_neg (by rw [HE3.out]; exact hm)))
      generalize mkE n level restart = me at *
      clear HE2 HF
      go_wp2_with (first | (go_at_call 20; refine cl.mono ?_; rintro er w2 ⟨rfl, hb2⟩; have B2 := B1.below hb2; have hb2' := below_trans' hb1 hb1.size hb2; have B4' := B2; unfold Blk at B4') | (go_at_call 21; refine (cm _).mono ?_; rintro er w3 ⟨rfl, rfl⟩) | (refine wpList_store_row rfl 33 _ _ rfl p6 (effA effZ) rfl rfl 33 _ B4' (by kernel_rfl) rfl (effA_one _) ?_))
      refine bodyPost_ret (results_cell_tmp rfl _ _ p6 33 _ (0, 0) _ rfl (setRow_heap _ p6 _ _ _ _ B4') Try.underlying33 rfl (by kernel_rfl)) rfl ?_
      rw [HF2.out, HE3.out]
      exact ⟨rfl, below_setRow hb2' hp6 _⟩
  · have HE2 := Lib.hid (HE.out.trans (if_pos hc))
    have HF2 := Lib.hid (HF.out.trans (if_neg (by rw [HE2.out]; exact hc)))
    clear HE HF
    generalize clE ls = ce at *
    go_wp2_with (first | (go_at_call 20; refine cl.mono ?_; rintro er w2 ⟨rfl, hb2⟩; have B2 := B1.below hb2; have hb2' := below_trans' hb1 hb1.size hb2; have B4' := B2; unfold Blk at B4') | (refine wpList_store_row rfl 33 _ _ rfl p6 (effA effZ) rfl rfl 33 _ B4' (by kernel_rfl) rfl (effA_one _) ?_))
    refine bodyPost_ret (results_cell_tmp rfl _ _ p6 33 _ (0, 0) _ rfl (setRow_heap _ p6 _ _ _ _ B4') Try.underlying33 rfl (by kernel_rfl)) rfl ?_
    rw [HF2.out, HE2.out]
    exact ⟨rfl, below_setRow hb2' hp6 _⟩
end Go.Proofs.Ytjpbmeonkfkgdaa
