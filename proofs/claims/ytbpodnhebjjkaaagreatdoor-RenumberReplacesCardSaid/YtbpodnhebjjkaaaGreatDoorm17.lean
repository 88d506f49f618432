/- known of chapter 37. The law RenumberNew, the walk. -/
import Derived.Test.YtbpodnhebjjkaaaGreatDoorm16
import Derived.Test.YtbpodnhebjjkaaaGreatDoorm7
import Derived.Test.YtbpodnhebjjkaaaGreatDoorm9
import Derived.Test.YtbpodnhebjjkaaaGreatDoorm1
namespace Go.Proofs.YtbpodnhebjjkaaaGreatDoor
open Go.RowKit

def kn2 : Eff := effF knL 2 1 0
def kn1 : Eff := effF knL 2 0 0
def knX : Eff := thenE knL 2 kn2 kn2
def knY0 : Eff := thenE knL 2 knX kn1
def knY : Eff := thenE knL 2 knY0 kn2
theorem kn_lv : LvOk 2 knL := by
  intro i hi
  rcases (show i = 0 ∨ i = 1 by omega) with rfl | rfl
  · exact ⟨by decide, by decide⟩
  · exact ⟨by decide, by decide⟩
theorem kn2_ok : ∀ i, ChOk 1 (kn2 i) := effF_ok knL 2 1 (by omega) (by omega)
theorem kn1_ok : ∀ i, ChOk 1 (kn1 i) := effF_ok knL 2 0 (by omega) (by omega)
theorem knX_ok : ∀ i, ChOk 2 (knX i) := thenE_ok kn_lv kn2_ok kn2_ok (by omega) (by omega)
theorem knY0_ok : ∀ i, ChOk 3 (knY0 i) := thenE_ok kn_lv knX_ok kn1_ok (by omega) (by omega)
theorem knX_1 : knX 1 = ⟨false, false, 0, 2⟩ := by decide +kernel
theorem knY_1 : knY 1 = ⟨true, true, 1, 0⟩ := by decide +kernel
theorem knY_0 : knY 0 = ⟨false, false, 0, 1⟩ := by decide +kernel
theorem kn_of2 : ofE knL 2 2 0 = 0 := by decide +kernel
theorem kn_of1 : ofE knL 2 1 0 = 0 := by decide +kernel
theorem kn_f2 : ofF knL 2 2 0 = kn2 := by unfold ofF; rw [if_pos kn_of2]; rfl
theorem kn_f1 : ofF knL 2 1 0 = kn1 := by unfold ofF; rw [if_pos kn_of1]; rfl
theorem fldL (v0 v1 v2 v3 : Value) (w : World) : (Instr.field 40 (.agg #[v0, v1, v2, v3]) 1).run Tryz.prog w = .ok v1 w := by kernel_rfl
theorem Blk.sl {α : Type} {w : World} {g : Nat} {t : TypeId} {s : Nat} {enc : α → List Value} {xs : List α} (h : Blk w g t (xs.flatMap enc).toArray) (henc : ∀ x : α, (enc x).length = s) : Sl w s enc (some ⟨g, 0, none⟩) xs.length xs := by
  refine ⟨rfl, fun _ => ⟨_, rfl, h.lt, fun i x hx j u hu => ?_⟩⟩
  have e : (⟨g, 0, none⟩ : Addr).add (i * s + j) = ⟨g, i * s + j, none⟩ := by unfold Addr.add; split <;> simp_all
  rw [e]
  exact h.cell _ (by simpa using getElem?_flat henc xs i x hx j u hu)
set_option maxHeartbeats 8000000 in
set_option maxRecDepth 100000 in
theorem known_any (w : World) : Calls Tryz.prog 5 #[] w fun e w' => e = .returned (.bool true) ∧ Below w.heap.size w w' := by
  have R0 := Below.refl w.heap.size w
  have hO2 := fun A W (h : Sl W 4 lvC A 2 knL) => of_any A 2 2 knL 2 0 W h
  have hO1 := fun A W (h : Sl W 4 lvC A 2 knL) => of_any A 2 2 knL 1 0 W h
  rw [kn_of2, kn_f2] at hO2
  rw [kn_of1, kn_f1] at hO1
  have hTX := fun A W (h : Sl W 4 lvC A 2 knL) => then_any A 2 2 knL kn2 kn2 1 1 W h (by omega) kn_lv kn2_ok kn2_ok (by omega) (by omega)
  have hT0 := fun A W (h : Sl W 4 lvC A 2 knL) => then_any A 2 2 knL knX kn1 2 1 W h (by omega) kn_lv knX_ok kn1_ok (by omega) (by omega)
  have hTY := fun A W (h : Sl W 4 lvC A 2 knL) => then_any A 2 2 knL knY0 kn2 3 1 W h (by omega) kn_lv knY0_ok kn2_ok (by omega) (by omega)
  have dX : thenE knL 2 kn2 kn2 = knX := rfl
  have dY0 : thenE knL 2 knX kn1 = knY0 := rfl
  have dY : thenE knL 2 knY0 kn2 = knY := rfl
  rw [dX] at hTX
  rw [dY0] at hT0
  rw [dY] at hTY
  clear dX dY0 dY
  go_enter Tryz.func5, Tryz.ntmps5
  go_upto_region 1 with fail
  go_cut [1] (fun v1 wx => ∃ gl, v1 = .slice (some ⟨gl, 0, none⟩) 2 2 ∧ Sl wx 4 lvC (some ⟨gl, 0, none⟩) 2 knL ∧ Below w.heap.size w wx)
  case first =>
    go_wp2_with (first | (go_at_call 9; refine (settings_any w).mono ?_; rintro e w1 ⟨v0, v2, v3, g, gl, q, rfl, hg, hgl, hb1⟩; have c1 : w1.cell? ⟨g, 1, none⟩ = some (.slice (some ⟨gl, 0, none⟩) 2 2) := hg.cell 1 rfl; have hfl := fldL v0 (.slice (some ⟨g, 0, none⟩) 2 2) v2 v3 w1))
    go_meet
    case rel => exact ⟨gl, rfl, hgl.sl lvC_len, hb1⟩
  case rest =>
  obtain ⟨gl, rfl, hs1, hb1⟩ := hcut
  have E1 := ES.nil_ wc
  go_upto_region 2 with fail
  go_cut [2, 3] (fun vp ve wx => ∃ p2, vp = .pointer (some ⟨p2, 0, none⟩) ∧ ve = .int .i64 0 ∧ ES wx ((p2, kn2) :: []) ∧ Sl wx 4 lvC (some ⟨gl, 0, none⟩) 2 knL ∧ Below w.heap.size w wx)
  case first =>
    go_wp2_with (first | (go_at_call 13; refine (hO2 _ _ hs1).mono ?_; rintro e w2 ⟨rfl, hb2⟩; have N2 := Blk.new w2 51 (effA effZ); have hA2 := bAlloc hb2 (.cells (effA effZ) 51); have hE := (E1.below hA2).row (E1.ne hb2.size) N2 kn2; have hS := hs1.below hA2; unfold Blk at N2) | (refine wpList_store_row rfl 51 _ _ rfl w2.heap.size _ rfl rfl 51 _ N2 (by kernel_rfl) rfl (effA_one _) ?_))
    go_meet
    case rel => exact ⟨_, rfl, rfl, hE, hs1.below (below_setRow hA2 hb2.size _), below_trans' hb1 hb1.size (below_setRow hA2 hb2.size _)⟩
  case rest =>
  obtain ⟨p2, rfl, rfl, E2, hs2, hb2⟩ := hcut
  clear hs1 hb1 E1
  have E1 := E2
  have hs1 := hs2
  have hb1 := hb2
  clear E2 hs2 hb2
  go_upto_region 3 with fail
  go_cut [4, 5] (fun vp ve wx => ∃ p4, vp = .pointer (some ⟨p4, 0, none⟩) ∧ ve = .int .i64 0 ∧ ES wx ((p4, kn1) :: [(p2, kn2)]) ∧ Sl wx 4 lvC (some ⟨gl, 0, none⟩) 2 knL ∧ Below w.heap.size w wx)
  case first =>
    go_wp2_with (first | (go_at_call 13; refine (hO1 _ _ hs1).mono ?_; rintro e w2 ⟨rfl, hb2⟩; have N2 := Blk.new w2 51 (effA effZ); have hA2 := bAlloc hb2 (.cells (effA effZ) 51); have hE := (E1.below hA2).row (E1.ne hb2.size) N2 kn1; have hS := hs1.below hA2; unfold Blk at N2) | (refine wpList_store_row rfl 51 _ _ rfl w2.heap.size _ rfl rfl 51 _ N2 (by kernel_rfl) rfl (effA_one _) ?_))
    go_meet
    case rel => exact ⟨_, rfl, rfl, hE, hs1.below (below_setRow hA2 hb2.size _), below_trans' hb1 hb1.size (below_setRow hA2 hb2.size _)⟩
  case rest =>
  obtain ⟨p4, rfl, rfl, E2, hs2, hb2⟩ := hcut
  clear hs1 hb1 E1
  have E1 := E2
  have hs1 := hs2
  have hb1 := hb2
  clear E2 hs2 hb2
  go_upto_region 4 with fail
  go_cut [6] (fun vp wx => ∃ p6, vp = .pointer (some ⟨p6, 0, none⟩) ∧ ES wx ((p6, knX) :: [(p4, kn1), (p2, kn2)]) ∧ Sl wx 4 lvC (some ⟨gl, 0, none⟩) 2 knL ∧ Below w.heap.size w wx)
  case first =>
    have b2 := E1 (p2, kn2) (by simp)
    unfold Blk at b2
    go_wp2_with (first | (go_at_call 14; refine (hTX _ _ hs1).mono ?_; rintro e w2 ⟨rfl, hb2⟩; have N2 := Blk.new w2 51 (effA effZ); have hA2 := bAlloc hb2 (.cells (effA effZ) 51); have hE := (E1.below hA2).row (E1.ne hb2.size) N2 knX; unfold Blk at N2) | (refine wpList_load_row rfl 51 _ rfl p2 rfl 51 _ (0, 0) _ b2 Tryz.underlying51 rfl (by kernel_rfl) ?_) | (refine wpList_store_row rfl 51 _ _ rfl w2.heap.size _ rfl rfl 51 _ N2 (by kernel_rfl) rfl (effA_one _) ?_))
    go_meet
    case rel => exact ⟨_, rfl, hE, hs1.below (below_setRow hA2 hb2.size _), below_trans' hb1 hb1.size (below_setRow hA2 hb2.size _)⟩
  case rest =>
  obtain ⟨p6, rfl, E2, hs2, hb2⟩ := hcut
  clear hs1 hb1 E1
  have hi36 := size33
  have hu33 := Tryz.underlying51
  have q6 := E2 (p6, knX) (by simp)
  have q4 := E2 (p4, kn1) (by simp)
  have q2 := E2 (p2, kn2) (by simp)
  have hc1 := at_below (fun W (hW : Below wc.heap.size wc W) => hT0 _ W (hs2.below hW))
  have hc2 := at_below (fun W (hW : Below wc.heap.size wc W) => hTY _ W (hs2.below hW))
  clear hO1 hO2 hTX hT0 hTY
  rw [effA_L, effA_L, effA_L] at hc1 hc2
  obtain ⟨l6, hl6⟩ : ∃ l, l = effL knX := ⟨_, rfl⟩
  obtain ⟨l4, hl4⟩ : ∃ l, l = effL kn1 := ⟨_, rfl⟩
  obtain ⟨l2, hl2⟩ : ∃ l, l = effL kn2 := ⟨_, rfl⟩
  obtain ⟨l0, hl0⟩ : ∃ l, l = effL knY0 := ⟨_, rfl⟩
  obtain ⟨l7, hl7⟩ : ∃ l, l = effL knY := ⟨_, rfl⟩
  have g_l6 := q6.range_ hl6
  have g_l4 := q4.range_ hl4
  have g_l2 := q2.range_ hl2
  simp only at g_l6 g_l4 g_l2
  rw [← hl6, ← hl4, ← hl0] at hc1
  rw [← hl0, ← hl2, ← hl7] at hc2
  have e6 : (Tryz.prog.info? 51).map (·.size) = some l6.length := by rw [hl6]; exact size33
  have e4 : (Tryz.prog.info? 51).map (·.size) = some l4.length := by rw [hl4]; exact size33
  have e2 : (Tryz.prog.info? 51).map (·.size) = some l2.length := by rw [hl2]; exact size33
  have e7 : l7.length = 36 := by rw [hl7]; rfl
  have e7i : (Tryz.prog.info? 51).map (·.size) = some l7.length := by rw [hl7]; exact size33
  have o7 : ∀ v ∈ l7, v.oneCell' = true := by rw [hl7]; exact effL_one knY
  have HL7 := Lib.hid hl7
  clear hl6 hl4 hl2 hl0 hl7 q6 q4 q2
  go_upto_region 5 with fail
  go_cut [7] (fun vp wx => ∃ p7, vp = .pointer (some ⟨p7, 0, none⟩) ∧ ES wx ((p7, knY) :: [(p6, knX), (p4, kn1), (p2, kn2)]) ∧ Sl wx 4 lvC (some ⟨gl, 0, none⟩) 2 knL ∧ Below w.heap.size w wx)
  case first =>
    have hle := Nat.le_refl wc.heap.size
    refine wp_region_held_drew (S := fun w' => w'.rangeAt p6 0 l6 ∧ w'.rangeAt p4 0 l4 ∧ w'.rangeAt p2 0 l2) (by kernel_rfl) (keepR3 g_l6 g_l4 g_l2 (by repeat (first | assumption | exact Below.refl _ _ | refine bDrew ?_ | refine below_drewN ?_ _ | refine bAlloc ?_ _ | refine bSetC ?_ (by assumption) _))) (fun hHeld => ?_)
    refine hx_take 0 (some 27) (.slice (some ⟨gl, 0, none⟩) 2 2) rfl (by kernel_rfl) (by kernel_rfl) (by kernel_rfl) (fun _ _ _ h => h) rfl (Or.inl ⟨by rfl, fun w hSw => by go_simp⟩) (by assumption) ?_
    try simp only [Act.put, List.setIfInBounds_toArray, List.set_cons_zero, List.set_cons_succ]
    refine hx_take 1 (some 28) (.slice (some ⟨gl, 0, none⟩) 2 2) rfl (by kernel_rfl) (by kernel_rfl) (by kernel_rfl) (fun _ _ _ h => h) rfl (Or.inl ⟨by rfl, fun w hSw => by go_simp⟩) (by assumption) ?_
    try simp only [Act.put, List.setIfInBounds_toArray, List.set_cons_zero, List.set_cons_succ]
    refine hx_take 2 (some 29) (.agg l6.toArray) rfl (by kernel_rfl) (by kernel_rfl) (by kernel_rfl) (fun _ _ _ h => h) rfl (yieldsIf_load_mid (by rfl) _ _ rfl p6 0 rfl l6 _ (fun w hSw => hSw.1) Tryz.underlying51 rfl (by assumption)) (by assumption) ?_
    try simp only [Act.put, List.setIfInBounds_toArray, List.set_cons_zero, List.set_cons_succ]
    refine hx_take 3 (some 30) (.agg l4.toArray) rfl (by kernel_rfl) (by kernel_rfl) (by kernel_rfl) (fun _ _ _ h => h) rfl (yieldsIf_load_mid (by rfl) _ _ rfl p4 0 rfl l4 _ (fun w hSw => hSw.2.1) Tryz.underlying51 rfl (by assumption)) (by assumption) ?_
    try simp only [Act.put, List.setIfInBounds_toArray, List.set_cons_zero, List.set_cons_succ]
    refine hx_take 5 (some 32) (.agg l2.toArray) rfl (by kernel_rfl) (by kernel_rfl) (by kernel_rfl) (fun _ _ _ h => h) rfl (yieldsIf_load_mid (by rfl) _ _ rfl p2 0 rfl l2 _ (fun w hSw => hSw.2.2) Tryz.underlying51 rfl (by assumption)) (by assumption) ?_
    try simp only [Act.put, List.setIfInBounds_toArray, List.set_cons_zero, List.set_cons_succ]
    refine hx2 4 7 (by kernel_rfl) ?_ ?_
    · refine hx_call 4 (some 31) _ _ _ _ rfl (by rfl) rfl (by go_simp) (hc1 (wc.drew) (by repeat (first | assumption | exact Below.refl _ _ | refine bDrew ?_ | refine below_drewN ?_ _ | refine bAlloc ?_ _ | refine bSetC ?_ (by assumption) _))) ?_
      rintro w9 ⟨bw9, Bw9⟩
      have Ew9 := (E2.drewN 1).below bw9
      have gw9 := Bw9.size
      refine ⟨by refine keepR3 g_l6 g_l4 g_l2 ?_; repeat (first | assumption | exact Below.refl _ _ | refine bDrew ?_ | refine below_drewN ?_ _ | refine bAlloc ?_ _ | refine bSetC ?_ (by assumption) _), ?_⟩
      try simp only [Act.put, List.setIfInBounds_toArray, List.set_cons_zero, List.set_cons_succ]
      refine hx2 6 7 (by kernel_rfl) ?_ ?_
      · refine hx_call 6 (some 33) _ _ _ _ rfl (by rfl) rfl (by go_simp) (hc2 (w9) (by repeat (first | assumption | exact Below.refl _ _ | refine bDrew ?_ | refine below_drewN ?_ _ | refine bAlloc ?_ _ | refine bSetC ?_ (by assumption) _))) ?_
        rintro w10 ⟨bw10, Bw10⟩
        have Ew10 := Ew9.below bw10
        have gw10 := Bw10.size
        refine ⟨by refine keepR3 g_l6 g_l4 g_l2 ?_; repeat (first | assumption | exact Below.refl _ _ | refine bDrew ?_ | refine below_drewN ?_ _ | refine bAlloc ?_ _ | refine bSetC ?_ (by assumption) _), ?_⟩
        try simp only [Act.put, List.setIfInBounds_toArray, List.set_cons_zero, List.set_cons_succ]
        refine hx1 7 (by kernel_rfl) ?_
        · refine hx_val 7 (some 7) (.pointer (some ⟨w10.heap.size, 0, none⟩)) ((w10).alloc (.cells (List.toArray (.bool false :: .bool false :: .int .i64 0 :: .int .i64 0 :: .bool false :: .bool false :: .int .i64 0 :: .int .i64 0 :: .bool false :: .bool false :: .int .i64 0 :: .int .i64 0 :: .bool false :: .bool false :: .int .i64 0 :: .int .i64 0 :: .bool false :: .bool false :: .int .i64 0 :: .int .i64 0 :: .bool false :: .bool false :: .int .i64 0 :: .int .i64 0 :: .bool false :: .bool false :: .int .i64 0 :: .int .i64 0 :: .bool false :: .bool false :: .int .i64 0 :: .int .i64 0 :: .bool false :: .bool false :: .int .i64 0 :: .int .i64 0 :: [])) 51)) rfl (by rfl) rfl (by rfl) (by refine keepR3 g_l6 g_l4 g_l2 ?_; repeat (first | assumption | exact Below.refl _ _ | refine bDrew ?_ | refine below_drewN ?_ _ | refine bAlloc ?_ _ | refine bSetC ?_ (by assumption) _)) ?_
          try simp only [Act.put, List.setIfInBounds_toArray, List.set_cons_zero, List.set_cons_succ]
          have NA : Blk ((w10).alloc (.cells (List.toArray (.bool false :: .bool false :: .int .i64 0 :: .int .i64 0 :: .bool false :: .bool false :: .int .i64 0 :: .int .i64 0 :: .bool false :: .bool false :: .int .i64 0 :: .int .i64 0 :: .bool false :: .bool false :: .int .i64 0 :: .int .i64 0 :: .bool false :: .bool false :: .int .i64 0 :: .int .i64 0 :: .bool false :: .bool false :: .int .i64 0 :: .int .i64 0 :: .bool false :: .bool false :: .int .i64 0 :: .int .i64 0 :: .bool false :: .bool false :: .int .i64 0 :: .int .i64 0 :: .bool false :: .bool false :: .int .i64 0 :: .int .i64 0 :: [])) 51)) (w10.heap.size) 51 (effA effZ) := Blk.new (w10) 51 (effA effZ)
          have EA := Ew10.below (bAlloc (Below.refl _ (w10)) (.cells (List.toArray (.bool false :: .bool false :: .int .i64 0 :: .int .i64 0 :: .bool false :: .bool false :: .int .i64 0 :: .int .i64 0 :: .bool false :: .bool false :: .int .i64 0 :: .int .i64 0 :: .bool false :: .bool false :: .int .i64 0 :: .int .i64 0 :: .bool false :: .bool false :: .int .i64 0 :: .int .i64 0 :: .bool false :: .bool false :: .int .i64 0 :: .int .i64 0 :: .bool false :: .bool false :: .int .i64 0 :: .int .i64 0 :: .bool false :: .bool false :: .int .i64 0 :: .int .i64 0 :: .bool false :: .bool false :: .int .i64 0 :: .int .i64 0 :: [])) 51))
          refine hx1 8 (by kernel_rfl) ?_
          · refine hx_store 8 51 (.tmp 7) (.tmp 33) (w10.heap.size) l7 rfl (by rfl) rfl rfl rfl rfl (by rw [e7]; exact NA.there_) e7i o7 (by have hgg := gw10; refine keepR3 g_l6 g_l4 g_l2 ?_; repeat (first | assumption | exact Below.refl _ _ | refine bDrew ?_ | refine below_drewN ?_ _ | refine bAlloc ?_ _ | refine bSetC ?_ (by assumption) _)) ?_
            try simp only [Act.put, List.setIfInBounds_toArray, List.set_cons_zero, List.set_cons_succ]
            refine wpAnyH_done (by kernel_rfl) ?_ _
            have hgg : wc.heap.size ≤ w10.heap.size := gw10
            have hEF := EA.store (E2.ne hgg) NA HL7.out
            have hBF : Below wc.heap.size wc (((w10).alloc (.cells (List.toArray (.bool false :: .bool false :: .int .i64 0 :: .int .i64 0 :: .bool false :: .bool false :: .int .i64 0 :: .int .i64 0 :: .bool false :: .bool false :: .int .i64 0 :: .int .i64 0 :: .bool false :: .bool false :: .int .i64 0 :: .int .i64 0 :: .bool false :: .bool false :: .int .i64 0 :: .int .i64 0 :: .bool false :: .bool false :: .int .i64 0 :: .int .i64 0 :: .bool false :: .bool false :: .int .i64 0 :: .int .i64 0 :: .bool false :: .bool false :: .int .i64 0 :: .int .i64 0 :: .bool false :: .bool false :: .int .i64 0 :: .int .i64 0 :: [])) 51)).setCells (w10.heap.size) 0 l7) := by repeat (first | assumption | exact Below.refl _ _ | refine bDrew ?_ | refine below_drewN ?_ _ | refine bAlloc ?_ _ | refine bSetC ?_ (by assumption) _)
            go_wp2_with fail
            go_meet
            case rel => exact ⟨_, rfl, hEF, hs2.below hBF, below_trans' hb2 hb2.size hBF⟩
      · refine hx_val 7 (some 7) (.pointer (some ⟨w9.heap.size, 0, none⟩)) ((w9).alloc (.cells (List.toArray (.bool false :: .bool false :: .int .i64 0 :: .int .i64 0 :: .bool false :: .bool false :: .int .i64 0 :: .int .i64 0 :: .bool false :: .bool false :: .int .i64 0 :: .int .i64 0 :: .bool false :: .bool false :: .int .i64 0 :: .int .i64 0 :: .bool false :: .bool false :: .int .i64 0 :: .int .i64 0 :: .bool false :: .bool false :: .int .i64 0 :: .int .i64 0 :: .bool false :: .bool false :: .int .i64 0 :: .int .i64 0 :: .bool false :: .bool false :: .int .i64 0 :: .int .i64 0 :: .bool false :: .bool false :: .int .i64 0 :: .int .i64 0 :: [])) 51)) rfl (by rfl) rfl (by rfl) (by refine keepR3 g_l6 g_l4 g_l2 ?_; repeat (first | assumption | exact Below.refl _ _ | refine bDrew ?_ | refine below_drewN ?_ _ | refine bAlloc ?_ _ | refine bSetC ?_ (by assumption) _)) ?_
        try simp only [Act.put, List.setIfInBounds_toArray, List.set_cons_zero, List.set_cons_succ]
        have NA : Blk ((w9).alloc (.cells (List.toArray (.bool false :: .bool false :: .int .i64 0 :: .int .i64 0 :: .bool false :: .bool false :: .int .i64 0 :: .int .i64 0 :: .bool false :: .bool false :: .int .i64 0 :: .int .i64 0 :: .bool false :: .bool false :: .int .i64 0 :: .int .i64 0 :: .bool false :: .bool false :: .int .i64 0 :: .int .i64 0 :: .bool false :: .bool false :: .int .i64 0 :: .int .i64 0 :: .bool false :: .bool false :: .int .i64 0 :: .int .i64 0 :: .bool false :: .bool false :: .int .i64 0 :: .int .i64 0 :: .bool false :: .bool false :: .int .i64 0 :: .int .i64 0 :: [])) 51)) (w9.heap.size) 51 (effA effZ) := Blk.new (w9) 51 (effA effZ)
        have EA := Ew9.below (bAlloc (Below.refl _ (w9)) (.cells (List.toArray (.bool false :: .bool false :: .int .i64 0 :: .int .i64 0 :: .bool false :: .bool false :: .int .i64 0 :: .int .i64 0 :: .bool false :: .bool false :: .int .i64 0 :: .int .i64 0 :: .bool false :: .bool false :: .int .i64 0 :: .int .i64 0 :: .bool false :: .bool false :: .int .i64 0 :: .int .i64 0 :: .bool false :: .bool false :: .int .i64 0 :: .int .i64 0 :: .bool false :: .bool false :: .int .i64 0 :: .int .i64 0 :: .bool false :: .bool false :: .int .i64 0 :: .int .i64 0 :: .bool false :: .bool false :: .int .i64 0 :: .int .i64 0 :: [])) 51))
        refine hx1 6 (by kernel_rfl) ?_
        · refine hx_call 6 (some 33) _ _ _ _ rfl (by rfl) rfl (by go_simp) (hc2 ((w9).alloc (.cells (List.toArray (.bool false :: .bool false :: .int .i64 0 :: .int .i64 0 :: .bool false :: .bool false :: .int .i64 0 :: .int .i64 0 :: .bool false :: .bool false :: .int .i64 0 :: .int .i64 0 :: .bool false :: .bool false :: .int .i64 0 :: .int .i64 0 :: .bool false :: .bool false :: .int .i64 0 :: .int .i64 0 :: .bool false :: .bool false :: .int .i64 0 :: .int .i64 0 :: .bool false :: .bool false :: .int .i64 0 :: .int .i64 0 :: .bool false :: .bool false :: .int .i64 0 :: .int .i64 0 :: .bool false :: .bool false :: .int .i64 0 :: .int .i64 0 :: [])) 51)) (by repeat (first | assumption | exact Below.refl _ _ | refine bDrew ?_ | refine below_drewN ?_ _ | refine bAlloc ?_ _ | refine bSetC ?_ (by assumption) _))) ?_
          rintro w10 ⟨bw10, Bw10⟩
          have Ew10 := EA.below bw10
          have gw10 := Bw10.size
          have Nw10 := NA.below bw10
          refine ⟨by refine keepR3 g_l6 g_l4 g_l2 ?_; repeat (first | assumption | exact Below.refl _ _ | refine bDrew ?_ | refine below_drewN ?_ _ | refine bAlloc ?_ _ | refine bSetC ?_ (by assumption) _), ?_⟩
          try simp only [Act.put, List.setIfInBounds_toArray, List.set_cons_zero, List.set_cons_succ]
          refine hx1 8 (by kernel_rfl) ?_
          · refine hx_store 8 51 (.tmp 7) (.tmp 33) (w9.heap.size) l7 rfl (by rfl) rfl rfl rfl rfl (by rw [e7]; exact Nw10.there_) e7i o7 (by have hgg := gw9; refine keepR3 g_l6 g_l4 g_l2 ?_; repeat (first | assumption | exact Below.refl _ _ | refine bDrew ?_ | refine below_drewN ?_ _ | refine bAlloc ?_ _ | refine bSetC ?_ (by assumption) _)) ?_
            try simp only [Act.put, List.setIfInBounds_toArray, List.set_cons_zero, List.set_cons_succ]
            refine wpAnyH_done (by kernel_rfl) ?_ _
            have hgg : wc.heap.size ≤ w9.heap.size := gw9
            have hEF := Ew10.store (E2.ne hgg) Nw10 HL7.out
            have hBF : Below wc.heap.size wc ((w10).setCells (w9.heap.size) 0 l7) := by repeat (first | assumption | exact Below.refl _ _ | refine bDrew ?_ | refine below_drewN ?_ _ | refine bAlloc ?_ _ | refine bSetC ?_ (by assumption) _)
            go_wp2_with fail
            go_meet
            case rel => exact ⟨_, rfl, hEF, hs2.below hBF, below_trans' hb2 hb2.size hBF⟩
    · refine hx_val 7 (some 7) (.pointer (some ⟨wc.heap.size, 0, none⟩)) ((wc.drew).alloc (.cells (List.toArray (.bool false :: .bool false :: .int .i64 0 :: .int .i64 0 :: .bool false :: .bool false :: .int .i64 0 :: .int .i64 0 :: .bool false :: .bool false :: .int .i64 0 :: .int .i64 0 :: .bool false :: .bool false :: .int .i64 0 :: .int .i64 0 :: .bool false :: .bool false :: .int .i64 0 :: .int .i64 0 :: .bool false :: .bool false :: .int .i64 0 :: .int .i64 0 :: .bool false :: .bool false :: .int .i64 0 :: .int .i64 0 :: .bool false :: .bool false :: .int .i64 0 :: .int .i64 0 :: .bool false :: .bool false :: .int .i64 0 :: .int .i64 0 :: [])) 51)) rfl (by rfl) rfl (by rfl) (by refine keepR3 g_l6 g_l4 g_l2 ?_; repeat (first | assumption | exact Below.refl _ _ | refine bDrew ?_ | refine below_drewN ?_ _ | refine bAlloc ?_ _ | refine bSetC ?_ (by assumption) _)) ?_
      try simp only [Act.put, List.setIfInBounds_toArray, List.set_cons_zero, List.set_cons_succ]
      have NA : Blk ((wc.drew).alloc (.cells (List.toArray (.bool false :: .bool false :: .int .i64 0 :: .int .i64 0 :: .bool false :: .bool false :: .int .i64 0 :: .int .i64 0 :: .bool false :: .bool false :: .int .i64 0 :: .int .i64 0 :: .bool false :: .bool false :: .int .i64 0 :: .int .i64 0 :: .bool false :: .bool false :: .int .i64 0 :: .int .i64 0 :: .bool false :: .bool false :: .int .i64 0 :: .int .i64 0 :: .bool false :: .bool false :: .int .i64 0 :: .int .i64 0 :: .bool false :: .bool false :: .int .i64 0 :: .int .i64 0 :: .bool false :: .bool false :: .int .i64 0 :: .int .i64 0 :: [])) 51)) (wc.heap.size) 51 (effA effZ) := Blk.new (wc.drew) 51 (effA effZ)
      have EA := (E2.drewN 1).below (bAlloc (Below.refl _ (wc.drew)) (.cells (List.toArray (.bool false :: .bool false :: .int .i64 0 :: .int .i64 0 :: .bool false :: .bool false :: .int .i64 0 :: .int .i64 0 :: .bool false :: .bool false :: .int .i64 0 :: .int .i64 0 :: .bool false :: .bool false :: .int .i64 0 :: .int .i64 0 :: .bool false :: .bool false :: .int .i64 0 :: .int .i64 0 :: .bool false :: .bool false :: .int .i64 0 :: .int .i64 0 :: .bool false :: .bool false :: .int .i64 0 :: .int .i64 0 :: .bool false :: .bool false :: .int .i64 0 :: .int .i64 0 :: .bool false :: .bool false :: .int .i64 0 :: .int .i64 0 :: [])) 51))
      refine hx1 4 (by kernel_rfl) ?_
      · refine hx_call 4 (some 31) _ _ _ _ rfl (by rfl) rfl (by go_simp) (hc1 ((wc.drew).alloc (.cells (List.toArray (.bool false :: .bool false :: .int .i64 0 :: .int .i64 0 :: .bool false :: .bool false :: .int .i64 0 :: .int .i64 0 :: .bool false :: .bool false :: .int .i64 0 :: .int .i64 0 :: .bool false :: .bool false :: .int .i64 0 :: .int .i64 0 :: .bool false :: .bool false :: .int .i64 0 :: .int .i64 0 :: .bool false :: .bool false :: .int .i64 0 :: .int .i64 0 :: .bool false :: .bool false :: .int .i64 0 :: .int .i64 0 :: .bool false :: .bool false :: .int .i64 0 :: .int .i64 0 :: .bool false :: .bool false :: .int .i64 0 :: .int .i64 0 :: [])) 51)) (by repeat (first | assumption | exact Below.refl _ _ | refine bDrew ?_ | refine below_drewN ?_ _ | refine bAlloc ?_ _ | refine bSetC ?_ (by assumption) _))) ?_
        rintro w9 ⟨bw9, Bw9⟩
        have Ew9 := EA.below bw9
        have gw9 := Bw9.size
        have Nw9 := NA.below bw9
        refine ⟨by refine keepR3 g_l6 g_l4 g_l2 ?_; repeat (first | assumption | exact Below.refl _ _ | refine bDrew ?_ | refine below_drewN ?_ _ | refine bAlloc ?_ _ | refine bSetC ?_ (by assumption) _), ?_⟩
        try simp only [Act.put, List.setIfInBounds_toArray, List.set_cons_zero, List.set_cons_succ]
        refine hx1 6 (by kernel_rfl) ?_
        · refine hx_call 6 (some 33) _ _ _ _ rfl (by rfl) rfl (by go_simp) (hc2 (w9) (by repeat (first | assumption | exact Below.refl _ _ | refine bDrew ?_ | refine below_drewN ?_ _ | refine bAlloc ?_ _ | refine bSetC ?_ (by assumption) _))) ?_
          rintro w10 ⟨bw10, Bw10⟩
          have Ew10 := Ew9.below bw10
          have gw10 := Bw10.size
          have Nw10 := Nw9.below bw10
          refine ⟨by refine keepR3 g_l6 g_l4 g_l2 ?_; repeat (first | assumption | exact Below.refl _ _ | refine bDrew ?_ | refine below_drewN ?_ _ | refine bAlloc ?_ _ | refine bSetC ?_ (by assumption) _), ?_⟩
          try simp only [Act.put, List.setIfInBounds_toArray, List.set_cons_zero, List.set_cons_succ]
          refine hx1 8 (by kernel_rfl) ?_
          · refine hx_store 8 51 (.tmp 7) (.tmp 33) (wc.heap.size) l7 rfl (by rfl) rfl rfl rfl rfl (by rw [e7]; exact Nw10.there_) e7i o7 (by have hgg := hle; refine keepR3 g_l6 g_l4 g_l2 ?_; repeat (first | assumption | exact Below.refl _ _ | refine bDrew ?_ | refine below_drewN ?_ _ | refine bAlloc ?_ _ | refine bSetC ?_ (by assumption) _)) ?_
            try simp only [Act.put, List.setIfInBounds_toArray, List.set_cons_zero, List.set_cons_succ]
            refine wpAnyH_done (by kernel_rfl) ?_ _
            have hgg : wc.heap.size ≤ wc.heap.size := hle
            have hEF := Ew10.store (E2.ne hgg) Nw10 HL7.out
            have hBF : Below wc.heap.size wc ((w10).setCells (wc.heap.size) 0 l7) := by repeat (first | assumption | exact Below.refl _ _ | refine bDrew ?_ | refine below_drewN ?_ _ | refine bAlloc ?_ _ | refine bSetC ?_ (by assumption) _)
            go_wp2_with fail
            go_meet
            case rel => exact ⟨_, rfl, hEF, hs2.below hBF, below_trans' hb2 hb2.size hBF⟩
  case rest =>
  obtain ⟨p7, rfl, E3, hs3, hb3⟩ := hcut
  have x1 := (E3 (p6, knX) (by simp)).eff (k := 1) (by omega)
  have y1 := (E3 (p7, knY) (by simp)).eff (k := 1) (by omega)
  have y0 := (E3 (p7, knY) (by simp)).eff (k := 0) (by omega)
  simp only [knX_1, knY_1, knY_0, Nat.one_mul, Nat.zero_mul, Nat.zero_add, Nat.reduceAdd] at x1 y1 y0
  obtain ⟨x10, x11, x12, x13⟩ := x1
  obtain ⟨y10, y11, y12, y13⟩ := y1
  obtain ⟨y00, y01, y02, y03⟩ := y0
  have sc := stoodCh
  go_wp2_with fail
  go_ret
  exact ⟨rfl, hb3⟩
end Go.Proofs.YtbpodnhebjjkaaaGreatDoor

namespace Go.Proofs.YtbpodnhebjjkaaaGreatDoor
open Go.RowKit

theorem allE_zero {es : List LsE} {vs : List (List Lv)} {ms : List Mk} (h : allE es vs ms = 0) : lstE 0 (prL es vs) = 0 ∧ chkE es ms = 0 := by
  unfold allE at h
  by_cases h1 : lstE 0 (prL es vs) ≠ 0
  · rw [if_pos h1] at h; exact absurd h h1
  · rw [if_neg h1] at h
    exact ⟨Decidable.not_not.1 h1, h⟩
theorem SeqM.sqr {w : World} {p : Nat} {es : List LsE} {vs : List (List Lv)} {n : Nat} {ms : List Mk} (h : SeqM w p es vs n ms) : ∃ A c es' Bv k ck, SqR w p A n c es' vs Bv k ck ms ∧ idsL es' = idsL es ∧ ∀ k, (gE es' k).n = (gE es k).n := by
  obtain ⟨w1, A, c, es', Bv, k, ck, h1, h2, h3, h4, h5, h6, h7⟩ := h
  exact ⟨A, c, es', Bv, k, ck, ⟨h6, h1.below h5, _, h7⟩, h2, h3⟩
/-- agrees, told of a sequence and of the lists' errors. -/
theorem agrees_seq (p : Nat) (A : Option Addr) (n c : Nat) (es : List LsE) (vs : List (List Lv)) (AM : Option Addr) (m cm : Nat) (ms : List Mk) (w : World) (hg : Gl w) (h : SeqM w p es vs n ms) (ha : LsT w A n es vs) (hbig : n ≤ 1000000) (h0 : allE es vs ms = 0) (hm : Sl w 3 mkC AM m ms) (hmc : m ≤ cm) (hm1 : m ≤ 1000) :
    Calls Tryz.prog 8 #[.pointer (some ⟨p, 0, none⟩), .slice A n c, .slice AM m cm] w fun e w' => e = .returned (.bool true) ∧ Below w.heap.size w w' := by
  obtain ⟨A', c', es', Bv, k, ck, hq, hid, hn⟩ := h.sqr
  obtain ⟨hz, hc⟩ := allE_zero h0
  have hv : vs.length = es.length := by rw [ha.vl, ha.l.len]
  have hps := ids_pos hv hz
  exact agrees_any p A' n c' es' Bv k ck A c es vs AM m cm ms w hg hq hid hn ha hbig (ids_up hv hz) hps ⟨fun k hk => lvs_right hv hz (by rw [ha.vl]; exact hk), fun k hk => (ha.v k hk).len⟩ (mkIn_of hps hc) hm hmc hm1
theorem SeqM.below {w w' : World} {p : Nat} {es : List LsE} {vs : List (List Lv)} {n : Nat} {ms : List Mk} (h : SeqM w p es vs n ms) (hb : Below w.heap.size w w') : SeqM w' p es vs n ms := by
  obtain ⟨w1, A, c, es', Bv, k, ck, h1, h2, h3, h4, h5, h6, h7⟩ := h
  exact ⟨w1, A, c, es', Bv, k, ck, h1, h2, h3, h4, below_trans' h5 h5.size hb, h6.below hb, h7.below hb⟩

set_option maxHeartbeats 4000000 in
set_option maxRecDepth 100000 in
theorem renumberNew_any (A : Option Addr) (n c : Nat) (es : List LsE) (vs : List (List Lv)) (AM : Option Addr) (m cm : Nat) (ms : List Mk) (w : World) (hg : Gl w) (ha : LsT w A n es vs) (hm : Sl w 3 mkC AM m ms) (hmc : m ≤ cm) :
    Calls Tryz.prog 3 #[.slice A n c, .slice AM m cm] w fun e w' => e = .returned (.bool true) ∧ Below w.heap.size w w' := by
  have kn := known_any w
  have kn2 := fun W => known_any W
  by_cases hn4 : 4 < n
  · go_enter Tryz.func3, Tryz.ntmps3
    go_upto_region 2 with (first | (go_at_call 5; refine kn.mono ?_; rintro e w1 ⟨rfl, hb1⟩))
    have kn3 := kn2 w1
    go_wp2_with (first | (go_at_call 5; refine kn3.mono ?_; rintro e w2 ⟨rfl, hb2⟩))
    go_ret
    exact ⟨rfl, below_trans' hb1 hb1.size hb2⟩
  · by_cases hm30 : 30 < m
    · go_enter Tryz.func3, Tryz.ntmps3
      go_upto_region 2 with (first | (go_at_call 5; refine kn.mono ?_; rintro e w1 ⟨rfl, hb1⟩))
      have kn3 := kn2 w1
      go_wp2_with (first | (go_at_call 5; refine kn3.mono ?_; rintro e w2 ⟨rfl, hb2⟩))
      go_ret
      exact ⟨rfl, below_trans' hb1 hb1.size hb2⟩
    · have cN := Lib.hid (fun W (hb : Below w.heap.size w W) => new_any A n c es vs AM m cm ms W (ha.below hb) (by omega) (hm.below hb) (by omega) hmc)
      have cK := Lib.hid (fun W (hb : Below w.heap.size w W) => lcheck_any A n c es vs AM m cm ms W (ha.below hb) (by omega) (hm.below hb) (by omega))
      go_enter Tryz.func3, Tryz.ntmps3
      go_wp2_with (first | (go_at_call 5; refine kn.mono ?_; rintro e w1 ⟨rfl, hb1⟩))
      go_loopw [5] (fun vi wr => ∃ i : Nat, vi = .int .i64 i ∧ i ≤ n ∧ Below w.heap.size w wr) (fun vi _ => n - (intOf vi).toNat)
      case atStart => exact ⟨0, rfl, Nat.zero_le _, hb1⟩
      case round =>
        obtain ⟨i, rfl, hi, hbw⟩ := hrel
        clear kn kn2 hb1
        by_cases hlt : i < n
        · obtain ⟨ad, e, hl2, k0, k1⟩ := (ha.l.below hbw).ls hlt
          subst e
          generalize (gE es i).A = yA at *
          generalize (gE es i).n = yn at *
          generalize (gE es i).c = yc at *
          go_upto_region 6 with fail
          by_cases h12 : 12 < yn
          · have h12i : (12 : Int) < yn := by omega
            go_wp2_with fail
            go_ret
            exact ⟨rfl, hbw⟩
          · have h12i : ¬ (12 : Int) < yn := by omega
            go_wp2_with fail
            go_roundw
            case measure => rw [intOf, intOf]; omega
            case rel => exact ⟨i + 1, by simp, hlt, hbw⟩
        · have cN2 := cN.out wr hbw
          clear cN
          by_cases hz : allE es vs ms = 0
          · go_upto_region 9 with (first | (go_at_call 6; refine cN2.mono ?_; rintro e w3 ⟨hb3, ⟨hne, _⟩ | ⟨_, p, rfl, hpw, hq⟩⟩; (exact absurd hz hne)))
            have hb3w := below_trans' hbw hbw.size hb3
            have cK2 := cK.out w3 hb3w
            rw [hz] at cK2
            have cA := Lib.hid (fun W (hb : Below w3.heap.size w3 W) => agrees_seq p A n c es vs AM m cm ms W (hg.below (below_trans' hb3w hb3w.size hb)) (hq.below hb) (ha.below (below_trans' hb3w hb3w.size hb)) (by omega) hz (hm.below (below_trans' hb3w hb3w.size hb)) hmc (by omega))
            clear cN2 cK
            go_upto_region 12 with (first | (go_at_call 7; refine cK2.mono ?_; rintro e w4 ⟨rfl, hb4⟩))
            have cA2 := cA.out w4 hb4
            go_wp2_with (first | (go_at_call 8; refine cA2.mono ?_; rintro e w5 ⟨rfl, hb5⟩))
            go_ret
            have hb4w := below_trans' hb3w hb3w.size hb4
            exact ⟨rfl, below_trans' hb4w hb4w.size hb5⟩
          · go_upto_region 9 with (first | (go_at_call 6; refine cN2.mono ?_; rintro e w3 ⟨hb3, ⟨_, rfl⟩ | ⟨hne, _⟩⟩; (rotate_left; exact absurd hne hz)))
            have hb3w := below_trans' hbw hbw.size hb3
            have cK2 := cK.out w3 hb3w
            have bz : (allE es vs ms != 0) = true := bne_iff_ne.2 hz
            clear cN2 cK
            generalize allE es vs ms = ce at *
            go_wp2_with (first | (go_at_call 7; refine cK2.mono ?_; rintro e w4 ⟨rfl, hb4⟩))
            go_ret
            exact ⟨rfl, below_trans' hb3w hb3w.size hb4⟩
end Go.Proofs.YtbpodnhebjjkaaaGreatDoor
