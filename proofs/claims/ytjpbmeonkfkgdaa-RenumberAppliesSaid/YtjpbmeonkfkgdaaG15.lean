/- known of chapter 37. -/
import Derived.Test.YtjpbmeonkfkgdaaG11
import Derived.Test.YtjpbmeonkfkgdaaG13
import Derived.Test.YtjpbmeonkfkgdaaG16
import Derived.Test.YtjpbmeonkfkgdaaH
namespace Go.Proofs.Ytjpbmeonkfkgdaa
open Go.RowKit

def kn2 : Eff := effF knL 2 1 0
def kn1 : Eff := effF knL 2 0 0
def knX : Eff := thenE knL 2 kn2 kn2
def knY0 : Eff := thenE knL 2 knX kn1
def knY : Eff := thenE knL 2 knY0 kn2
theorem kn_lv : LvOk 2 knL := by
  intro i hi
  rcases (show i = 0 ∨ i = 1 by omega) with rfl | rfl
  · exact ⟨by decide, by decide⟩
  · exact ⟨by decide, by decide⟩
theorem kn2_ok : ∀ i, ChOk 1 (kn2 i) := effF_ok knL 2 1 (by omega) (by omega)
theorem kn1_ok : ∀ i, ChOk 1 (kn1 i) := effF_ok knL 2 0 (by omega) (by omega)
theorem knX_ok : ∀ i, ChOk 2 (knX i) := thenE_ok kn_lv kn2_ok kn2_ok (by omega) (by omega)
theorem knY0_ok : ∀ i, ChOk 3 (knY0 i) := thenE_ok kn_lv knX_ok kn1_ok (by omega) (by omega)
theorem knX_1 : knX 1 = ⟨false, false, 0, 2⟩ := by decide +kernel
theorem knY_1 : knY 1 = ⟨true, true, 1, 0⟩ := by decide +kernel
theorem knY_0 : knY 0 = ⟨false, false, 0, 1⟩ := by decide +kernel
theorem kn_of2 : ofE knL 2 2 0 = 0 := by decide +kernel
theorem kn_of1 : ofE knL 2 1 0 = 0 := by decide +kernel
theorem kn_f2 : ofF knL 2 2 0 = kn2 := by unfold ofF; rw [if_pos kn_of2]; rfl
theorem kn_f1 : ofF knL 2 1 0 = kn1 := by unfold ofF; rw [if_pos kn_of1]; rfl
theorem fldL (v0 v1 v2 v3 : Value) (w : World) : (Instr.field 69 (.agg #[v0, v1, v2, v3]) 1).run Try.prog w = .ok v1 w := by kernel_rfl
theorem Blk.sl {α : Type} {w : World} {g : Nat} {t : TypeId} {s : Nat} {enc : α → List Value} {xs : List α} (h : Blk w g t (xs.flatMap enc).toArray) (henc : ∀ x : α, (enc x).length = s) : Sl w s enc (some ⟨g, 0, none⟩) xs.length xs := by
  refine ⟨rfl, fun _ => ⟨_, rfl, h.lt, fun i x hx j u hu => ?_⟩⟩
  have e : (⟨g, 0, none⟩ : Addr).add (i * s + j) = ⟨g, i * s + j, none⟩ := by unfold Addr.add; split <;> simp_all
  rw [e]
  exact h.cell _ (by simpa using getElem?_flat henc xs i x hx j u hu)
set_option maxHeartbeats 8000000 in
set_option maxRecDepth 100000 in
theorem known_any (w : World) : Calls Try.prog 10 #[] w fun e w' => e = .returned (.bool true) ∧ Below w.heap.size w w' := by
  have R0 := Below.refl w.heap.size w
  have hO2 := fun A W (h : Sl W 4 lvC A 2 knL) => of_any A 2 2 knL 2 0 W h
  have hO1 := fun A W (h : Sl W 4 lvC A 2 knL) => of_any A 2 2 knL 1 0 W h
  rw [kn_of2, kn_f2] at hO2
  rw [kn_of1, kn_f1] at hO1
  have hTX := fun A W (h : Sl W 4 lvC A 2 knL) => then_any A 2 2 knL kn2 kn2 1 1 W h (by omega) kn_lv kn2_ok kn2_ok (by omega) (by omega)
  have hT0 := fun A W (h : Sl W 4 lvC A 2 knL) => then_any A 2 2 knL knX kn1 2 1 W h (by omega) kn_lv knX_ok kn1_ok (by omega) (by omega)
  have hTY := fun A W (h : Sl W 4 lvC A 2 knL) => then_any A 2 2 knL knY0 kn2 3 1 W h (by omega) kn_lv knY0_ok kn2_ok (by omega) (by omega)
  have dX : thenE knL 2 kn2 kn2 = knX := rfl
  have dY0 : thenE knL 2 knX kn1 = knY0 := rfl
  have dY : thenE knL 2 knY0 kn2 = knY := rfl
  rw [dX] at hTX
  rw [dY0] at hT0
  rw [dY] at hTY
  clear dX dY0 dY
  go_enter Try.func10, Try.ntmps10
  go_upto_region 1 with fail
  go_cut [1] (fun v1 wx => ∃ gl, v1 = .slice (some ⟨gl, 0, none⟩) 2 2 ∧ Sl wx 4 lvC (some ⟨gl, 0, none⟩) 2 knL ∧ Below w.heap.size w wx)
  case first =>
    go_wp2_with (first | (go_at_call 18; refine (settings_any w).mono ?_; rintro e w1 ⟨v0, v2, v3, g, gl, q, rfl, hg, hgl, hb1⟩; have c1 : w1.cell? ⟨g, 1, none⟩ = some (.slice (some ⟨gl, 0, none⟩) 2 2) := hg.cell 1 rfl; have hfl := fldL v0 (.slice (some ⟨g, 0, none⟩) 2 2) v2 v3 w1))
    go_meet
    case rel => exact ⟨gl, rfl, hgl.sl lvC_len, hb1⟩
  case rest =>
  obtain ⟨gl, rfl, hs1, hb1⟩ := hcut
  have E1 := ES.nil_ wc
  go_upto_region 2 with fail
  go_cut [2, 3] (fun vp ve wx => ∃ p2, vp = .pointer (some ⟨p2, 0, none⟩) ∧ ve = .int .i64 0 ∧ ES wx ((p2, kn2) :: []) ∧ Sl wx 4 lvC (some ⟨gl, 0, none⟩) 2 knL ∧ Below w.heap.size w wx)
  case first =>
    go_wp2_with (first | (go_at_call 13; refine (hO2 _ _ hs1).mono ?_; rintro e w2 ⟨rfl, hb2⟩; have N2 := Blk.new w2 33 (effA effZ); have hA2 := bAlloc hb2 (.cells (effA effZ) 33); have hE := (E1.below hA2).row (E1.ne hb2.size) N2 kn2; have hS := hs1.below hA2; unfold Blk at N2) | (refine wpList_store_row rfl 33 _ _ rfl w2.heap.size _ rfl rfl 33 _ N2 (by kernel_rfl) rfl (effA_one _) ?_))
    go_meet
    case rel => exact ⟨_, rfl, rfl, hE, hs1.below (below_setRow hA2 hb2.size _), below_trans' hb1 hb1.size (below_setRow hA2 hb2.size _)⟩
  case rest =>
  obtain ⟨p2, rfl, rfl, E2, hs2, hb2⟩ := hcut
  clear hs1 hb1 E1
  have E1 := E2
  have hs1 := hs2
  have hb1 := hb2
  clear E2 hs2 hb2
  go_upto_region 3 with fail
  go_cut [4, 5] (fun vp ve wx => ∃ p4, vp = .pointer (some ⟨p4, 0, none⟩) ∧ ve = .int .i64 0 ∧ ES wx ((p4, kn1) :: [(p2, kn2)]) ∧ Sl wx 4 lvC (some ⟨gl, 0, none⟩) 2 knL ∧ Below w.heap.size w wx)
  case first =>
    go_wp2_with (first | (go_at_call 13; refine (hO1 _ _ hs1).mono ?_; rintro e w2 ⟨rfl, hb2⟩; have N2 := Blk.new w2 33 (effA effZ); have hA2 := bAlloc hb2 (.cells (effA effZ) 33); have hE := (E1.below hA2).row (E1.ne hb2.size) N2 kn1; have hS := hs1.below hA2; unfold Blk at N2) | (refine wpList_store_row rfl 33 _ _ rfl w2.heap.size _ rfl rfl 33 _ N2 (by kernel_rfl) rfl (effA_one _) ?_))
    go_meet
    case rel => exact ⟨_, rfl, rfl, hE, hs1.below (below_setRow hA2 hb2.size _), below_trans' hb1 hb1.size (below_setRow hA2 hb2.size _)⟩
  case rest =>
  obtain ⟨p4, rfl, rfl, E2, hs2, hb2⟩ := hcut
  clear hs1 hb1 E1
  have E1 := E2
  have hs1 := hs2
  have hb1 := hb2
  clear E2 hs2 hb2
  go_upto_region 4 with fail
  go_cut [6] (fun vp wx => ∃ p6, vp = .pointer (some ⟨p6, 0, none⟩) ∧ ES wx ((p6, knX) :: [(p4, kn1), (p2, kn2)]) ∧ Sl wx 4 lvC (some ⟨gl, 0, none⟩) 2 knL ∧ Below w.heap.size w wx)
  case first =>
    have b2 := E1 (p2, kn2) (by simp)
    unfold Blk at b2
    go_wp2_with (first | (go_at_call 12; refine (hTX _ _ hs1).mono ?_; rintro e w2 ⟨rfl, hb2⟩; have N2 := Blk.new w2 33 (effA effZ); have hA2 := bAlloc hb2 (.cells (effA effZ) 33); have hE := (E1.below hA2).row (E1.ne hb2.size) N2 knX; unfold Blk at N2) | (refine wpList_load_row rfl 33 _ rfl p2 rfl 33 _ (0, 0) _ b2 Try.underlying33 rfl (by kernel_rfl) ?_) | (refine wpList_store_row rfl 33 _ _ rfl w2.heap.size _ rfl rfl 33 _ N2 (by kernel_rfl) rfl (effA_one _) ?_))
    go_meet
    case rel => exact ⟨_, rfl, hE, hs1.below (below_setRow hA2 hb2.size _), below_trans' hb1 hb1.size (below_setRow hA2 hb2.size _)⟩
  case rest =>
  obtain ⟨p6, rfl, E2, hs2, hb2⟩ := hcut
  clear hs1 hb1 E1
  have hi36 := size33
  have hu33 := Try.underlying33
  have q6 := E2 (p6, knX) (by simp)
  have q4 := E2 (p4, kn1) (by simp)
  have q2 := E2 (p2, kn2) (by simp)
  have hc1 := at_below (fun W (hW : Below wc.heap.size wc W) => hT0 _ W (hs2.below hW))
  have hc2 := at_below (fun W (hW : Below wc.heap.size wc W) => hTY _ W (hs2.below hW))
  clear hO1 hO2 hTX hT0 hTY
  rw [effA_L, effA_L, effA_L] at hc1 hc2
  obtain ⟨l6, hl6⟩ : ∃ l, l = effL knX := ⟨_, rfl⟩
  obtain ⟨l4, hl4⟩ : ∃ l, l = effL kn1 := ⟨_, rfl⟩
  obtain ⟨l2, hl2⟩ : ∃ l, l = effL kn2 := ⟨_, rfl⟩
  obtain ⟨l0, hl0⟩ : ∃ l, l = effL knY0 := ⟨_, rfl⟩
  obtain ⟨l7, hl7⟩ : ∃ l, l = effL knY := ⟨_, rfl⟩
  have g_l6 := q6.range_ hl6
  have g_l4 := q4.range_ hl4
  have g_l2 := q2.range_ hl2
  simp only at g_l6 g_l4 g_l2
  rw [← hl6, ← hl4, ← hl0] at hc1
  rw [← hl0, ← hl2, ← hl7] at hc2
  have e6 : (Try.prog.info? 33).map (·.size) = some l6.length := by rw [hl6]; exact size33
  have e4 : (Try.prog.info? 33).map (·.size) = some l4.length := by rw [hl4]; exact size33
  have e2 : (Try.prog.info? 33).map (·.size) = some l2.length := by rw [hl2]; exact size33
  have e7 : l7.length = 36 := by rw [hl7]; rfl
  have e7i : (Try.prog.info? 33).map (·.size) = some l7.length := by rw [hl7]; exact size33
  have o7 : ∀ v ∈ l7, v.oneCell' = true := by rw [hl7]; exact effL_one knY
  have HL7 := Lib.hid hl7
  clear hl6 hl4 hl2 hl0 hl7 q6 q4 q2
  go_upto_region 5 with fail
  go_cut [7] (fun vp wx => ∃ p7, vp = .pointer (some ⟨p7, 0, none⟩) ∧ ES wx ((p7, knY) :: [(p6, knX), (p4, kn1), (p2, kn2)]) ∧ Sl wx 4 lvC (some ⟨gl, 0, none⟩) 2 knL ∧ Below w.heap.size w wx)
  case first =>
    have hle := Nat.le_refl wc.heap.size
    refine wp_region_held_drew (S := fun w' => w'.rangeAt p6 0 l6 ∧ w'.rangeAt p4 0 l4 ∧ w'.rangeAt p2 0 l2) (by kernel_rfl) (keepR3 g_l6 g_l4 g_l2 (by repeat (first | assumption | exact Below.refl _ _ | refine bDrew ?_ | refine below_drewN ?_ _ | refine bAlloc ?_ _ | refine bSetC ?_ (by assumption) _))) (fun hHeld => ?_)
    refine hx_take 0 (some 27) (.slice (some ⟨gl, 0, none⟩) 2 2) rfl (by kernel_rfl) (by kernel_rfl) (by kernel_rfl) (fun _ _ _ h => h) rfl (Or.inl ⟨by rfl, fun w hSw => by go_simp⟩) (by assumption) ?_
    try simp only [Act.put, List.setIfInBounds_toArray, List.set_cons_zero, List.set_cons_succ]
    refine hx_take 1 (some 28) (.slice (some ⟨gl, 0, none⟩) 2 2) rfl (by kernel_rfl) (by kernel_rfl) (by kernel_rfl) (fun _ _ _ h => h) rfl (Or.inl ⟨by rfl, fun w hSw => by go_simp⟩) (by assumption) ?_
    try simp only [Act.put, List.setIfInBounds_toArray, List.set_cons_zero, List.set_cons_succ]
    refine hx_take 2 (some 29) (.agg l6.toArray) rfl (by kernel_rfl) (by kernel_rfl) (by kernel_rfl) (fun _ _ _ h => h) rfl (yieldsIf_load_mid (by rfl) _ _ rfl p6 0 rfl l6 _ (fun w hSw => hSw.1) Try.underlying33 rfl (by assumption)) (by assumption) ?_
    try simp only [Act.put, List.setIfInBounds_toArray, List.set_cons_zero, List.set_cons_succ]
    refine hx_take 3 (some 30) (.agg l4.toArray) rfl (by kernel_rfl) (by kernel_rfl) (by kernel_rfl) (fun _ _ _ h => h) rfl (yieldsIf_load_mid (by rfl) _ _ rfl p4 0 rfl l4 _ (fun w hSw => hSw.2.1) Try.underlying33 rfl (by assumption)) (by assumption) ?_
    try simp only [Act.put, List.setIfInBounds_toArray, List.set_cons_zero, List.set_cons_succ]
    refine hx_take 5 (some 32) (.agg l2.toArray) rfl (by kernel_rfl) (by kernel_rfl) (by kernel_rfl) (fun _ _ _ h => h) rfl (yieldsIf_load_mid (by rfl) _ _ rfl p2 0 rfl l2 _ (fun w hSw => hSw.2.2) Try.underlying33 rfl (by assumption)) (by assumption) ?_
    try simp only [Act.put, List.setIfInBounds_toArray, List.set_cons_zero, List.set_cons_succ]
    refine hx2 4 7 (by kernel_rfl) ?_ ?_
    · refine hx_call 4 (some 31) _ _ _ _ rfl (by rfl) rfl (by go_simp) (hc1 (wc.drew) (by repeat (first | assumption | exact Below.refl _ _ | refine bDrew ?_ | refine below_drewN ?_ _ | refine bAlloc ?_ _ | refine bSetC ?_ (by assumption) _))) ?_
      rintro w9 ⟨bw9, Bw9⟩
      have Ew9 := (E2.drewN 1).below bw9
      have gw9 := Bw9.size
      refine ⟨by refine keepR3 g_l6 g_l4 g_l2 ?_; repeat (first | assumption | exact Below.refl _ _ | refine bDrew ?_ | refine below_drewN ?_ _ | refine bAlloc ?_ _ | refine bSetC ?_ (by assumption) _), ?_⟩
      try simp only [Act.put, List.setIfInBounds_toArray, List.set_cons_zero, List.set_cons_succ]
      refine hx2 6 7 (by kernel_rfl) ?_ ?_
      · refine hx_call 6 (some 33) _ _ _ _ rfl (by rfl) rfl (by go_simp) (hc2 (w9) (by repeat (first | assumption | exact Below.refl _ _ | refine bDrew ?_ | refine below_drewN ?_ _ | refine bAlloc ?_ _ | refine bSetC ?_ (by assumption) _))) ?_
        rintro w10 ⟨bw10, Bw10⟩
        have Ew10 := Ew9.below bw10
        have gw10 := Bw10.size
        refine ⟨by refine keepR3 g_l6 g_l4 g_l2 ?_; repeat (first | assumption | exact Below.refl _ _ | refine bDrew ?_ | refine below_drewN ?_ _ | refine bAlloc ?_ _ | refine bSetC ?_ (by assumption) _), ?_⟩
        try simp only [Act.put, List.setIfInBounds_toArray, List.set_cons_zero, List.set_cons_succ]
        refine hx1 7 (by kernel_rfl) ?_
        · refine hx_val 7 (some 7) (.pointer (some ⟨w10.heap.size, 0, none⟩)) ((w10).alloc (.cells (List.toArray (.bool false :: .bool false :: .int .i64 0 :: .int .i64 0 :: .bool false :: .bool false :: .int .i64 0 :: .int .i64 0 :: .bool false :: .bool false :: .int .i64 0 :: .int .i64 0 :: .bool false :: .bool false :: .int .i64 0 :: .int .i64 0 :: .bool false :: .bool false :: .int .i64 0 :: .int .i64 0 :: .bool false :: .bool false :: .int .i64 0 :: .int .i64 0 :: .bool false :: .bool false :: .int .i64 0 :: .int .i64 0 :: .bool false :: .bool false :: .int .i64 0 :: .int .i64 0 :: .bool false :: .bool false :: .int .i64 0 :: .int .i64 0 :: [])) 33)) rfl (by rfl) rfl (by rfl) (by refine keepR3 g_l6 g_l4 g_l2 ?_; repeat (first | assumption | exact Below.refl _ _ | refine bDrew ?_ | refine below_drewN ?_ _ | refine bAlloc ?_ _ | refine bSetC ?_ (by assumption) _)) ?_
          try simp only [Act.put, List.setIfInBounds_toArray, List.set_cons_zero, List.set_cons_succ]
          have NA : Blk ((w10).alloc (.cells (List.toArray (.bool false :: .bool false :: .int .i64 0 :: .int .i64 0 :: .bool false :: .bool false :: .int .i64 0 :: .int .i64 0 :: .bool false :: .bool false :: .int .i64 0 :: .int .i64 0 :: .bool false :: .bool false :: .int .i64 0 :: .int .i64 0 :: .bool false :: .bool false :: .int .i64 0 :: .int .i64 0 :: .bool false :: .bool false :: .int .i64 0 :: .int .i64 0 :: .bool false :: .bool false :: .int .i64 0 :: .int .i64 0 :: .bool false :: .bool false :: .int .i64 0 :: .int .i64 0 :: .bool false :: .bool false :: .int .i64 0 :: .int .i64 0 :: [])) 33)) (w10.heap.size) 33 (effA effZ) := Blk.new (w10) 33 (effA effZ)
          have EA := Ew10.below (bAlloc (Below.refl _ (w10)) (.cells (List.toArray (.bool false :: .bool false :: .int .i64 0 :: .int .i64 0 :: .bool false :: .bool false :: .int .i64 0 :: .int .i64 0 :: .bool false :: .bool false :: .int .i64 0 :: .int .i64 0 :: .bool false :: .bool false :: .int .i64 0 :: .int .i64 0 :: .bool false :: .bool false :: .int .i64 0 :: .int .i64 0 :: .bool false :: .bool false :: .int .i64 0 :: .int .i64 0 :: .bool false :: .bool false :: .int .i64 0 :: .int .i64 0 :: .bool false :: .bool false :: .int .i64 0 :: .int .i64 0 :: .bool false :: .bool false :: .int .i64 0 :: .int .i64 0 :: [])) 33))
          refine hx1 8 (by kernel_rfl) ?_
          · refine hx_store 8 33 (.tmp 7) (.tmp 33) (w10.heap.size) l7 rfl (by rfl) rfl rfl rfl rfl (by rw [e7]; exact NA.there_) e7i o7 (by have hgg := gw10; refine keepR3 g_l6 g_l4 g_l2 ?_; repeat (first | assumption | exact Below.refl _ _ | refine bDrew ?_ | refine below_drewN ?_ _ | refine bAlloc ?_ _ | refine bSetC ?_ (by assumption) _)) ?_
            try simp only [Act.put, List.setIfInBounds_toArray, List.set_cons_zero, List.set_cons_succ]
            refine wpAnyH_done (by kernel_rfl) ?_ _
            have hgg : wc.heap.size ≤ w10.heap.size := gw10
            have hEF := EA.store (E2.ne hgg) NA HL7.out
            have hBF : Below wc.heap.size wc (((w10).alloc (.cells (List.toArray (.bool false :: .bool false :: .int .i64 0 :: .int .i64 0 :: .bool false :: .bool false :: .int .i64 0 :: .int .i64 0 :: .bool false :: .bool false :: .int .i64 0 :: .int .i64 0 :: .bool false :: .bool false :: .int .i64 0 :: .int .i64 0 :: .bool false :: .bool false :: .int .i64 0 :: .int .i64 0 :: .bool false :: .bool false :: .int .i64 0 :: .int .i64 0 :: .bool false :: .bool false :: .int .i64 0 :: .int .i64 0 :: .bool false :: .bool false :: .int .i64 0 :: .int .i64 0 :: .bool false :: .bool false :: .int .i64 0 :: .int .i64 0 :: [])) 33)).setCells (w10.heap.size) 0 l7) := by repeat (first | assumption | exact Below.refl _ _ | refine bDrew ?_ | refine below_drewN ?_ _ | refine bAlloc ?_ _ | refine bSetC ?_ (by assumption) _)
            go_wp2_with fail
            go_meet
            case rel => exact ⟨_, rfl, hEF, hs2.below hBF, below_trans' hb2 hb2.size hBF⟩
      · refine hx_val 7 (some 7) (.pointer (some ⟨w9.heap.size, 0, none⟩)) ((w9).alloc (.cells (List.toArray (.bool false :: .bool false :: .int .i64 0 :: .int .i64 0 :: .bool false :: .bool false :: .int .i64 0 :: .int .i64 0 :: .bool false :: .bool false :: .int .i64 0 :: .int .i64 0 :: .bool false :: .bool false :: .int .i64 0 :: .int .i64 0 :: .bool false :: .bool false :: .int .i64 0 :: .int .i64 0 :: .bool false :: .bool false :: .int .i64 0 :: .int .i64 0 :: .bool false :: .bool false :: .int .i64 0 :: .int .i64 0 :: .bool false :: .bool false :: .int .i64 0 :: .int .i64 0 :: .bool false :: .bool false :: .int .i64 0 :: .int .i64 0 :: [])) 33)) rfl (by rfl) rfl (by rfl) (by refine keepR3 g_l6 g_l4 g_l2 ?_; repeat (first | assumption | exact Below.refl _ _ | refine bDrew ?_ | refine below_drewN ?_ _ | refine bAlloc ?_ _ | refine bSetC ?_ (by assumption) _)) ?_
        try simp only [Act.put, List.setIfInBounds_toArray, List.set_cons_zero, List.set_cons_succ]
        have NA : Blk ((w9).alloc (.cells (List.toArray (.bool false :: .bool false :: .int .i64 0 :: .int .i64 0 :: .bool false :: .bool false :: .int .i64 0 :: .int .i64 0 :: .bool false :: .bool false :: .int .i64 0 :: .int .i64 0 :: .bool false :: .bool false :: .int .i64 0 :: .int .i64 0 :: .bool false :: .bool false :: .int .i64 0 :: .int .i64 0 :: .bool false :: .bool false :: .int .i64 0 :: .int .i64 0 :: .bool false :: .bool false :: .int .i64 0 :: .int .i64 0 :: .bool false :: .bool false :: .int .i64 0 :: .int .i64 0 :: .bool false :: .bool false :: .int .i64 0 :: .int .i64 0 :: [])) 33)) (w9.heap.size) 33 (effA effZ) := Blk.new (w9) 33 (effA effZ)
        have EA := Ew9.below (bAlloc (Below.refl _ (w9)) (.cells (List.toArray (.bool false :: .bool false :: .int .i64 0 :: .int .i64 0 :: .bool false :: .bool false :: .int .i64 0 :: .int .i64 0 :: .bool false :: .bool false :: .int .i64 0 :: .int .i64 0 :: .bool false :: .bool false :: .int .i64 0 :: .int .i64 0 :: .bool false :: .bool false :: .int .i64 0 :: .int .i64 0 :: .bool false :: .bool false :: .int .i64 0 :: .int .i64 0 :: .bool false :: .bool false :: .int .i64 0 :: .int .i64 0 :: .bool false :: .bool false :: .int .i64 0 :: .int .i64 0 :: .bool false :: .bool false :: .int .i64 0 :: .int .i64 0 :: [])) 33))
        refine hx1 6 (by kernel_rfl) ?_
        · refine hx_call 6 (some 33) _ _ _ _ rfl (by rfl) rfl (by go_simp) (hc2 ((w9).alloc (.cells (List.toArray (.bool false :: .bool false :: .int .i64 0 :: .int .i64 0 :: .bool false :: .bool false :: .int .i64 0 :: .int .i64 0 :: .bool false :: .bool false :: .int .i64 0 :: .int .i64 0 :: .bool false :: .bool false :: .int .i64 0 :: .int .i64 0 :: .bool false :: .bool false :: .int .i64 0 :: .int .i64 0 :: .bool false :: .bool false :: .int .i64 0 :: .int .i64 0 :: .bool false :: .bool false :: .int .i64 0 :: .int .i64 0 :: .bool false :: .bool false :: .int .i64 0 :: .int .i64 0 :: .bool false :: .bool false :: .int .i64 0 :: .int .i64 0 :: [])) 33)) (by repeat (first | assumption | exact Below.refl _ _ | refine bDrew ?_ | refine below_drewN ?_ _ | refine bAlloc ?_ _ | refine bSetC ?_ (by assumption) _))) ?_
          rintro w10 ⟨bw10, Bw10⟩
          have Ew10 := EA.below bw10
          have gw10 := Bw10.size
          have Nw10 := NA.below bw10
          refine ⟨by refine keepR3 g_l6 g_l4 g_l2 ?_; repeat (first | assumption | exact Below.refl _ _ | refine bDrew ?_ | refine below_drewN ?_ _ | refine bAlloc ?_ _ | refine bSetC ?_ (by assumption) _), ?_⟩
          try simp only [Act.put, List.setIfInBounds_toArray, List.set_cons_zero, List.set_cons_succ]
          refine hx1 8 (by kernel_rfl) ?_
          · refine hx_store 8 33 (.tmp 7) (.tmp 33) (w9.heap.size) l7 rfl (by rfl) rfl rfl rfl rfl (by rw [e7]; exact Nw10.there_) e7i o7 (by have hgg := gw9; refine keepR3 g_l6 g_l4 g_l2 ?_; repeat (first | assumption | exact Below.refl _ _ | refine bDrew ?_ | refine below_drewN ?_ _ | refine bAlloc ?_ _ | refine bSetC ?_ (by assumption) _)) ?_
            try simp only [Act.put, List.setIfInBounds_toArray, List.set_cons_zero, List.set_cons_succ]
            refine wpAnyH_done (by kernel_rfl) ?_ _
            have hgg : wc.heap.size ≤ w9.heap.size := gw9
            have hEF := Ew10.store (E2.ne hgg) Nw10 HL7.out
            have hBF : Below wc.heap.size wc ((w10).setCells (w9.heap.size) 0 l7) := by repeat (first | assumption | exact Below.refl _ _ | refine bDrew ?_ | refine below_drewN ?_ _ | refine bAlloc ?_ _ | refine bSetC ?_ (by assumption) _)
            go_wp2_with fail
            go_meet
            case rel => exact ⟨_, rfl, hEF, hs2.below hBF, below_trans' hb2 hb2.size hBF⟩
    · refine hx_val 7 (some 7) (.pointer (some ⟨wc.heap.size, 0, none⟩)) ((wc.drew).alloc (.cells (List.toArray (.bool false :: .bool false :: .int .i64 0 :: .int .i64 0 :: .bool false :: .bool false :: .int .i64 0 :: .int .i64 0 :: .bool false :: .bool false :: .int .i64 0 :: .int .i64 0 :: .bool false :: .bool false :: .int .i64 0 :: .int .i64 0 :: .bool false :: .bool false :: .int .i64 0 :: .int .i64 0 :: .bool false :: .bool false :: .int .i64 0 :: .int .i64 0 :: .bool false :: .bool false :: .int .i64 0 :: .int .i64 0 :: .bool false :: .bool false :: .int .i64 0 :: .int .i64 0 :: .bool false :: .bool false :: .int .i64 0 :: .int .i64 0 :: [])) 33)) rfl (by rfl) rfl (by rfl) (by refine keepR3 g_l6 g_l4 g_l2 ?_; repeat (first | assumption | exact Below.refl _ _ | refine bDrew ?_ | refine below_drewN ?_ _ | refine bAlloc ?_ _ | refine bSetC ?_ (by assumption) _)) ?_
      try simp only [Act.put, List.setIfInBounds_toArray, List.set_cons_zero, List.set_cons_succ]
      have NA : Blk ((wc.drew).alloc (.cells (List.toArray (.bool false :: .bool false :: .int .i64 0 :: .int .i64 0 :: .bool false :: .bool false :: .int .i64 0 :: .int .i64 0 :: .bool false :: .bool false :: .int .i64 0 :: .int .i64 0 :: .bool false :: .bool false :: .int .i64 0 :: .int .i64 0 :: .bool false :: .bool false :: .int .i64 0 :: .int .i64 0 :: .bool false :: .bool false :: .int .i64 0 :: .int .i64 0 :: .bool false :: .bool false :: .int .i64 0 :: .int .i64 0 :: .bool false :: .bool false :: .int .i64 0 :: .int .i64 0 :: .bool false :: .bool false :: .int .i64 0 :: .int .i64 0 :: [])) 33)) (wc.heap.size) 33 (effA effZ) := Blk.new (wc.drew) 33 (effA effZ)
      have EA := (E2.drewN 1).below (bAlloc (Below.refl _ (wc.drew)) (.cells (List.toArray (.bool false :: .bool false :: .int .i64 0 :: .int .i64 0 :: .bool false :: .bool false :: .int .i64 0 :: .int .i64 0 :: .bool false :: .bool false :: .int .i64 0 :: .int .i64 0 :: .bool false :: .bool false :: .int .i64 0 :: .int .i64 0 :: .bool false :: .bool false :: .int .i64 0 :: .int .i64 0 :: .bool false :: .bool false :: .int .i64 0 :: .int .i64 0 :: .bool false :: .bool false :: .int .i64 0 :: .int .i64 0 :: .bool false :: .bool false :: .int .i64 0 :: .int .i64 0 :: .bool false :: .bool false :: .int .i64 0 :: .int .i64 0 :: [])) 33))
      refine hx1 4 (by kernel_rfl) ?_
      · refine hx_call 4 (some 31) _ _ _ _ rfl (by rfl) rfl (by go_simp) (hc1 ((wc.drew).alloc (.cells (List.toArray (.bool false :: .bool false :: .int .i64 0 :: .int .i64 0 :: .bool false :: .bool false :: .int .i64 0 :: .int .i64 0 :: .bool false :: .bool false :: .int .i64 0 :: .int .i64 0 :: .bool false :: .bool false :: .int .i64 0 :: .int .i64 0 :: .bool false :: .bool false :: .int .i64 0 :: .int .i64 0 :: .bool false :: .bool false :: .int .i64 0 :: .int .i64 0 :: .bool false :: .bool false :: .int .i64 0 :: .int .i64 0 :: .bool false :: .bool false :: .int .i64 0 :: .int .i64 0 :: .bool false :: .bool false :: .int .i64 0 :: .int .i64 0 :: [])) 33)) (by repeat (first | assumption | exact Below.refl _ _ | refine bDrew ?_ | refine below_drewN ?_ _ | refine bAlloc ?_ _ | refine bSetC ?_ (by assumption) _))) ?_
        rintro w9 ⟨bw9, Bw9⟩
        have Ew9 := EA.below bw9
        have gw9 := Bw9.size
        have Nw9 := NA.below bw9
        refine ⟨by refine keepR3 g_l6 g_l4 g_l2 ?_; repeat (first | assumption | exact Below.refl _ _ | refine bDrew ?_ | refine below_drewN ?_ _ | refine bAlloc ?_ _ | refine bSetC ?_ (by assumption) _), ?_⟩
        try simp only [Act.put, List.setIfInBounds_toArray, List.set_cons_zero, List.set_cons_succ]
        refine hx1 6 (by kernel_rfl) ?_
        · refine hx_call 6 (some 33) _ _ _ _ rfl (by rfl) rfl (by go_simp) (hc2 (w9) (by repeat (first | assumption | exact Below.refl _ _ | refine bDrew ?_ | refine below_drewN ?_ _ | refine bAlloc ?_ _ | refine bSetC ?_ (by assumption) _))) ?_
          rintro w10 ⟨bw10, Bw10⟩
          have Ew10 := Ew9.below bw10
          have gw10 := Bw10.size
          have Nw10 := Nw9.below bw10
          refine ⟨by refine keepR3 g_l6 g_l4 g_l2 ?_; repeat (first | assumption | exact Below.refl _ _ | refine bDrew ?_ | refine below_drewN ?_ _ | refine bAlloc ?_ _ | refine bSetC ?_ (by assumption) _), ?_⟩
          try simp only [Act.put, List.setIfInBounds_toArray, List.set_cons_zero, List.set_cons_succ]
          refine hx1 8 (by kernel_rfl) ?_
          · refine hx_store 8 33 (.tmp 7) (.tmp 33) (wc.heap.size) l7 rfl (by rfl) rfl rfl rfl rfl (by rw [e7]; exact Nw10.there_) e7i o7 (by have hgg := hle; refine keepR3 g_l6 g_l4 g_l2 ?_; repeat (first | assumption | exact Below.refl _ _ | refine bDrew ?_ | refine below_drewN ?_ _ | refine bAlloc ?_ _ | refine bSetC ?_ (by assumption) _)) ?_
            try simp only [Act.put, List.setIfInBounds_toArray, List.set_cons_zero, List.set_cons_succ]
            refine wpAnyH_done (by kernel_rfl) ?_ _
            have hgg : wc.heap.size ≤ wc.heap.size := hle
            have hEF := Ew10.store (E2.ne hgg) Nw10 HL7.out
            have hBF : Below wc.heap.size wc ((w10).setCells (wc.heap.size) 0 l7) := by repeat (first | assumption | exact Below.refl _ _ | refine bDrew ?_ | refine below_drewN ?_ _ | refine bAlloc ?_ _ | refine bSetC ?_ (by assumption) _)
            go_wp2_with fail
            go_meet
            case rel => exact ⟨_, rfl, hEF, hs2.below hBF, below_trans' hb2 hb2.size hBF⟩
  case rest =>
  obtain ⟨p7, rfl, E3, hs3, hb3⟩ := hcut
  have x1 := (E3 (p6, knX) (by simp)).eff (k := 1) (by omega)
  have y1 := (E3 (p7, knY) (by simp)).eff (k := 1) (by omega)
  have y0 := (E3 (p7, knY) (by simp)).eff (k := 0) (by omega)
  simp only [knX_1, knY_1, knY_0, Nat.one_mul, Nat.zero_mul, Nat.zero_add, Nat.reduceAdd] at x1 y1 y0
  obtain ⟨x10, x11, x12, x13⟩ := x1
  obtain ⟨y10, y11, y12, y13⟩ := y1
  obtain ⟨y00, y01, y02, y03⟩ := y0
  have sc := stoodCh
  go_wp2_with fail
  go_ret
  exact ⟨rfl, hb3⟩
end Go.Proofs.Ytjpbmeonkfkgdaa
