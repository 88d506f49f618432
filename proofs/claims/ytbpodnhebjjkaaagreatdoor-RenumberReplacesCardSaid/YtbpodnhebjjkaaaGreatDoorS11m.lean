/- The law's counted, for marks of any list. -/
import Derived.Test.YtbpodnhebjjkaaaGreatDoorm15
namespace Go.Proofs.YtbpodnhebjjkaaaGreatDoor
open Go.RowKit

set_option maxHeartbeats 8000000 in
set_option maxRecDepth 100000 in
theorem countedS_any (A : Option Addr) (n cA : Nat) (ls : List Lv) (AM : Option Addr) (m cm : Nat) (ms : List Mk) (c : Cn) (K : Int) (w : World) (ha : Sl w 4 lvC A n ls) (hm : Sl w 3 mkC AM m ms) (id : Int) (hC : clE ls = 0) (hM : ∀ i, i < ms.length → (gM ms i).list = id → 1 ≤ (gM ms i).level ∧ (gM ms i).level ≤ n ∧ 0 ≤ (gM ms i).restart ∧ (gM ms i).restart ≤ 32767) (hm1 : m ≤ 1000) (hc : ∀ i, i ≤ ms.length → CnOk (K + i) (countC ls n c (selM (ms.take i) id))) (hK : K ≤ 1000000000) :
    Calls Tryz.prog 40 #[.slice A n cA, .agg (cnA c), .slice AM m cm, .int .i64 id] w fun e w' => e = .returned (.tuple #[.agg (cnA (countC ls n c (selM ms id))), .bool true]) ∧ Below w.heap.size w w' := by
  have hlm := hm.len
  have T0 := CW.new w c
  have hb0 := ((Below.refl w.heap.size w).alloc (Nat.le_refl _) (.cells (cnA c) 87)).alloc (by simp) (.cells (cnA cnZ) 87)
  have HMK := Lib.hid hM
  have HCO := Lib.hid (fun i hi => hc i (Nat.le_trans hi (Nat.le_refl ms.length)))
  rw [hlm] at HMK HCO
  have HCL := Lib.hid hC
  clear hM hC hc
  go_enter Tryz.func40, Tryz.ntmps40
  go_upto_region 0 with fail
  go_cut [5, 8, 9] (fun v5 v8 v9 wx => ∃ p5 p8, v5 = .pointer (some ⟨p5, 0, none⟩) ∧ v8 = .pointer (some ⟨p8, 0, none⟩) ∧ v9 = .bool false ∧ CW wx w.heap.size p5 p8 c ∧ Below w.heap.size w wx)
  case first =>
    go_wp2_with fail
    go_meet
    case rel => exact ⟨_, _, rfl, rfl, rfl, T0, hb0⟩
  case rest =>
  obtain ⟨p5, p8, rfl, rfl, rfl, T1, hb1⟩ := hcut
  clear T0 hb0
  go_wp2_with fail
  go_loopw [10] (fun vi wr => ∃ i : Nat, vi = .int .i64 i ∧ i ≤ m ∧ CW wr w.heap.size p5 p8 (countC ls n c (selM (ms.take i) id)) ∧ Below w.heap.size w wr) (fun vi _ => m - (intOf vi).toNat)
  case atStart => exact ⟨0, rfl, Nat.zero_le _, T1, hb1⟩
  case round =>
    obtain ⟨i, rfl, hi, T3, hbw⟩ := hrel
    clear T1 hb1
    by_cases hlt : i < m
    · obtain ⟨ad, e, hl2, k0, k1, k2⟩ := (hm.below hbw).mk_ hlt
      subst e
      have HT0 : countC ls n c (selM (ms.take (i + 1)) id) = if (gM ms i).list = id then nextC ls n (countC ls n c (selM (ms.take i) id)) ((gM ms i).level - 1).toNat (gM ms i).restart else countC ls n c (selM (ms.take i) id) := by
        rw [selM_take id (by omega)]
        by_cases h : (gM ms i).list = id
        · rw [if_pos h, if_pos h, countC_snoc]
        · rw [if_neg h, if_neg h]
      have mo := HMK.out i (by omega)
      have co := HCO.out i (by omega)
      generalize gM ms i = mk at *
      obtain ⟨mx, ml, mr⟩ := mk
      simp only at k0 k1 k2 mo HT0
      by_cases hid : mx = id
      case neg =>
        have HT1 := Lib.hid (HT0.trans (if_neg hid))
        have bx : (mx == id) = false := beq_eq_false_iff_ne.2 hid
        go_wp2_with fail
        go_roundw
        case measure => rw [intOf, intOf]; omega
        case rel => exact ⟨i + 1, by simp, by omega, by rw [HT1.out]; exact T3, hbw⟩
      have mo := mo hid
      have HT := HT0.trans (if_pos hid)
      clear HT0
      have hid2 := hid.symm
      clear hid
      subst hid2
      obtain ⟨L, rfl⟩ : ∃ L : Nat, ml = (L : Int) + 1 := ⟨(ml - 1).toNat, by omega⟩
      rw [show ((L : Int) + 1 - 1).toNat = L by omega] at HT
      have HT := Lib.hid HT
      have nx := nx_ok (ls := ls) (n := n) (L := L) (r := mr) HCL.out (by omega) (by omega) (by omega) co (by omega)
      have hnx := at_below (fun W (hW : Below wr.heap.size wr W) => next_any A n cA ls (countC ls n c (selM (ms.take i) id)) ((L : Int) + 1) mr W ((ha.below hbw).below hW))
      rw [nx.1, nx.2] at hnx
      obtain ⟨lc, hlc⟩ : ∃ l, l = cnL (countC ls n c (selM (ms.take i) id)) := ⟨_, rfl⟩
      obtain ⟨lN, hlN⟩ : ∃ l, l = cnL (nextC ls n (countC ls n c (selM (ms.take i) id)) L mr) := ⟨_, rfl⟩
      have g_lc := T3.b5.rangeN hlc
      rw [cnA_L, cnA_L, ← hlc, ← hlN] at hnx
      have i_lc : (Tryz.prog.info? 87).map (·.size) = some lc.length := by rw [hlc]; exact size48
      have i_lN : (Tryz.prog.info? 87).map (·.size) = some lN.length := by rw [hlN]; exact size48
      have e_lN : lN.length = 18 := by rw [hlN]; rfl
      have o_lN : ∀ v ∈ lN, v.oneCell' = true := by rw [hlN]; exact cnL_one _
      have H_lN := Lib.hid hlN
      clear hlc hlN nx co
      obtain ⟨ml, hml⟩ : ∃ x : Int, x = (L : Int) + 1 := ⟨_, rfl⟩
      rw [← hml] at k1 hnx
      have HML := Lib.hid hml
      clear hml
      go_upto_region 5 with fail
      refine wp_region_held_drew (S := fun w' => w'.rangeAt p5 0 lc ∧ w'.cell? ⟨(ad.add (i * 3)).block, (ad.add (i * 3)).off + 1, none⟩ = some (.int .i64 ml) ∧ w'.cell? ⟨(ad.add (i * 3)).block, (ad.add (i * 3)).off + 2, none⟩ = some (.int .i64 mr)) (by kernel_rfl) ⟨rangeAt_below (by repeat (first | assumption | exact Below.refl _ _ | refine bDrew ?_ | refine below_drewN ?_ _ | refine bAlloc ?_ _ | refine bSetC ?_ (by assumption) _)) g_lc, keep1 (by repeat (first | assumption | exact Below.refl _ _ | refine bDrew ?_ | refine below_drewN ?_ _ | refine bAlloc ?_ _ | refine bSetC ?_ (by assumption) _)) k1, keep1 (by repeat (first | assumption | exact Below.refl _ _ | refine bDrew ?_ | refine below_drewN ?_ _ | refine bAlloc ?_ _ | refine bSetC ?_ (by assumption) _)) k2⟩ (fun hHeld => ?_)
      refine hx_take 0 (some 27) _ rfl (by kernel_rfl) (by kernel_rfl) (by kernel_rfl) (fun _ _ _ h => h) rfl (Or.inl ⟨by rfl, fun w hSw => by first | (go_simp; done) | (go_simp; with_reducible rfl)⟩) (by assumption) ?_
      try simp only [Act.put, List.setIfInBounds_toArray, List.set_cons_zero, List.set_cons_succ]
      refine hx_take 1 (some 28) (.agg lc.toArray) rfl (by kernel_rfl) (by kernel_rfl) (by kernel_rfl) (fun _ _ _ h => h) rfl (yieldsIf_load_mid (by rfl) _ _ rfl p5 0 rfl lc _ (fun w hSw => hSw.1) Tryz.underlying87 rfl (by assumption)) (by assumption) ?_
      try simp only [Act.put, List.setIfInBounds_toArray, List.set_cons_zero, List.set_cons_succ]
      refine hx_take 2 (some 29) _ rfl (by kernel_rfl) (by kernel_rfl) (by kernel_rfl) (fun _ _ _ h => h) rfl (Or.inl ⟨by rfl, fun w hSw => by first | (go_simp; done) | (go_simp; with_reducible rfl)⟩) (by assumption) ?_
      try simp only [Act.put, List.setIfInBounds_toArray, List.set_cons_zero, List.set_cons_succ]
      refine hx_take 3 (some 30) _ rfl (by kernel_rfl) (by kernel_rfl) (by kernel_rfl) (fun _ _ _ h => h) rfl (Or.inl ⟨by rfl, fun w hSw => by first | (go_simp; done) | (go_simp; with_reducible rfl)⟩) (by assumption) ?_
      try simp only [Act.put, List.setIfInBounds_toArray, List.set_cons_zero, List.set_cons_succ]
      refine hx_take 7 (some 34) _ rfl (by kernel_rfl) (by kernel_rfl) (by kernel_rfl) (fun _ _ _ h => h) rfl (Or.inl ⟨by rfl, fun w hSw => by first | (go_simp; done) | (go_simp; with_reducible rfl)⟩) (by assumption) ?_
      try simp only [Act.put, List.setIfInBounds_toArray, List.set_cons_zero, List.set_cons_succ]
      refine hx_take 8 (some 35) _ rfl (by kernel_rfl) (by kernel_rfl) (by kernel_rfl) (fun _ _ _ h => h) rfl (Or.inl ⟨by rfl, fun w hSw => by first | (go_simp; done) | (go_simp; with_reducible rfl)⟩) (by assumption) ?_
      try simp only [Act.put, List.setIfInBounds_toArray, List.set_cons_zero, List.set_cons_succ]
      refine hx_take 4 (some 31) _ rfl (by kernel_rfl) (by kernel_rfl) (by kernel_rfl) (fun _ _ _ h => h) rfl (Or.inl ⟨by rfl, fun w hSw => by first | (go_simp; done) | (go_simp; with_reducible rfl)⟩) (by assumption) ?_
      try simp only [Act.put, List.setIfInBounds_toArray, List.set_cons_zero, List.set_cons_succ]
      refine hx_take 9 (some 36) _ rfl (by kernel_rfl) (by kernel_rfl) (by kernel_rfl) (fun _ _ _ h => h) rfl (Or.inl ⟨by rfl, fun w hSw => by first | (go_simp; done) | (go_simp; with_reducible rfl)⟩) (by assumption) ?_
      try simp only [Act.put, List.setIfInBounds_toArray, List.set_cons_zero, List.set_cons_succ]
      refine hx_take 5 (some 32) _ rfl (by kernel_rfl) (by kernel_rfl) (by kernel_rfl) (fun _ _ _ h => h) rfl (Or.inl ⟨by rfl, fun w hSw => by first | (go_simp; done) | (go_simp; with_reducible rfl)⟩) (by assumption) ?_
      try simp only [Act.put, List.setIfInBounds_toArray, List.set_cons_zero, List.set_cons_succ]
      refine hx_take 10 (some 37) _ rfl (by kernel_rfl) (by kernel_rfl) (by kernel_rfl) (fun _ _ _ h => h) rfl (Or.inl ⟨by rfl, fun w hSw => by first | (go_simp; done) | (go_simp; with_reducible rfl)⟩) (by assumption) ?_
      try simp only [Act.put, List.setIfInBounds_toArray, List.set_cons_zero, List.set_cons_succ]
      refine hx_take 6 (some 33) _ rfl (by kernel_rfl) (by kernel_rfl) (by kernel_rfl) (fun _ _ _ h => h) rfl (Or.inl ⟨by rfl, fun w hSw => by first | (go_simp; done) | (go_simp; with_reducible rfl)⟩) (by assumption) ?_
      try simp only [Act.put, List.setIfInBounds_toArray, List.set_cons_zero, List.set_cons_succ]
      refine hx_take 11 (some 38) _ rfl (by kernel_rfl) (by kernel_rfl) (by kernel_rfl) (fun _ _ _ h => h) rfl (Or.inl ⟨by rfl, fun w hSw => by first | (go_simp; done) | (go_simp; with_reducible rfl)⟩) (by assumption) ?_
      try simp only [Act.put, List.setIfInBounds_toArray, List.set_cons_zero, List.set_cons_succ]
      refine hx2 12 16 (by kernel_rfl) ?_ ?_
      · refine hx_call 12 (some 39) _ _ _ _ rfl (by rfl) rfl (by go_simp) (hnx (wr.drew) (by repeat (first | assumption | exact Below.refl _ _ | refine bDrew ?_ | refine below_drewN ?_ _ | refine bAlloc ?_ _ | refine bSetC ?_ (by assumption) _))) ?_
        rintro w9 ⟨b9, B9⟩
        have S9 : w9.rangeAt p5 0 lc ∧ w9.cell? ⟨(ad.add (i * 3)).block, (ad.add (i * 3)).off + 1, none⟩ = some (.int .i64 ml) ∧ w9.cell? ⟨(ad.add (i * 3)).block, (ad.add (i * 3)).off + 2, none⟩ = some (.int .i64 mr) := ⟨rangeAt_below (B9) g_lc, keep1 (B9) k1, keep1 (B9) k2⟩
        refine ⟨S9, ?_⟩
        try simp only [Act.put, List.setIfInBounds_toArray, List.set_cons_zero, List.set_cons_succ]
        refine hx_take 13 (some 26) _ rfl (by kernel_rfl) (by kernel_rfl) (by kernel_rfl) (fun _ _ _ h => h) rfl (Or.inl ⟨by rfl, fun w hSw => by first | (go_simp; done) | (go_simp; with_reducible rfl)⟩) (by assumption) ?_
        try simp only [Act.put, List.setIfInBounds_toArray, List.set_cons_zero, List.set_cons_succ]
        refine hx_take 14 (some 40) _ rfl (by kernel_rfl) (by kernel_rfl) (by kernel_rfl) (fun _ _ _ h => h) rfl (Or.inl ⟨by rfl, fun w hSw => by first | (go_simp; done) | (go_simp; with_reducible rfl)⟩) (by assumption) ?_
        try simp only [Act.put, List.setIfInBounds_toArray, List.set_cons_zero, List.set_cons_succ]
        refine hx_take 15 (some 41) _ rfl (by kernel_rfl) (by kernel_rfl) (by kernel_rfl) (fun _ _ _ h => h) rfl (Or.inl ⟨by rfl, fun w hSw => by first | (go_simp; done) | (go_simp; with_reducible rfl)⟩) (by assumption) ?_
        try simp only [Act.put, List.setIfInBounds_toArray, List.set_cons_zero, List.set_cons_succ]
        refine hx1 16 (by kernel_rfl) ?_
        refine hx_val 16 (some 11) (.pointer (some ⟨w9.heap.size, 0, none⟩)) ((w9).alloc (.cells (List.toArray (.int .i64 0 :: .int .i64 0 :: .int .i64 0 :: .int .i64 0 :: .int .i64 0 :: .int .i64 0 :: .int .i64 0 :: .int .i64 0 :: .int .i64 0 :: .bool false :: .bool false :: .bool false :: .bool false :: .bool false :: .bool false :: .bool false :: .bool false :: .bool false :: [])) 87)) rfl (by rfl) rfl (by rfl) ⟨rangeAt_below (by repeat (first | assumption | exact Below.refl _ _ | refine bDrew ?_ | refine below_drewN ?_ _ | refine bAlloc ?_ _ | refine bSetC ?_ (by assumption) _)) g_lc, keep1 (by repeat (first | assumption | exact Below.refl _ _ | refine bDrew ?_ | refine below_drewN ?_ _ | refine bAlloc ?_ _ | refine bSetC ?_ (by assumption) _)) k1, keep1 (by repeat (first | assumption | exact Below.refl _ _ | refine bDrew ?_ | refine below_drewN ?_ _ | refine bAlloc ?_ _ | refine bSetC ?_ (by assumption) _)) k2⟩ ?_
        try simp only [Act.put, List.setIfInBounds_toArray, List.set_cons_zero, List.set_cons_succ]
        have NA : Blk (w9.alloc (.cells (List.toArray (.int .i64 0 :: .int .i64 0 :: .int .i64 0 :: .int .i64 0 :: .int .i64 0 :: .int .i64 0 :: .int .i64 0 :: .int .i64 0 :: .int .i64 0 :: .bool false :: .bool false :: .bool false :: .bool false :: .bool false :: .bool false :: .bool false :: .bool false :: .bool false :: [])) 87)) w9.heap.size 87 (cnA cnZ) := Blk.new w9 87 (cnA cnZ)
        have TA := ((T3.drewN 1).below b9).below (bAlloc (Below.refl _ w9) (.cells (List.toArray (.int .i64 0 :: .int .i64 0 :: .int .i64 0 :: .int .i64 0 :: .int .i64 0 :: .int .i64 0 :: .int .i64 0 :: .int .i64 0 :: .int .i64 0 :: .bool false :: .bool false :: .bool false :: .bool false :: .bool false :: .bool false :: .bool false :: .bool false :: .bool false :: [])) 87))
        refine hx1 17 (by kernel_rfl) ?_
        have hgg : wr.heap.size ≤ w9.heap.size := B9.size
        have hBF : Below wr.heap.size wr ((w9.alloc (.cells (List.toArray (.int .i64 0 :: .int .i64 0 :: .int .i64 0 :: .int .i64 0 :: .int .i64 0 :: .int .i64 0 :: .int .i64 0 :: .int .i64 0 :: .int .i64 0 :: .bool false :: .bool false :: .bool false :: .bool false :: .bool false :: .bool false :: .bool false :: .bool false :: .bool false :: [])) 87)).setCells (w9.heap.size) 0 lN) := by repeat (first | assumption | exact Below.refl _ _ | refine bDrew ?_ | refine below_drewN ?_ _ | refine bAlloc ?_ _ | refine bSetC ?_ (by assumption) _)
        refine hx_store 17 87 (.tmp 11) (.tmp 40) (w9.heap.size) lN rfl (by rfl) rfl rfl rfl rfl (by rw [e_lN]; exact (NA).thereN) i_lN o_lN ⟨rangeAt_below (hBF) g_lc, keep1 (hBF) k1, keep1 (hBF) k2⟩ ?_
        try simp only [Act.put, List.setIfInBounds_toArray, List.set_cons_zero, List.set_cons_succ]
        have SF : ((w9.alloc (.cells (List.toArray (.int .i64 0 :: .int .i64 0 :: .int .i64 0 :: .int .i64 0 :: .int .i64 0 :: .int .i64 0 :: .int .i64 0 :: .int .i64 0 :: .int .i64 0 :: .bool false :: .bool false :: .bool false :: .bool false :: .bool false :: .bool false :: .bool false :: .bool false :: .bool false :: [])) 87)).setCells (w9.heap.size) 0 lN).rangeAt p5 0 lc ∧ ((w9.alloc (.cells (List.toArray (.int .i64 0 :: .int .i64 0 :: .int .i64 0 :: .int .i64 0 :: .int .i64 0 :: .int .i64 0 :: .int .i64 0 :: .int .i64 0 :: .int .i64 0 :: .bool false :: .bool false :: .bool false :: .bool false :: .bool false :: .bool false :: .bool false :: .bool false :: .bool false :: [])) 87)).setCells (w9.heap.size) 0 lN).cell? ⟨(ad.add (i * 3)).block, (ad.add (i * 3)).off + 1, none⟩ = some (.int .i64 ml) ∧ ((w9.alloc (.cells (List.toArray (.int .i64 0 :: .int .i64 0 :: .int .i64 0 :: .int .i64 0 :: .int .i64 0 :: .int .i64 0 :: .int .i64 0 :: .int .i64 0 :: .int .i64 0 :: .bool false :: .bool false :: .bool false :: .bool false :: .bool false :: .bool false :: .bool false :: .bool false :: .bool false :: [])) 87)).setCells (w9.heap.size) 0 lN).cell? ⟨(ad.add (i * 3)).block, (ad.add (i * 3)).off + 2, none⟩ = some (.int .i64 mr) := ⟨rangeAt_below (hBF) g_lc, keep1 (hBF) k1, keep1 (hBF) k2⟩
        refine hx_take 18 (some 12) _ rfl (by kernel_rfl) (by kernel_rfl) (by kernel_rfl) (fun _ _ _ h => h) rfl (Or.inl ⟨by rfl, fun w hSw => by first | (go_simp; done) | (go_simp; with_reducible rfl)⟩) (by assumption) ?_
        try simp only [Act.put, List.setIfInBounds_toArray, List.set_cons_zero, List.set_cons_succ]
        refine wpAnyH_done (by kernel_rfl) ?_ _
        have T5 := (TA).setC (g := w9.heap.size) (vs := lN) (by have := T3.b5.lt; omega) (by have := T3.b8.lt; omega)
        have N5 := (NA).cn_set (nextC ls n (countC ls n c (selM (ms.take i) id)) L mr) H_lN.out
        have b5 := T5.b5
        have b11 := N5
        unfold Blk at b5 b11
        have hBG := below_trans' hbw hbw.size hBF
        go_wp2_with (first | (refine wpList_load_row rfl 87 _ rfl (w9.heap.size) rfl 87 _ (0, 0) _ b11 Tryz.underlying87 rfl (by kernel_rfl) ?_) | (refine wpList_store_row rfl 87 _ _ rfl p5 _ rfl rfl 87 _ b5 (by kernel_rfl) rfl (cnA_one _) ?_))
        go_roundw
        case measure => rw [intOf, intOf]; omega
        case rel => exact ⟨i + 1, by simp, by omega, by rw [HT.out]; exact T5.row _, below_setRow hBG T5.m5 _⟩
      · refine hx_val 16 (some 11) (.pointer (some ⟨wr.heap.size, 0, none⟩)) ((wr.drew).alloc (.cells (List.toArray (.int .i64 0 :: .int .i64 0 :: .int .i64 0 :: .int .i64 0 :: .int .i64 0 :: .int .i64 0 :: .int .i64 0 :: .int .i64 0 :: .int .i64 0 :: .bool false :: .bool false :: .bool false :: .bool false :: .bool false :: .bool false :: .bool false :: .bool false :: .bool false :: [])) 87)) rfl (by rfl) rfl (by rfl) ⟨rangeAt_below (by repeat (first | assumption | exact Below.refl _ _ | refine bDrew ?_ | refine below_drewN ?_ _ | refine bAlloc ?_ _ | refine bSetC ?_ (by assumption) _)) g_lc, keep1 (by repeat (first | assumption | exact Below.refl _ _ | refine bDrew ?_ | refine below_drewN ?_ _ | refine bAlloc ?_ _ | refine bSetC ?_ (by assumption) _)) k1, keep1 (by repeat (first | assumption | exact Below.refl _ _ | refine bDrew ?_ | refine below_drewN ?_ _ | refine bAlloc ?_ _ | refine bSetC ?_ (by assumption) _)) k2⟩ ?_
        try simp only [Act.put, List.setIfInBounds_toArray, List.set_cons_zero, List.set_cons_succ]
        have NA : Blk ((wr.drew).alloc (.cells (List.toArray (.int .i64 0 :: .int .i64 0 :: .int .i64 0 :: .int .i64 0 :: .int .i64 0 :: .int .i64 0 :: .int .i64 0 :: .int .i64 0 :: .int .i64 0 :: .bool false :: .bool false :: .bool false :: .bool false :: .bool false :: .bool false :: .bool false :: .bool false :: .bool false :: [])) 87)) wr.heap.size 87 (cnA cnZ) := Blk.new wr.drew 87 (cnA cnZ)
        have TA := (T3.drewN 1).below (bAlloc (Below.refl _ (wr.drewN 1)) (.cells (List.toArray (.int .i64 0 :: .int .i64 0 :: .int .i64 0 :: .int .i64 0 :: .int .i64 0 :: .int .i64 0 :: .int .i64 0 :: .int .i64 0 :: .int .i64 0 :: .bool false :: .bool false :: .bool false :: .bool false :: .bool false :: .bool false :: .bool false :: .bool false :: .bool false :: [])) 87))
        refine hx1 12 (by kernel_rfl) ?_
        refine hx_call 12 (some 39) _ _ _ _ rfl (by rfl) rfl (by go_simp) (hnx ((wr.drew).alloc (.cells (List.toArray (.int .i64 0 :: .int .i64 0 :: .int .i64 0 :: .int .i64 0 :: .int .i64 0 :: .int .i64 0 :: .int .i64 0 :: .int .i64 0 :: .int .i64 0 :: .bool false :: .bool false :: .bool false :: .bool false :: .bool false :: .bool false :: .bool false :: .bool false :: .bool false :: [])) 87)) (by repeat (first | assumption | exact Below.refl _ _ | refine bDrew ?_ | refine below_drewN ?_ _ | refine bAlloc ?_ _ | refine bSetC ?_ (by assumption) _))) ?_
        rintro w9 ⟨b9, B9⟩
        have S9 : w9.rangeAt p5 0 lc ∧ w9.cell? ⟨(ad.add (i * 3)).block, (ad.add (i * 3)).off + 1, none⟩ = some (.int .i64 ml) ∧ w9.cell? ⟨(ad.add (i * 3)).block, (ad.add (i * 3)).off + 2, none⟩ = some (.int .i64 mr) := ⟨rangeAt_below (B9) g_lc, keep1 (B9) k1, keep1 (B9) k2⟩
        refine ⟨S9, ?_⟩
        try simp only [Act.put, List.setIfInBounds_toArray, List.set_cons_zero, List.set_cons_succ]
        refine hx_take 13 (some 26) _ rfl (by kernel_rfl) (by kernel_rfl) (by kernel_rfl) (fun _ _ _ h => h) rfl (Or.inl ⟨by rfl, fun w hSw => by first | (go_simp; done) | (go_simp; with_reducible rfl)⟩) (by assumption) ?_
        try simp only [Act.put, List.setIfInBounds_toArray, List.set_cons_zero, List.set_cons_succ]
        refine hx_take 14 (some 40) _ rfl (by kernel_rfl) (by kernel_rfl) (by kernel_rfl) (fun _ _ _ h => h) rfl (Or.inl ⟨by rfl, fun w hSw => by first | (go_simp; done) | (go_simp; with_reducible rfl)⟩) (by assumption) ?_
        try simp only [Act.put, List.setIfInBounds_toArray, List.set_cons_zero, List.set_cons_succ]
        refine hx_take 15 (some 41) _ rfl (by kernel_rfl) (by kernel_rfl) (by kernel_rfl) (fun _ _ _ h => h) rfl (Or.inl ⟨by rfl, fun w hSw => by first | (go_simp; done) | (go_simp; with_reducible rfl)⟩) (by assumption) ?_
        try simp only [Act.put, List.setIfInBounds_toArray, List.set_cons_zero, List.set_cons_succ]
        refine hx1 17 (by kernel_rfl) ?_
        have hgg : wr.heap.size ≤ wr.heap.size := Nat.le_refl _
        have hBF : Below wr.heap.size wr ((w9).setCells (wr.heap.size) 0 lN) := by repeat (first | assumption | exact Below.refl _ _ | refine bDrew ?_ | refine below_drewN ?_ _ | refine bAlloc ?_ _ | refine bSetC ?_ (by assumption) _)
        refine hx_store 17 87 (.tmp 11) (.tmp 40) (wr.heap.size) lN rfl (by rfl) rfl rfl rfl rfl (by rw [e_lN]; exact (NA.below b9).thereN) i_lN o_lN ⟨rangeAt_below (hBF) g_lc, keep1 (hBF) k1, keep1 (hBF) k2⟩ ?_
        try simp only [Act.put, List.setIfInBounds_toArray, List.set_cons_zero, List.set_cons_succ]
        have SF : ((w9).setCells (wr.heap.size) 0 lN).rangeAt p5 0 lc ∧ ((w9).setCells (wr.heap.size) 0 lN).cell? ⟨(ad.add (i * 3)).block, (ad.add (i * 3)).off + 1, none⟩ = some (.int .i64 ml) ∧ ((w9).setCells (wr.heap.size) 0 lN).cell? ⟨(ad.add (i * 3)).block, (ad.add (i * 3)).off + 2, none⟩ = some (.int .i64 mr) := ⟨rangeAt_below (hBF) g_lc, keep1 (hBF) k1, keep1 (hBF) k2⟩
        refine hx_take 18 (some 12) _ rfl (by kernel_rfl) (by kernel_rfl) (by kernel_rfl) (fun _ _ _ h => h) rfl (Or.inl ⟨by rfl, fun w hSw => by first | (go_simp; done) | (go_simp; with_reducible rfl)⟩) (by assumption) ?_
        try simp only [Act.put, List.setIfInBounds_toArray, List.set_cons_zero, List.set_cons_succ]
        refine wpAnyH_done (by kernel_rfl) ?_ _
        have T5 := (TA.below b9).setC (g := wr.heap.size) (vs := lN) (by have := T3.b5.lt; omega) (by have := T3.b8.lt; omega)
        have N5 := (NA.below b9).cn_set (nextC ls n (countC ls n c (selM (ms.take i) id)) L mr) H_lN.out
        have b5 := T5.b5
        have b11 := N5
        unfold Blk at b5 b11
        have hBG := below_trans' hbw hbw.size hBF
        go_wp2_with (first | (refine wpList_load_row rfl 87 _ rfl (wr.heap.size) rfl 87 _ (0, 0) _ b11 Tryz.underlying87 rfl (by kernel_rfl) ?_) | (refine wpList_store_row rfl 87 _ _ rfl p5 _ rfl rfl 87 _ b5 (by kernel_rfl) rfl (cnA_one _) ?_))
        go_roundw
        case measure => rw [intOf, intOf]; omega
        case rel => exact ⟨i + 1, by simp, by omega, by rw [HT.out]; exact T5.row _, below_setRow hBG T5.m5 _⟩
    · have : i = m := by omega
      subst this
      have HT := Lib.hid (show countC ls n c (selM (ms.take i) id) = countC ls n c (selM ms id) by rw [List.take_of_length_le (by omega)])
      have b5 := T3.b5
      have b8 := T3.b8
      unfold Blk at b5 b8
      go_upto_region 9 with fail
      go_wp2_with (first | (refine wpList_load_row rfl 87 _ rfl p5 rfl 87 _ (0, 0) _ b5 Tryz.underlying87 rfl (by kernel_rfl) ?_) | (refine wpList_store_row rfl 87 _ _ rfl p8 _ rfl rfl 87 _ b8 (by kernel_rfl) rfl (cnA_one _) ?_))
      refine bodyPost_ret (results_cell_tmp rfl _ _ p8 87 _ (0, 0) _ rfl (setRow_heap _ p8 _ _ _ _ b8) Tryz.underlying87 rfl (by kernel_rfl)) rfl ?_
      rw [HT.out]
      exact ⟨rfl, below_setRow hbw T3.m8 _⟩
end Go.Proofs.YtbpodnhebjjkaaaGreatDoor
