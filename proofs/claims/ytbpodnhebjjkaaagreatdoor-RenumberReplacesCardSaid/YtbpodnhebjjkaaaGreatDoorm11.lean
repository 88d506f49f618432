/- The law's counted. renumber: (*Seq).add. -/
import Derived.Test.YtbpodnhebjjkaaaGreatDoorm10
import Derived.Test.YtbpodnhebjjkaaaGreatDoorm9
import Derived.Test.YtbpodnhebjjkaaaGreatDoorm1
namespace Go.Proofs.YtbpodnhebjjkaaaGreatDoor
open Go.RowKit

theorem Blk.thereN {w : World} {g : Nat} {t : TypeId} {c : Cn} (h : Blk w g t (cnA c)) : w.there g 0 18 := fun j hj => by
  rw [Nat.zero_add]
  refine ⟨?_, h.frozen j⟩
  have e : (cnA c)[j]? = some ((cnA c)[j]'(by rw [cnA_size]; exact hj)) := Array.getElem?_eq_getElem _
  rw [h.cell j e]
  rfl
theorem Blk.cn_set {w : World} {g : Nat} {t : TypeId} (h : Blk w g t (cnA cnZ)) (X : Cn) {l : List Value} (e : l = cnL X) : Blk (w.setCells g 0 l) g t (cnA X) := by
  subst e
  exact Blk.setCells_ (cnL X) [] (cnL cnZ) w h rfl
theorem Blk.rangeN {w : World} {g : Nat} {t : TypeId} {X : Cn} (h : Blk w g t (cnA X)) {lX : List Value} (e : lX = cnL X) : w.rangeAt g 0 lX := fun j v hv => by
  subst e
  rw [Nat.zero_add]
  exact h.cell j (by unfold cnA; simpa using hv)
theorem size48 : (Tryz.prog.info? 87).map (·.size) = some 18 := by kernel_rfl
theorem CW.setC {w : World} {B p5 p8 g : Nat} {Z : Cn} {vs : List Value} (h : CW w B p5 p8 Z) (h5 : g ≠ p5) (h8 : g ≠ p8) : CW (w.setCells g 0 vs) B p5 p8 Z :=
  ⟨h.b5.keep (only_setCells g vs 0 w) (fun e => h5 (by injection e)), h.b8.keep (only_setCells g vs 0 w) (fun e => h8 (by injection e)), h.n, h.m5, h.m8⟩
theorem CW.row {w : World} {B p5 p8 : Nat} {Z : Cn} (h : CW w B p5 p8 Z) (Z' : Cn) : CW (w.setRow p5 (cnA Z')) B p5 p8 Z' :=
  ⟨setRow_heap w p5 _ _ _ _ h.b5, (setRow_other w p5 p8 _ (Ne.symm h.n)).trans h.b8, h.n, h.m5, h.m8⟩
theorem nx_ok {ls : List Lv} {n : Nat} {c : Cn} {L : Nat} {r K : Int} (hC : clE ls = 0) (hL : L < n) (h0 : 0 ≤ r) (h1 : r ≤ 32767) (hc : CnOk K c) (hK : K ≤ 1099511627776) : nxE ls n c ((L : Int) + 1) r = 0 ∧ nxF ls n c ((L : Int) + 1) r = nextC ls n c L r := by
  have e : nxE ls n c ((L : Int) + 1) r = 0 := by
    unfold nxE ckE
    rw [if_neg (by simp [hC]; omega), if_neg (by omega), if_neg (by rw [ovB_no (fun i _ => by have := hc i; omega)]; simp)]
  refine ⟨e, ?_⟩
  unfold nxF
  rw [if_pos e, show ((L : Int) + 1 - 1).toNat = L by omega]
set_option maxHeartbeats 8000000 in
set_option maxRecDepth 100000 in
theorem counted_any (A : Option Addr) (n cA : Nat) (ls : List Lv) (AM : Option Addr) (m cm : Nat) (ms : List Mk) (c : Cn) (K : Int) (w : World) (ha : Sl w 4 lvC A n ls) (hm : Sl w 3 mkC AM m ms) (hL : LvOk n ls) (hC : clE ls = 0) (hM : MkOk n ms) (h1 : ∀ i, i < m → (gM ms i).list = 1) (hm1 : m ≤ 1000) (hc : CnOk K c) (hK0 : 32767 ≤ K) (hK : K ≤ 1000000000) :
    Calls Tryz.prog 40 #[.slice A n cA, .agg (cnA c), .slice AM m cm, .int .i64 1] w fun e w' => e = .returned (.tuple #[.agg (cnA (countC ls n c ms)), .bool true]) ∧ Below w.heap.size w w' := by
  have hlm := hm.len
  have T0 := CW.new w c
  have hb0 := ((Below.refl w.heap.size w).alloc (Nat.le_refl _) (.cells (cnA c) 87)).alloc (by simp) (.cells (cnA cnZ) 87)
  have HMK := Lib.hid hM
  have HCO := Lib.hid (count_ok hL hM hK0 hc)
  have HCL := Lib.hid hC
  have H1 := Lib.hid h1
  clear hM hL hC h1 hc
  go_enter Tryz.func40, Tryz.ntmps40
  go_upto_region 0 with fail
  go_cut [5, 8, 9] (fun v5 v8 v9 wx => ∃ p5 p8, v5 = .pointer (some ⟨p5, 0, none⟩) ∧ v8 = .pointer (some ⟨p8, 0, none⟩) ∧ v9 = .bool false ∧ CW wx w.heap.size p5 p8 c ∧ Below w.heap.size w wx)
  case first =>
    go_wp2_with fail
    go_meet
    case rel => exact ⟨_, _, rfl, rfl, rfl, T0, hb0⟩
  case rest =>
  obtain ⟨p5, p8, rfl, rfl, rfl, T1, hb1⟩ := hcut
  clear T0 hb0
  go_wp2_with fail
  go_loopw [10] (fun vi wr => ∃ i : Nat, vi = .int .i64 i ∧ i ≤ m ∧ CW wr w.heap.size p5 p8 (countC ls n c (ms.take i)) ∧ Below w.heap.size w wr) (fun vi _ => m - (intOf vi).toNat)
  case atStart => exact ⟨0, rfl, Nat.zero_le _, T1, hb1⟩
  case round =>
    obtain ⟨i, rfl, hi, T3, hbw⟩ := hrel
    clear T1 hb1
    by_cases hlt : i < m
    · obtain ⟨ad, e, hl2, k0, k1, k2⟩ := (hm.below hbw).mk_ hlt
      subst e
      have HT := countC_take ls n c ms (i := i) (by omega)
      have mo := HMK.out i (by omega)
      have co := HCO.out i (by omega)
      have h1 := H1.out i hlt
      generalize gM ms i = mk at *
      obtain ⟨mx, ml, mr⟩ := mk
      simp only at k0 k1 k2 mo h1 HT
      subst h1
      obtain ⟨L, rfl⟩ : ∃ L : Nat, ml = (L : Int) + 1 := ⟨(ml - 1).toNat, by omega⟩
      rw [show ((L : Int) + 1 - 1).toNat = L by omega] at HT
      have HT := Lib.hid HT
      have nx := nx_ok (ls := ls) (n := n) (L := L) (r := mr) HCL.out (by omega) (by omega) (by omega) co (by omega)
      have hnx := at_below (fun W (hW : Below wr.heap.size wr W) => next_any A n cA ls (countC ls n c (ms.take i)) ((L : Int) + 1) mr W ((ha.below hbw).below hW))
      rw [nx.1, nx.2] at hnx
      obtain ⟨lc, hlc⟩ : ∃ l, l = cnL (countC ls n c (ms.take i)) := ⟨_, rfl⟩
      obtain ⟨lN, hlN⟩ : ∃ l, l = cnL (nextC ls n (countC ls n c (ms.take i)) L mr) := ⟨_, rfl⟩
      have g_lc := T3.b5.rangeN hlc
      rw [cnA_L, cnA_L, ← hlc, ← hlN] at hnx
      have i_lc : (Tryz.prog.info? 87).map (·.size) = some lc.length := by rw [hlc]; exact size48
      have i_lN : (Tryz.prog.info? 87).map (·.size) = some lN.length := by rw [hlN]; exact size48
      have e_lN : lN.length = 18 := by rw [hlN]; rfl
      have o_lN : ∀ v ∈ lN, v.oneCell' = true := by rw [hlN]; exact cnL_one _
      have H_lN := Lib.hid hlN
      clear hlc hlN nx co
      obtain ⟨ml, hml⟩ : ∃ x : Int, x = (L : Int) + 1 := ⟨_, rfl⟩
      rw [← hml] at k1 hnx
      have HML := Lib.hid hml
      clear hml
      go_upto_region 5 with fail
      refine wp_region_held_drew (S := fun w' => w'.rangeAt p5 0 lc ∧ w'.cell? ⟨(ad.add (i * 3)).block, (ad.add (i * 3)).off + 1, none⟩ = some (.int .i64 ml) ∧ w'.cell? ⟨(ad.add (i * 3)).block, (ad.add (i * 3)).off + 2, none⟩ = some (.int .i64 mr)) (by kernel_rfl) ⟨rangeAt_below (by repeat (first | assumption | exact Below.refl _ _ | refine bDrew ?_ | refine below_drewN ?_ _ | refine bAlloc ?_ _ | refine bSetC ?_ (by assumption) _)) g_lc, keep1 (by repeat (first | assumption | exact Below.refl _ _ | refine bDrew ?_ | refine below_drewN ?_ _ | refine bAlloc ?_ _ | refine bSetC ?_ (by assumption) _)) k1, keep1 (by repeat (first | assumption | exact Below.refl _ _ | refine bDrew ?_ | refine below_drewN ?_ _ | refine bAlloc ?_ _ | refine bSetC ?_ (by assumption) _)) k2⟩ (fun hHeld => ?_)
      refine hx_take 0 (some 27) _ rfl (by kernel_rfl) (by kernel_rfl) (by kernel_rfl) (fun _ _ _ h => h) rfl (Or.inl ⟨by rfl, fun w hSw => by first | (go_simp; done) | (go_simp; with_reducible rfl)⟩) (by assumption) ?_
      try simp only [Act.put, List.setIfInBounds_toArray, List.set_cons_zero, List.set_cons_succ]
      refine hx_take 1 (some 28) (.agg lc.toArray) rfl (by kernel_rfl) (by kernel_rfl) (by kernel_rfl) (fun _ _ _ h => h) rfl (yieldsIf_load_mid (by rfl) _ _ rfl p5 0 rfl lc _ (fun w hSw => hSw.1) Tryz.underlying87 rfl (by assumption)) (by assumption) ?_
      try simp only [Act.put, List.setIfInBounds_toArray, List.set_cons_zero, List.set_cons_succ]
      refine hx_take 2 (some 29) _ rfl (by kernel_rfl) (by kernel_rfl) (by kernel_rfl) (fun _ _ _ h => h) rfl (Or.inl ⟨by rfl, fun w hSw => by first | (go_simp; done) | (go_simp; with_reducible rfl)⟩) (by assumption) ?_
      try simp only [Act.put, List.setIfInBounds_toArray, List.set_cons_zero, List.set_cons_succ]
      refine hx_take 3 (some 30) _ rfl (by kernel_rfl) (by kernel_rfl) (by kernel_rfl) (fun _ _ _ h => h) rfl (Or.inl ⟨by rfl, fun w hSw => by first | (go_simp; done) | (go_simp; with_reducible rfl)⟩) (by assumption) ?_
      try simp only [Act.put, List.setIfInBounds_toArray, List.set_cons_zero, List.set_cons_succ]
      refine hx_take 7 (some 34) _ rfl (by kernel_rfl) (by kernel_rfl) (by kernel_rfl) (fun _ _ _ h => h) rfl (Or.inl ⟨by rfl, fun w hSw => by first | (go_simp; done) | (go_simp; with_reducible rfl)⟩) (by assumption) ?_
      try simp only [Act.put, List.setIfInBounds_toArray, List.set_cons_zero, List.set_cons_succ]
      refine hx_take 8 (some 35) _ rfl (by kernel_rfl) (by kernel_rfl) (by kernel_rfl) (fun _ _ _ h => h) rfl (Or.inl ⟨by rfl, fun w hSw => by first | (go_simp; done) | (go_simp; with_reducible rfl)⟩) (by assumption) ?_
      try simp only [Act.put, List.setIfInBounds_toArray, List.set_cons_zero, List.set_cons_succ]
      refine hx_take 4 (some 31) _ rfl (by kernel_rfl) (by kernel_rfl) (by kernel_rfl) (fun _ _ _ h => h) rfl (Or.inl ⟨by rfl, fun w hSw => by first | (go_simp; done) | (go_simp; with_reducible rfl)⟩) (by assumption) ?_
      try simp only [Act.put, List.setIfInBounds_toArray, List.set_cons_zero, List.set_cons_succ]
      refine hx_take 9 (some 36) _ rfl (by kernel_rfl) (by kernel_rfl) (by kernel_rfl) (fun _ _ _ h => h) rfl (Or.inl ⟨by rfl, fun w hSw => by first | (go_simp; done) | (go_simp; with_reducible rfl)⟩) (by assumption) ?_
      try simp only [Act.put, List.setIfInBounds_toArray, List.set_cons_zero, List.set_cons_succ]
      refine hx_take 5 (some 32) _ rfl (by kernel_rfl) (by kernel_rfl) (by kernel_rfl) (fun _ _ _ h => h) rfl (Or.inl ⟨by rfl, fun w hSw => by first | (go_simp; done) | (go_simp; with_reducible rfl)⟩) (by assumption) ?_
      try simp only [Act.put, List.setIfInBounds_toArray, List.set_cons_zero, List.set_cons_succ]
      refine hx_take 10 (some 37) _ rfl (by kernel_rfl) (by kernel_rfl) (by kernel_rfl) (fun _ _ _ h => h) rfl (Or.inl ⟨by rfl, fun w hSw => by first | (go_simp; done) | (go_simp; with_reducible rfl)⟩) (by assumption) ?_
      try simp only [Act.put, List.setIfInBounds_toArray, List.set_cons_zero, List.set_cons_succ]
      refine hx_take 6 (some 33) _ rfl (by kernel_rfl) (by kernel_rfl) (by kernel_rfl) (fun _ _ _ h => h) rfl (Or.inl ⟨by rfl, fun w hSw => by first | (go_simp; done) | (go_simp; with_reducible rfl)⟩) (by assumption) ?_
      try simp only [Act.put, List.setIfInBounds_toArray, List.set_cons_zero, List.set_cons_succ]
      refine hx_take 11 (some 38) _ rfl (by kernel_rfl) (by kernel_rfl) (by kernel_rfl) (fun _ _ _ h => h) rfl (Or.inl ⟨by rfl, fun w hSw => by first | (go_simp; done) | (go_simp; with_reducible rfl)⟩) (by assumption) ?_
      try simp only [Act.put, List.setIfInBounds_toArray, List.set_cons_zero, List.set_cons_succ]
      refine hx2 12 16 (by kernel_rfl) ?_ ?_
      · refine hx_call 12 (some 39) _ _ _ _ rfl (by rfl) rfl (by go_simp) (hnx (wr.drew) (by repeat (first | assumption | exact Below.refl _ _ | refine bDrew ?_ | refine below_drewN ?_ _ | refine bAlloc ?_ _ | refine bSetC ?_ (by assumption) _))) ?_
        rintro w9 ⟨b9, B9⟩
        have S9 : w9.rangeAt p5 0 lc ∧ w9.cell? ⟨(ad.add (i * 3)).block, (ad.add (i * 3)).off + 1, none⟩ = some (.int .i64 ml) ∧ w9.cell? ⟨(ad.add (i * 3)).block, (ad.add (i * 3)).off + 2, none⟩ = some (.int .i64 mr) := ⟨rangeAt_below (B9) g_lc, keep1 (B9) k1, keep1 (B9) k2⟩
        refine ⟨S9, ?_⟩
        try simp only [Act.put, List.setIfInBounds_toArray, List.set_cons_zero, List.set_cons_succ]
        refine hx_take 13 (some 26) _ rfl (by kernel_rfl) (by kernel_rfl) (by kernel_rfl) (fun _ _ _ h => h) rfl (Or.inl ⟨by rfl, fun w hSw => by first | (go_simp; done) | (go_simp; with_reducible rfl)⟩) (by assumption) ?_
        try simp only [Act.put, List.setIfInBounds_toArray, List.set_cons_zero, List.set_cons_succ]
        refine hx_take 14 (some 40) _ rfl (by kernel_rfl) (by kernel_rfl) (by kernel_rfl) (fun _ _ _ h => h) rfl (Or.inl ⟨by rfl, fun w hSw => by first | (go_simp; done) | (go_simp; with_reducible rfl)⟩) (by assumption) ?_
        try simp only [Act.put, List.setIfInBounds_toArray, List.set_cons_zero, List.set_cons_succ]
        refine hx_take 15 (some 41) _ rfl (by kernel_rfl) (by kernel_rfl) (by kernel_rfl) (fun _ _ _ h => h) rfl (Or.inl ⟨by rfl, fun w hSw => by first | (go_simp; done) | (go_simp; with_reducible rfl)⟩) (by assumption) ?_
        try simp only [Act.put, List.setIfInBounds_toArray, List.set_cons_zero, List.set_cons_succ]
        refine hx1 16 (by kernel_rfl) ?_
        refine hx_val 16 (some 11) (.pointer (some ⟨w9.heap.size, 0, none⟩)) ((w9).alloc (.cells (List.toArray (.int .i64 0 :: .int .i64 0 :: .int .i64 0 :: .int .i64 0 :: .int .i64 0 :: .int .i64 0 :: .int .i64 0 :: .int .i64 0 :: .int .i64 0 :: .bool false :: .bool false :: .bool false :: .bool false :: .bool false :: .bool false :: .bool false :: .bool false :: .bool false :: [])) 87)) rfl (by rfl) rfl (by rfl) ⟨rangeAt_below (by repeat (first | assumption | exact Below.refl _ _ | refine bDrew ?_ | refine below_drewN ?_ _ | refine bAlloc ?_ _ | refine bSetC ?_ (by assumption) _)) g_lc, keep1 (by repeat (first | assumption | exact Below.refl _ _ | refine bDrew ?_ | refine below_drewN ?_ _ | refine bAlloc ?_ _ | refine bSetC ?_ (by assumption) _)) k1, keep1 (by repeat (first | assumption | exact Below.refl _ _ | refine bDrew ?_ | refine below_drewN ?_ _ | refine bAlloc ?_ _ | refine bSetC ?_ (by assumption) _)) k2⟩ ?_
        try simp only [Act.put, List.setIfInBounds_toArray, List.set_cons_zero, List.set_cons_succ]
        have NA : Blk (w9.alloc (.cells (List.toArray (.int .i64 0 :: .int .i64 0 :: .int .i64 0 :: .int .i64 0 :: .int .i64 0 :: .int .i64 0 :: .int .i64 0 :: .int .i64 0 :: .int .i64 0 :: .bool false :: .bool false :: .bool false :: .bool false :: .bool false :: .bool false :: .bool false :: .bool false :: .bool false :: [])) 87)) w9.heap.size 87 (cnA cnZ) := Blk.new w9 87 (cnA cnZ)
        have TA := ((T3.drewN 1).below b9).below (bAlloc (Below.refl _ w9) (.cells (List.toArray (.int .i64 0 :: .int .i64 0 :: .int .i64 0 :: .int .i64 0 :: .int .i64 0 :: .int .i64 0 :: .int .i64 0 :: .int .i64 0 :: .int .i64 0 :: .bool false :: .bool false :: .bool false :: .bool false :: .bool false :: .bool false :: .bool false :: .bool false :: .bool false :: [])) 87))
        refine hx1 17 (by kernel_rfl) ?_
        have hgg : wr.heap.size ≤ w9.heap.size := B9.size
        have hBF : Below wr.heap.size wr ((w9.alloc (.cells (List.toArray (.int .i64 0 :: .int .i64 0 :: .int .i64 0 :: .int .i64 0 :: .int .i64 0 :: .int .i64 0 :: .int .i64 0 :: .int .i64 0 :: .int .i64 0 :: .bool false :: .bool false :: .bool false :: .bool false :: .bool false :: .bool false :: .bool false :: .bool false :: .bool false :: [])) 87)).setCells (w9.heap.size) 0 lN) := by repeat (first | assumption | exact Below.refl _ _ | refine bDrew ?_ | refine below_drewN ?_ _ | refine bAlloc ?_ _ | refine bSetC ?_ (by assumption) _)
        refine hx_store 17 87 (.tmp 11) (.tmp 40) (w9.heap.size) lN rfl (by rfl) rfl rfl rfl rfl (by rw [e_lN]; exact (NA).thereN) i_lN o_lN ⟨rangeAt_below (hBF) g_lc, keep1 (hBF) k1, keep1 (hBF) k2⟩ ?_
        try simp only [Act.put, List.setIfInBounds_toArray, List.set_cons_zero, List.set_cons_succ]
        have SF : ((w9.alloc (.cells (List.toArray (.int .i64 0 :: .int .i64 0 :: .int .i64 0 :: .int .i64 0 :: .int .i64 0 :: .int .i64 0 :: .int .i64 0 :: .int .i64 0 :: .int .i64 0 :: .bool false :: .bool false :: .bool false :: .bool false :: .bool false :: .bool false :: .bool false :: .bool false :: .bool false :: [])) 87)).setCells (w9.heap.size) 0 lN).rangeAt p5 0 lc ∧ ((w9.alloc (.cells (List.toArray (.int .i64 0 :: .int .i64 0 :: .int .i64 0 :: .int .i64 0 :: .int .i64 0 :: .int .i64 0 :: .int .i64 0 :: .int .i64 0 :: .int .i64 0 :: .bool false :: .bool false :: .bool false :: .bool false :: .bool false :: .bool false :: .bool false :: .bool false :: .bool false :: [])) 87)).setCells (w9.heap.size) 0 lN).cell? ⟨(ad.add (i * 3)).block, (ad.add (i * 3)).off + 1, none⟩ = some (.int .i64 ml) ∧ ((w9.alloc (.cells (List.toArray (.int .i64 0 :: .int .i64 0 :: .int .i64 0 :: .int .i64 0 :: .int .i64 0 :: .int .i64 0 :: .int .i64 0 :: .int .i64 0 :: .int .i64 0 :: .bool false :: .bool false :: .bool false :: .bool false :: .bool false :: .bool false :: .bool false :: .bool false :: .bool false :: [])) 87)).setCells (w9.heap.size) 0 lN).cell? ⟨(ad.add (i * 3)).block, (ad.add (i * 3)).off + 2, none⟩ = some (.int .i64 mr) := ⟨rangeAt_below (hBF) g_lc, keep1 (hBF) k1, keep1 (hBF) k2⟩
        refine hx_take 18 (some 12) _ rfl (by kernel_rfl) (by kernel_rfl) (by kernel_rfl) (fun _ _ _ h => h) rfl (Or.inl ⟨by rfl, fun w hSw => by first | (go_simp; done) | (go_simp; with_reducible rfl)⟩) (by assumption) ?_
        try simp only [Act.put, List.setIfInBounds_toArray, List.set_cons_zero, List.set_cons_succ]
        refine wpAnyH_done (by kernel_rfl) ?_ _
        have T5 := (TA).setC (g := w9.heap.size) (vs := lN) (by have := T3.b5.lt; omega) (by have := T3.b8.lt; omega)
        have N5 := (NA).cn_set (nextC ls n (countC ls n c (ms.take i)) L mr) H_lN.out
        have b5 := T5.b5
        have b11 := N5
        unfold Blk at b5 b11
        have hBG := below_trans' hbw hbw.size hBF
        go_wp2_with (first | (refine wpList_load_row rfl 87 _ rfl (w9.heap.size) rfl 87 _ (0, 0) _ b11 Tryz.underlying87 rfl (by kernel_rfl) ?_) | (refine wpList_store_row rfl 87 _ _ rfl p5 _ rfl rfl 87 _ b5 (by kernel_rfl) rfl (cnA_one _) ?_))
        go_roundw
        case measure => rw [intOf, intOf]; omega
        case rel => exact ⟨i + 1, by simp, by omega, by rw [HT.out]; exact T5.row _, below_setRow hBG T5.m5 _⟩
      · refine hx_val 16 (some 11) (.pointer (some ⟨wr.heap.size, 0, none⟩)) ((wr.drew).alloc (.cells (List.toArray (.int .i64 0 :: .int .i64 0 :: .int .i64 0 :: .int .i64 0 :: .int .i64 0 :: .int .i64 0 :: .int .i64 0 :: .int .i64 0 :: .int .i64 0 :: .bool false :: .bool false :: .bool false :: .bool false :: .bool false :: .bool false :: .bool false :: .bool false :: .bool false :: [])) 87)) rfl (by rfl) rfl (by rfl) ⟨rangeAt_below (by repeat (first | assumption | exact Below.refl _ _ | refine bDrew ?_ | refine below_drewN ?_ _ | refine bAlloc ?_ _ | refine bSetC ?_ (by assumption) _)) g_lc, keep1 (by repeat (first | assumption | exact Below.refl _ _ | refine bDrew ?_ | refine below_drewN ?_ _ | refine bAlloc ?_ _ | refine bSetC ?_ (by assumption) _)) k1, keep1 (by repeat (first | assumption | exact Below.refl _ _ | refine bDrew ?_ | refine below_drewN ?_ _ | refine bAlloc ?_ _ | refine bSetC ?_ (by assumption) _)) k2⟩ ?_
        try simp only [Act.put, List.setIfInBounds_toArray, List.set_cons_zero, List.set_cons_succ]
        have NA : Blk ((wr.drew).alloc (.cells (List.toArray (.int .i64 0 :: .int .i64 0 :: .int .i64 0 :: .int .i64 0 :: .int .i64 0 :: .int .i64 0 :: .int .i64 0 :: .int .i64 0 :: .int .i64 0 :: .bool false :: .bool false :: .bool false :: .bool false :: .bool false :: .bool false :: .bool false :: .bool false :: .bool false :: [])) 87)) wr.heap.size 87 (cnA cnZ) := Blk.new wr.drew 87 (cnA cnZ)
        have TA := (T3.drewN 1).below (bAlloc (Below.refl _ (wr.drewN 1)) (.cells (List.toArray (.int .i64 0 :: .int .i64 0 :: .int .i64 0 :: .int .i64 0 :: .int .i64 0 :: .int .i64 0 :: .int .i64 0 :: .int .i64 0 :: .int .i64 0 :: .bool false :: .bool false :: .bool false :: .bool false :: .bool false :: .bool false :: .bool false :: .bool false :: .bool false :: [])) 87))
        refine hx1 12 (by kernel_rfl) ?_
        refine hx_call 12 (some 39) _ _ _ _ rfl (by rfl) rfl (by go_simp) (hnx ((wr.drew).alloc (.cells (List.toArray (.int .i64 0 :: .int .i64 0 :: .int .i64 0 :: .int .i64 0 :: .int .i64 0 :: .int .i64 0 :: .int .i64 0 :: .int .i64 0 :: .int .i64 0 :: .bool false :: .bool false :: .bool false :: .bool false :: .bool false :: .bool false :: .bool false :: .bool false :: .bool false :: [])) 87)) (by repeat (first | assumption | exact Below.refl _ _ | refine bDrew ?_ | refine below_drewN ?_ _ | refine bAlloc ?_ _ | refine bSetC ?_ (by assumption) _))) ?_
        rintro w9 ⟨b9, B9⟩
        have S9 : w9.rangeAt p5 0 lc ∧ w9.cell? ⟨(ad.add (i * 3)).block, (ad.add (i * 3)).off + 1, none⟩ = some (.int .i64 ml) ∧ w9.cell? ⟨(ad.add (i * 3)).block, (ad.add (i * 3)).off + 2, none⟩ = some (.int .i64 mr) := ⟨rangeAt_below (B9) g_lc, keep1 (B9) k1, keep1 (B9) k2⟩
        refine ⟨S9, ?_⟩
        try simp only [Act.put, List.setIfInBounds_toArray, List.set_cons_zero, List.set_cons_succ]
        refine hx_take 13 (some 26) _ rfl (by kernel_rfl) (by kernel_rfl) (by kernel_rfl) (fun _ _ _ h => h) rfl (Or.inl ⟨by rfl, fun w hSw => by first | (go_simp; done) | (go_simp; with_reducible rfl)⟩) (by assumption) ?_
        try simp only [Act.put, List.setIfInBounds_toArray, List.set_cons_zero, List.set_cons_succ]
        refine hx_take 14 (some 40) _ rfl (by kernel_rfl) (by kernel_rfl) (by kernel_rfl) (fun _ _ _ h => h) rfl (Or.inl ⟨by rfl, fun w hSw => by first | (go_simp; done) | (go_simp; with_reducible rfl)⟩) (by assumption) ?_
        try simp only [Act.put, List.setIfInBounds_toArray, List.set_cons_zero, List.set_cons_succ]
        refine hx_take 15 (some 41) _ rfl (by kernel_rfl) (by kernel_rfl) (by kernel_rfl) (fun _ _ _ h => h) rfl (Or.inl ⟨by rfl, fun w hSw => by first | (go_simp; done) | (go_simp; with_reducible rfl)⟩) (by assumption) ?_
        try simp only [Act.put, List.setIfInBounds_toArray, List.set_cons_zero, List.set_cons_succ]
        refine hx1 17 (by kernel_rfl) ?_
        have hgg : wr.heap.size ≤ wr.heap.size := Nat.le_refl _
        have hBF : Below wr.heap.size wr ((w9).setCells (wr.heap.size) 0 lN) := by repeat (first | assumption | exact Below.refl _ _ | refine bDrew ?_ | refine below_drewN ?_ _ | refine bAlloc ?_ _ | refine bSetC ?_ (by assumption) _)
        refine hx_store 17 87 (.tmp 11) (.tmp 40) (wr.heap.size) lN rfl (by rfl) rfl rfl rfl rfl (by rw [e_lN]; exact (NA.below b9).thereN) i_lN o_lN ⟨rangeAt_below (hBF) g_lc, keep1 (hBF) k1, keep1 (hBF) k2⟩ ?_
        try simp only [Act.put, List.setIfInBounds_toArray, List.set_cons_zero, List.set_cons_succ]
        have SF : ((w9).setCells (wr.heap.size) 0 lN).rangeAt p5 0 lc ∧ ((w9).setCells (wr.heap.size) 0 lN).cell? ⟨(ad.add (i * 3)).block, (ad.add (i * 3)).off + 1, none⟩ = some (.int .i64 ml) ∧ ((w9).setCells (wr.heap.size) 0 lN).cell? ⟨(ad.add (i * 3)).block, (ad.add (i * 3)).off + 2, none⟩ = some (.int .i64 mr) := ⟨rangeAt_below (hBF) g_lc, keep1 (hBF) k1, keep1 (hBF) k2⟩
        refine hx_take 18 (some 12) _ rfl (by kernel_rfl) (by kernel_rfl) (by kernel_rfl) (fun _ _ _ h => h) rfl (Or.inl ⟨by rfl, fun w hSw => by first | (go_simp; done) | (go_simp; with_reducible rfl)⟩) (by assumption) ?_
        try simp only [Act.put, List.setIfInBounds_toArray, List.set_cons_zero, List.set_cons_succ]
        refine wpAnyH_done (by kernel_rfl) ?_ _
        have T5 := (TA.below b9).setC (g := wr.heap.size) (vs := lN) (by have := T3.b5.lt; omega) (by have := T3.b8.lt; omega)
        have N5 := (NA.below b9).cn_set (nextC ls n (countC ls n c (ms.take i)) L mr) H_lN.out
        have b5 := T5.b5
        have b11 := N5
        unfold Blk at b5 b11
        have hBG := below_trans' hbw hbw.size hBF
        go_wp2_with (first | (refine wpList_load_row rfl 87 _ rfl (wr.heap.size) rfl 87 _ (0, 0) _ b11 Tryz.underlying87 rfl (by kernel_rfl) ?_) | (refine wpList_store_row rfl 87 _ _ rfl p5 _ rfl rfl 87 _ b5 (by kernel_rfl) rfl (cnA_one _) ?_))
        go_roundw
        case measure => rw [intOf, intOf]; omega
        case rel => exact ⟨i + 1, by simp, by omega, by rw [HT.out]; exact T5.row _, below_setRow hBG T5.m5 _⟩
    · have : i = m := by omega
      subst this
      have HT := Lib.hid (show countC ls n c (ms.take i) = countC ls n c ms by rw [List.take_of_length_le (by omega)])
      have b5 := T3.b5
      have b8 := T3.b8
      unfold Blk at b5 b8
      go_upto_region 9 with fail
      go_wp2_with (first | (refine wpList_load_row rfl 87 _ rfl p5 rfl 87 _ (0, 0) _ b5 Tryz.underlying87 rfl (by kernel_rfl) ?_) | (refine wpList_store_row rfl 87 _ _ rfl p8 _ rfl rfl 87 _ b8 (by kernel_rfl) rfl (cnA_one _) ?_))
      refine bodyPost_ret (results_cell_tmp rfl _ _ p8 87 _ (0, 0) _ rfl (setRow_heap _ p8 _ _ _ _ b8) Tryz.underlying87 rfl (by kernel_rfl)) rfl ?_
      rw [HT.out]
      exact ⟨rfl, below_setRow hbw T3.m8 _⟩
end Go.Proofs.YtbpodnhebjjkaaaGreatDoor

namespace Go.Proofs.YtbpodnhebjjkaaaGreatDoor
open Go.RowKit

section
variable {P : Program} {ops : Array Oper} {Q : Exit → Act → World → Prop} {md : Region.Mode} {S : World → Prop} {fuel : Nat} {listed : Array Bool} {a : Act} {w : World} {o : Oper}
/-- the store of a row into a block, anywhere. -/
theorem hx_storeQ (i : Nat) (ty : TypeId) (x y : Operand) (g q : Nat) (l : List Value) (ho : ops[i]? = some o) (hw : Region.wanted o (yielded ops a.tmps) = true) (hd : o.dst = none) (hop : o.op = .store ty x y) (hx : a.eval x = .pointer (some ⟨g, q, none⟩)) (hy : a.eval y = .agg l.toArray)
    (ht : w.there g q l.length) (hi : (P.info? ty).map (·.size) = some l.length) (h1 : ∀ v ∈ l, v.oneCell' = true) (hS : S (w.setCells g q l))
    (h : wpAnyH P md ops Q S fuel (listed.setIfInBounds i true) a (w.setCells g q l)) : StepH P md ops Q S fuel listed a w i := by
  refine hx_wp i ho hw ?_
  refine wp_store_mid ty x y hop g q l.toArray hx hy (by simpa using ht) (by simpa using hi) (all_oneCell_toArray h1) ?_
  rw [hd]
  exact ⟨hS, by simpa [Act.put] using h⟩
/-- the load of a row. -/
theorem hx_loadQ (i : Nat) (d : Option Tmp) (ty : TypeId) (x : Operand) (g q : Nat) (l : List Value) (td : TypeDesc) (ho : ops[i]? = some o) (hw : Region.wanted o (yielded ops a.tmps) = true) (hd : o.dst = d) (hop : o.op = .load ty x) (hx : a.eval x = .pointer (some ⟨g, q, none⟩))
    (hc : w.rangeAt g q l) (hu : P.underlying ty = some td) (hr : td.isRow = true) (hi : (P.info? ty).map (·.size) = some l.length) (hS : S w)
    (h : wpAnyH P md ops Q S fuel (listed.setIfInBounds i true) (a.put d (.agg l.toArray)) w) : StepH P md ops Q S fuel listed a w i := by
  refine hx_val i d (.agg l.toArray) w ho hw hd ?_ hS h
  unfold execOp
  simp only [hop, hx, Instr.loadAt, Instr.sureAddr, Sem.run_bind, Sem.run_pure, Result.andThen_ok, run_loadVar_mid w g q ty l td hc hu hr hi]
end

section
variable {α : Type} {w w' : World} {s : Nat} {enc : α → List Value} {A : Option Addr} {n c g : Nat} {xs : List α} {B : Nat} {e : TypeId}
theorem Own.range (h : Own w B e s enc (some ⟨g, 0, none⟩) n c xs) (henc : ∀ x : α, (enc x).length = s) {k : Nat} (hk : k < n) {x : α} (hx : xs[k]? = some x) : w.rangeAt g (k * s) (enc x) := by
  obtain ⟨g', x', e1, _, _, hx', hc⟩ := h.field henc hk
  injection e1 with e1
  injection e1 with e1
  subst e1
  rw [hx] at hx'
  injection hx' with hx'
  subst hx'
  exact fun j v hv => hc j v hv
theorem Own.thereQ (h : Own w B e s enc (some ⟨g, 0, none⟩) n c xs) (henc : ∀ x : α, (enc x).length = s) {k : Nat} (hk : k < n) : w.there g (k * s) s := fun j hj => by
  have hkl : k < xs.length := by rw [h.len]; exact hk
  have hl : j < (enc xs[k]).length := by rw [henc]; exact hj
  have := h.range henc hk (List.getElem?_eq_getElem hkl) j _ (List.getElem?_eq_getElem hl)
  exact ⟨by rw [this]; rfl, h.row.frozenAt _⟩
end
theorem grown_below {w w' : World} {row : Option Nat} (h : Below w.heap.size w w') : w.grownBy w' row := ⟨h.os, h.tape, h.output, h.size, fun k hk _ => h.block k hk⟩
theorem size51 : (Tryz.prog.info? 51).map (·.size) = some 36 := by kernel_rfl

def gF (xs : List Eff) (k : Nat) : Eff := xs.getD k effZ
theorem gF_get {xs : List Eff} {k : Nat} (h : k < xs.length) : xs[k]? = some (gF xs k) := by
  unfold gF
  rw [List.getD_eq_getElem?_getD, List.getElem?_eq_getElem h]; rfl
def addF (es : List LsE) (vs : List (List Lv)) (xs : List Eff) (m : Mk) : List Eff :=
  if m.list ∈ idsL es then xs.set ((idsL es).idxOf m.list) (thenE (vs.getD ((idsL es).idxOf m.list) []) (gE es ((idsL es).idxOf m.list)).n (gF xs ((idsL es).idxOf m.list)) (effM (vs.getD ((idsL es).idxOf m.list) []) (gE es ((idsL es).idxOf m.list)).n m)) else xs
/-- what a mark must be that is right for its list. -/
def MkIn (es : List LsE) (m : Mk) : Prop := m.list ∈ idsL es → mkE (gE es ((idsL es).idxOf m.list)).n m.level m.restart = 0
theorem lvok_of {ls : List Lv} {n : Nat} (hn : ls.length = n) (h : clE ls = 0) : LvOk n ls := fun i hi => by
  have := lv_right h (i := i) (by omega)
  exact ⟨this.2.2.1, this.2.2.2.1⟩
theorem mkE_zero_iff {n : Nat} {a b : Int} (h : mkE n a b = 0) : 1 ≤ a ∧ a ≤ n ∧ 0 ≤ b ∧ b ≤ 32767 := by
  unfold mkE at h
  by_cases h1 : a < 1 ∨ (n : Int) < a
  · rw [if_pos h1] at h; omega
  · rw [if_neg h1] at h
    by_cases h2 : b < 0 ∨ 32767 < b
    · rw [if_pos h2] at h; omega
    · omega
set_option maxHeartbeats 8000000 in
set_option maxRecDepth 100000 in
theorem add_any (p : Nat) (A : Option Addr) (n c : Nat) (es : List LsE) (vB : Value) (vs : List (List Lv)) (AE : Option Addr) (cE : Nat) (xs : List Eff) (m : Mk) (M : Int) (B : Nat) (w : World) (hp : Blk w p 59 #[.slice A n c, vB]) (ha : LsT w A n es vs) (hbig : n ≤ 1000000) (hs : Up (idsL es))
    (hE : Own w B 51 36 effL AE n cE xs) (hC : ∀ k, k < n → clE (vs.getD k []) = 0) (hm : MkIn es m) (hx : ∀ k i, ChOk M (gF xs k i)) (hM : M ≤ 1000000000) :
    Calls Tryz.prog 37 #[.pointer (some ⟨p, 0, none⟩), .slice AE n cE, .agg (mkC m).toArray] w fun e w' => e = .returned (.tuple #[]) ∧ Own w' B 51 36 effL AE n cE (addF es vs xs m) ∧ w.grownBy w' (blk AE) := by
  have hl := ha.l.len
  have fa := fun W (hb : Below w.heap.size w W) => find_any p A n c es vB m.list W (hp.below hb) (ha.l.below hb) hbig hs.le
  rw [contains_mem] at fa
  have HA := Lib.hid (show addF es vs xs m = if m.list ∈ idsL es then xs.set ((idsL es).idxOf m.list) (thenE (vs.getD ((idsL es).idxOf m.list) []) (gE es ((idsL es).idxOf m.list)).n (gF xs ((idsL es).idxOf m.list)) (effM (vs.getD ((idsL es).idxOf m.list) []) (gE es ((idsL es).idxOf m.list)).n m)) else xs from rfl)
  have HM := Lib.hid hm
  clear hm
  unfold MkIn at HM
  generalize addF es vs xs m = R at *
  have HEF := Lib.hid (show effM (vs.getD ((idsL es).idxOf m.list) []) (gE es ((idsL es).idxOf m.list)).n m = effF (vs.getD ((idsL es).idxOf m.list) []) (gE es ((idsL es).idxOf m.list)).n (m.level - 1).toNat m.restart from rfl)
  generalize effM (vs.getD ((idsL es).idxOf m.list) []) (gE es ((idsL es).idxOf m.list)).n m = EM at *
  obtain ⟨m0, m1, m2⟩ := m
  simp only [mkC] at *
  go_enter Tryz.func37, Tryz.ntmps37
  go_upto_region 0 with fail
  go_cut [5] (fun v wx => ∃ q, v = .pointer (some ⟨q, 0, none⟩) ∧ Blk wx q 81 #[.int .i64 m0, .int .i64 m1, .int .i64 m2] ∧ w.heap.size ≤ q ∧ Below w.heap.size w wx)
  case first =>
    go_wp2_with fail
    go_meet
    case rel => exact ⟨_, rfl, Blk.new _ _ _, Nat.le_refl _, (Below.refl _ _).alloc (Nat.le_refl _) _⟩
  case rest =>
  obtain ⟨q, rfl, Bx, hq, hb1⟩ := hcut
  have k0 : wc.cell? ⟨q, 0, none⟩ = some (.int .i64 m0) := Bx.cell 0 rfl
  have fa := fa wc hb1
  by_cases f1 : m0 ∈ idsL es
  · have hik : (idsL es).idxOf m0 < n := by
      have := List.idxOf_lt_length_iff.2 f1
      rw [idsL_len] at this
      omega
    rw [hs.ix f1, decide_eq_true f1] at fa
    have hmk := mkE_zero_iff (HM.out f1)
    have HA := Lib.hid (HA.out.trans (if_pos f1))
    have hcl := hC _ hik
    generalize (idsL es).idxOf m0 = k at *
    have hlv := (ha.below hb1).v k hik
    have h9 := clE_len hcl
    have hn9 : (gE es k).n ≤ 9 := by have := hlv.len; omega
    have hLk := lvok_of hlv.len hcl
    generalize vs.getD k [] = ls at *
    go_upto_region 3 with (first | (go_at_call 24; refine fa.mono ?_; rintro e w3 ⟨rfl, hb3⟩))
    have hb5 := below_trans' hb1 hb1.size hb3
    have B3 := Bx.below hb3
    have q0 : w3.cell? ⟨p, 0, none⟩ = some (.slice A n c) := (hp.below hb5).cell 0 rfl
    have q1 : w3.cell? ⟨q, 1, none⟩ = some (.int .i64 m1) := B3.cell 1 rfl
    have q2 : w3.cell? ⟨q, 2, none⟩ = some (.int .i64 m2) := B3.cell 2 rfl
    obtain ⟨al, ea, hal, _, kl⟩ := (ha.l.below hb5).ls hik
    subst ea
    have hls3 := hlv.below hb3
    have hg0 := hE.form (by omega)
    obtain ⟨ge, rfl, hBge, hge⟩ := hg0
    have E3 := hE.below hb5
    have hlE : xs.length = n := hE.len
    have hxk := gF_get (xs := xs) (k := k) (by omega)
    obtain ⟨L, hL⟩ : ∃ L : Nat, m1 = (L : Int) + 1 := ⟨(m1 - 1).toNat, by omega⟩
    subst hL
    have hLn : L < (gE es k).n := by have := hmk.2.1; omega
    have HEF := Lib.hid (show EM = effF ls (gE es k).n L m2 from by rw [HEF.out]; congr 1; omega)
    have hEM : ∀ i, ChOk 1 (EM i) := by rw [HEF.out]; exact effF_ok _ _ _ hmk.2.2.1 hmk.2.2.2
    have hxk' := hx k
    clear fa k0 Bx B3 hb3 hlv hx hmk HM hC hcl h9
    generalize (gE es k).n = nk at *
    generalize (gE es k).c = ck at *
    generalize (gE es k).A = Ak at *
    have cE := Lib.hid (fun W (hb : Below w3.heap.size w3 W) => effect_any Ak nk ck ls L m2 W (hls3.below hb) hn9 hLn)
    rw [← HEF.out] at cE
    generalize gF xs k = X at *
    have cT := Lib.hid (fun W (hb : Below w3.heap.size w3 W) => then_any Ak nk ck ls X EM M 1 W (hls3.below hb) hn9 hLk hxk' hEM hM (by omega))
    generalize thenE ls nk X EM = Z at *
    have i0 : (0 : Int) ≤ k := by omega
    have i1 : (k : Int) < n := by omega
    have gx := E3.range effL_len hik hxk
    have lX : (effL X).length = 36 := rfl
    have lZ : (effL Z).length = 36 := rfl
    have zX : (Tryz.prog.info? 51).map (·.size) = some (effL X).length := size51
    have zZ : (Tryz.prog.info? 51).map (·.size) = some (effL Z).length := size51
    have oZ := effL_one Z
    have eX : effA X = (effL X).toArray := rfl
    have eZ : effA Z = (effL Z).toArray := rfl
    have hset := Lib.hid (fun W (hb : Below w3.heap.size w3 W) => (E3.below hb).setAll effL_len hik Z)
    have hth := Lib.hid (fun W (hb : Below w3.heap.size w3 W) => (E3.below hb).thereQ effL_len hik)
    rw [eX, eZ] at cT
    generalize effL X = lx at *
    generalize effL Z = lz at *
    generalize (List.set xs k Z) = R2 at *
    have hqg : q ≠ ge := by omega
    go_upto_region 4 with fail
    refine wp_region_held_drew (S := fun w' => w'.cell? ⟨q, 1, none⟩ = some (.int .i64 ((L : Int) + 1)) ∧ w'.cell? ⟨q, 2, none⟩ = some (.int .i64 m2)) (by kernel_rfl) ⟨q1, q2⟩ (fun hHeld => ?_)
    refine hx_take 0 (some 25) _ rfl (by kernel_rfl) (by kernel_rfl) (by kernel_rfl) (fun _ _ _ h => h) rfl (Or.inl ⟨by rfl, fun w hSw => by first | (go_simp; done) | (go_simp; with_reducible rfl)⟩) (by assumption) ?_
    try simp only [Act.put, List.setIfInBounds_toArray, List.set_cons_zero, List.set_cons_succ]
    refine hx_take 1 (some 26) _ rfl (by kernel_rfl) (by kernel_rfl) (by kernel_rfl) (fun _ _ _ h => h) rfl (Or.inl ⟨by rfl, fun w hSw => by first | (go_simp; done) | (go_simp; with_reducible rfl)⟩) (by assumption) ?_
    try simp only [Act.put, List.setIfInBounds_toArray, List.set_cons_zero, List.set_cons_succ]
    refine hx_take 2 (some 27) _ rfl (by kernel_rfl) (by kernel_rfl) (by kernel_rfl) (fun _ _ _ h => h) rfl (Or.inl ⟨by rfl, fun w hSw => by first | (go_simp; done) | (go_simp; with_reducible rfl)⟩) (by assumption) ?_
    try simp only [Act.put, List.setIfInBounds_toArray, List.set_cons_zero, List.set_cons_succ]
    refine hx_take 3 (some 28) _ rfl (by kernel_rfl) (by kernel_rfl) (by kernel_rfl) (fun _ _ _ h => h) rfl (Or.inl ⟨by rfl, fun w hSw => by first | (go_simp; done) | (go_simp; with_reducible rfl)⟩) (by assumption) ?_
    try simp only [Act.put, List.setIfInBounds_toArray, List.set_cons_zero, List.set_cons_succ]
    refine hx_take 4 (some 29) _ rfl (by kernel_rfl) (by kernel_rfl) (by kernel_rfl) (fun _ _ _ h => h) rfl (Or.inl ⟨by rfl, fun w hSw => by first | (go_simp; done) | (go_simp; with_reducible rfl)⟩) (by assumption) ?_
    try simp only [Act.put, List.setIfInBounds_toArray, List.set_cons_zero, List.set_cons_succ]
    refine hx_take 7 (some 32) _ rfl (by kernel_rfl) (by kernel_rfl) (by kernel_rfl) (fun _ _ _ h => h) rfl (Or.inl ⟨by rfl, fun w hSw => by first | (go_simp; done) | (go_simp; with_reducible rfl)⟩) (by assumption) ?_
    try simp only [Act.put, List.setIfInBounds_toArray, List.set_cons_zero, List.set_cons_succ]
    refine hx_take 8 (some 33) _ rfl (by kernel_rfl) (by kernel_rfl) (by kernel_rfl) (fun _ _ _ h => h) rfl (Or.inl ⟨by rfl, fun w hSw => by first | (go_simp; done) | (go_simp; with_reducible rfl)⟩) (by assumption) ?_
    try simp only [Act.put, List.setIfInBounds_toArray, List.set_cons_zero, List.set_cons_succ]
    refine hx_take 10 (some 35) _ rfl (by kernel_rfl) (by kernel_rfl) (by kernel_rfl) (fun _ _ _ h => h) rfl (Or.inl ⟨by rfl, fun w hSw => by first | (go_simp; done) | (go_simp; with_reducible rfl)⟩) (by assumption) ?_
    try simp only [Act.put, List.setIfInBounds_toArray, List.set_cons_zero, List.set_cons_succ]
    refine hx_take 5 (some 30) (.pointer (some ⟨ge, k * 36, none⟩)) rfl (by kernel_rfl) (by kernel_rfl) (by kernel_rfl) (fun _ _ _ h => h) rfl (Or.inl ⟨by rfl, fun w hSw => by first | (go_simp; done) | (go_simp; with_reducible rfl)⟩) (by assumption) ?_
    try simp only [Act.put, List.setIfInBounds_toArray, List.set_cons_zero, List.set_cons_succ]
    refine hx_take 9 (some 34) _ rfl (by kernel_rfl) (by kernel_rfl) (by kernel_rfl) (fun _ _ _ h => h) rfl (Or.inl ⟨by rfl, fun w hSw => by first | (go_simp; done) | (go_simp; with_reducible rfl)⟩) (by assumption) ?_
    try simp only [Act.put, List.setIfInBounds_toArray, List.set_cons_zero, List.set_cons_succ]
    refine hx_take 11 (some 36) _ rfl (by kernel_rfl) (by kernel_rfl) (by kernel_rfl) (fun _ _ _ h => h) rfl (Or.inl ⟨by rfl, fun w hSw => by first | (go_simp; done) | (go_simp; with_reducible rfl)⟩) (by assumption) ?_
    try simp only [Act.put, List.setIfInBounds_toArray, List.set_cons_zero, List.set_cons_succ]
    refine hx2 6 12 (by kernel_rfl) ?_ ?_
    · refine hx_loadQ 6 (some 31) _ _ ge (k * 36) lx _ rfl (by rfl) rfl rfl rfl gx Tryz.underlying51 rfl zX hHeld ?_
      try simp only [Act.put, List.setIfInBounds_toArray, List.set_cons_zero, List.set_cons_succ]
      refine hx1 12 (by kernel_rfl) ?_
      refine hx_call 12 (some 37) _ _ _ _ rfl (by rfl) rfl (by go_simp) (cE.out w3.drew (bDrew (Below.refl _ _))) ?_
      rintro w9 hb9
      have hb9 : Below w3.heap.size w3 w9 := (bDrew (Below.refl _ _)).trans hb9
      refine ⟨⟨keep1 hb9 q1, keep1 hb9 q2⟩, ?_⟩
      try simp only [Act.put, List.setIfInBounds_toArray, List.set_cons_zero, List.set_cons_succ]
      refine hx1 13 (by kernel_rfl) ?_
      refine hx_call 13 (some 38) _ _ _ _ rfl (by rfl) rfl (by go_simp) (cT.out w9 hb9) ?_
      rintro w8 hb8
      have hba := below_trans' hb9 hb9.size hb8
      refine ⟨⟨keep1 hba q1, keep1 hba q2⟩, ?_⟩
      try simp only [Act.put, List.setIfInBounds_toArray, List.set_cons_zero, List.set_cons_succ]
      have S9 : w8.cell? ⟨q, 1, none⟩ = some (.int .i64 ((L : Int) + 1)) ∧ w8.cell? ⟨q, 2, none⟩ = some (.int .i64 m2) := ⟨keep1 hba q1, keep1 hba q2⟩
      refine hx_take 14 (some 39) (.pointer (some ⟨ge, k * 36, none⟩)) rfl (by kernel_rfl) (by kernel_rfl) (by kernel_rfl) (fun _ _ _ h => h) rfl (Or.inl ⟨by rfl, fun w hSw => by first | (go_simp; done) | (go_simp; with_reducible rfl)⟩) S9 ?_
      try simp only [Act.put, List.setIfInBounds_toArray, List.set_cons_zero, List.set_cons_succ]
      refine hx1 15 (by kernel_rfl) ?_
      refine hx_storeQ 15 _ _ _ ge (k * 36) lz rfl (by rfl) rfl rfl rfl rfl (by rw [lZ]; exact hth.out w8 hba) zZ oZ ⟨(World.cell?_setCells_out _ _ _ _ _ (fun e => absurd e hqg)).trans S9.1, (World.cell?_setCells_out _ _ _ _ _ (fun e => absurd e hqg)).trans S9.2⟩ ?_
      try simp only [Act.put, List.setIfInBounds_toArray, List.set_cons_zero, List.set_cons_succ]
      refine wpAnyH_done (by kernel_rfl) ?_ _
      go_wp2_with fail
      go_end0
      refine ⟨rfl, by rw [HA.out]; exact hset.out w8 hba, ?_⟩
      exact (grown_below (below_trans' hb5 hb5.size hba)).trans (only_setCells ge _ _ _)
    · refine hx_call 12 (some 37) _ _ _ _ rfl (by rfl) rfl (by go_simp) (cE.out w3.drew (bDrew (Below.refl _ _))) ?_
      rintro w9 hb9
      have hb9 : Below w3.heap.size w3 w9 := (bDrew (Below.refl _ _)).trans hb9
      refine ⟨⟨keep1 hb9 q1, keep1 hb9 q2⟩, ?_⟩
      try simp only [Act.put, List.setIfInBounds_toArray, List.set_cons_zero, List.set_cons_succ]
      refine hx1 6 (by kernel_rfl) ?_
      refine hx_loadQ 6 (some 31) _ _ ge (k * 36) lx _ rfl (by rfl) rfl rfl rfl (fun j v hv => keep1 hb9 (gx j v hv)) Tryz.underlying51 rfl zX ⟨keep1 hb9 q1, keep1 hb9 q2⟩ ?_
      try simp only [Act.put, List.setIfInBounds_toArray, List.set_cons_zero, List.set_cons_succ]
      refine hx1 13 (by kernel_rfl) ?_
      refine hx_call 13 (some 38) _ _ _ _ rfl (by rfl) rfl (by go_simp) (cT.out w9 hb9) ?_
      rintro w8 hb8
      have hba := below_trans' hb9 hb9.size hb8
      refine ⟨⟨keep1 hba q1, keep1 hba q2⟩, ?_⟩
      try simp only [Act.put, List.setIfInBounds_toArray, List.set_cons_zero, List.set_cons_succ]
      have S9 : w8.cell? ⟨q, 1, none⟩ = some (.int .i64 ((L : Int) + 1)) ∧ w8.cell? ⟨q, 2, none⟩ = some (.int .i64 m2) := ⟨keep1 hba q1, keep1 hba q2⟩
      refine hx_take 14 (some 39) (.pointer (some ⟨ge, k * 36, none⟩)) rfl (by kernel_rfl) (by kernel_rfl) (by kernel_rfl) (fun _ _ _ h => h) rfl (Or.inl ⟨by rfl, fun w hSw => by first | (go_simp; done) | (go_simp; with_reducible rfl)⟩) S9 ?_
      try simp only [Act.put, List.setIfInBounds_toArray, List.set_cons_zero, List.set_cons_succ]
      refine hx1 15 (by kernel_rfl) ?_
      refine hx_storeQ 15 _ _ _ ge (k * 36) lz rfl (by rfl) rfl rfl rfl rfl (by rw [lZ]; exact hth.out w8 hba) zZ oZ ⟨(World.cell?_setCells_out _ _ _ _ _ (fun e => absurd e hqg)).trans S9.1, (World.cell?_setCells_out _ _ _ _ _ (fun e => absurd e hqg)).trans S9.2⟩ ?_
      try simp only [Act.put, List.setIfInBounds_toArray, List.set_cons_zero, List.set_cons_succ]
      refine wpAnyH_done (by kernel_rfl) ?_ _
      go_wp2_with fail
      go_end0
      refine ⟨rfl, by rw [HA.out]; exact hset.out w8 hba, ?_⟩
      exact (grown_below (below_trans' hb5 hb5.size hba)).trans (only_setCells ge _ _ _)
  · rw [decide_eq_false f1] at fa
    have HA := Lib.hid (HA.out.trans (if_neg f1))
    generalize ixF (idsL es) m0 = ix at *
    go_wp2_with (first | (go_at_call 24; refine fa.mono ?_; rintro e w3 ⟨rfl, hb3⟩))
    go_end0
    have hbe := below_trans' hb1 hb1.size hb3
    exact ⟨rfl, by rw [HA.out]; exact hE.below hbe, grown_below hbe⟩
end Go.Proofs.YtbpodnhebjjkaaaGreatDoor
