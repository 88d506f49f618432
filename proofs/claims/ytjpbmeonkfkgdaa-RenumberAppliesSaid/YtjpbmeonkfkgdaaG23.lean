/- The law's counted. -/
import Derived.Test.YtjpbmeonkfkgdaaG21
import Derived.Test.YtjpbmeonkfkgdaaG16
import Derived.Test.YtjpbmeonkfkgdaaH
namespace Go.Proofs.Ytjpbmeonkfkgdaa
open Go.RowKit

theorem Blk.thereN {w : World} {g : Nat} {t : TypeId} {c : Cn} (h : Blk w g t (cnA c)) : w.there g 0 18 := fun j hj => by
  rw [Nat.zero_add]
  refine ⟨?_, h.frozen j⟩
  have e : (cnA c)[j]? = some ((cnA c)[j]'(by rw [cnA_size]; exact hj)) := Array.getElem?_eq_getElem _
  rw [h.cell j e]
  rfl
theorem Blk.cn_set {w : World} {g : Nat} {t : TypeId} (h : Blk w g t (cnA cnZ)) (X : Cn) {l : List Value} (e : l = cnL X) : Blk (w.setCells g 0 l) g t (cnA X) := by
  subst e
  exact Blk.setCells_ (cnL X) [] (cnL cnZ) w h rfl
theorem Blk.rangeN {w : World} {g : Nat} {t : TypeId} {X : Cn} (h : Blk w g t (cnA X)) {lX : List Value} (e : lX = cnL X) : w.rangeAt g 0 lX := fun j v hv => by
  subst e
  rw [Nat.zero_add]
  exact h.cell j (by unfold cnA; simpa using hv)
theorem size48 : (Try.prog.info? 48).map (·.size) = some 18 := by kernel_rfl
theorem CW.setC {w : World} {B p5 p8 g : Nat} {Z : Cn} {vs : List Value} (h : CW w B p5 p8 Z) (h5 : g ≠ p5) (h8 : g ≠ p8) : CW (w.setCells g 0 vs) B p5 p8 Z :=
  ⟨h.b5.keep (only_setCells g vs 0 w) (fun e => h5 (by injection e)), h.b8.keep (only_setCells g vs 0 w) (fun e => h8 (by injection e)), h.n, h.m5, h.m8⟩
theorem CW.row {w : World} {B p5 p8 : Nat} {Z : Cn} (h : CW w B p5 p8 Z) (Z' : Cn) : CW (w.setRow p5 (cnA Z')) B p5 p8 Z' :=
  ⟨setRow_heap w p5 _ _ _ _ h.b5, (setRow_other w p5 p8 _ (Ne.symm h.n)).trans h.b8, h.n, h.m5, h.m8⟩
theorem nx_ok {ls : List Lv} {n : Nat} {c : Cn} {L : Nat} {r K : Int} (hC : clE ls = 0) (hL : L < n) (h0 : 0 ≤ r) (h1 : r ≤ 32767) (hc : CnOk K c) (hK : K ≤ 1099511627776) : nxE ls n c ((L : Int) + 1) r = 0 ∧ nxF ls n c ((L : Int) + 1) r = nextC ls n c L r := by
  have e : nxE ls n c ((L : Int) + 1) r = 0 := by
    unfold nxE ckE
    rw [if_neg (by simp [hC]; omega), if_neg (by omega), if_neg (by rw [ovB_no (fun i _ => by have := hc i; omega)]; simp)]
  refine ⟨e, ?_⟩
  unfold nxF
  rw [if_pos e, show ((L : Int) + 1 - 1).toNat = L by omega]
set_option maxHeartbeats 8000000 in
set_option maxRecDepth 100000 in
theorem counted_any (A : Option Addr) (n cA : Nat) (ls : List Lv) (AM : Option Addr) (m cm : Nat) (ms : List Mk) (c : Cn) (K : Int) (w : World) (ha : Sl w 4 lvC A n ls) (hm : Sl w 3 mkC AM m ms) (hL : LvOk n ls) (hC : clE ls = 0) (hM : MkOk n ms) (h1 : ∀ i, i < m → (gM ms i).list = 1) (hm1 : m ≤ 1000) (hc : CnOk K c) (hK0 : 32767 ≤ K) (hK : K ≤ 1000000000) :
    Calls Try.prog 17 #[.slice A n cA, .agg (cnA c), .slice AM m cm, .int .i64 1] w fun e w' => e = .returned (.tuple #[.agg (cnA (countC ls n c ms)), .bool true]) ∧ Below w.heap.size w w' := by
  have hlm := hm.len
  have T0 := CW.new w c
  have hb0 := ((Below.refl w.heap.size w).alloc (Nat.le_refl _) (.cells (cnA c) 48)).alloc (by simp) (.cells (cnA cnZ) 48)
  have HMK := Lib.hid hM
  have HCO := Lib.hid (count_ok hL hM hK0 hc)
  have HCL := Lib.hid hC
  have H1 := Lib.hid h1
  clear hM hL hC h1 hc
  go_enter Try.func17, Try.ntmps17
  go_upto_region 0 with fail
  go_cut [5, 8, 9] (fun v5 v8 v9 wx => ∃ p5 p8, v5 = .pointer (some ⟨p5, 0, none⟩) ∧ v8 = .pointer (some ⟨p8, 0, none⟩) ∧ v9 = .bool false ∧ CW wx w.heap.size p5 p8 c ∧ Below w.heap.size w wx)
  case first =>
    go_wp2_with fail
    go_meet
    case rel => exact ⟨_, _, rfl, rfl, rfl, T0, hb0⟩
  case rest =>
  obtain ⟨p5, p8, rfl, rfl, rfl, T1, hb1⟩ := hcut
  clear T0 hb0
  go_wp2_with fail
  go_loopw [10] (fun vi wr => ∃ i : Nat, vi = .int .i64 i ∧ i ≤ m ∧ CW wr w.heap.size p5 p8 (countC ls n c (ms.take i)) ∧ Below w.heap.size w wr) (fun vi _ => m - (intOf vi).toNat)
  case atStart => exact ⟨0, rfl, Nat.zero_le _, T1, hb1⟩
  case round =>
    obtain ⟨i, rfl, hi, T3, hbw⟩ := hrel
    clear T1 hb1
    by_cases hlt : i < m
    · obtain ⟨ad, e, hl2, k0, k1, k2⟩ := (hm.below hbw).mk_ hlt
      subst e
      have HT := countC_take ls n c ms (i := i) (by omega)
      have mo := HMK.out i (by omega)
      have co := HCO.out i (by omega)
      have h1 := H1.out i hlt
      generalize gM ms i = mk at *
      obtain ⟨mx, ml, mr⟩ := mk
      simp only at k0 k1 k2 mo h1 HT
      subst h1
      obtain ⟨L, rfl⟩ : ∃ L : Nat, ml = (L : Int) + 1 := ⟨(ml - 1).toNat, by omega⟩
      rw [show ((L : Int) + 1 - 1).toNat = L by omega] at HT
      have HT := Lib.hid HT
      have nx := nx_ok (ls := ls) (n := n) (L := L) (r := mr) HCL.out (by omega) (by omega) (by omega) co (by omega)
      have hnx := at_below (fun W (hW : Below wr.heap.size wr W) => next_any A n cA ls (countC ls n c (ms.take i)) ((L : Int) + 1) mr W ((ha.below hbw).below hW))
      rw [nx.1, nx.2] at hnx
      obtain ⟨lc, hlc⟩ : ∃ l, l = cnL (countC ls n c (ms.take i)) := ⟨_, rfl⟩
      obtain ⟨lN, hlN⟩ : ∃ l, l = cnL (nextC ls n (countC ls n c (ms.take i)) L mr) := ⟨_, rfl⟩
      have g_lc := T3.b5.rangeN hlc
      rw [cnA_L, cnA_L, ← hlc, ← hlN] at hnx
      have i_lc : (Try.prog.info? 48).map (·.size) = some lc.length := by rw [hlc]; exact size48
      have i_lN : (Try.prog.info? 48).map (·.size) = some lN.length := by rw [hlN]; exact size48
      have e_lN : lN.length = 18 := by rw [hlN]; rfl
      have o_lN : ∀ v ∈ lN, v.oneCell' = true := by rw [hlN]; exact cnL_one _
      have H_lN := Lib.hid hlN
      clear hlc hlN nx co
      obtain ⟨ml, hml⟩ : ∃ x : Int, x = (L : Int) + 1 := ⟨_, rfl⟩
      rw [← hml] at k1 hnx
      have HML := Lib.hid hml
      clear hml
      go_upto_region 5 with fail
      refine wp_region_held_drew (S := fun w' => w'.rangeAt p5 0 lc ∧ w'.cell? ⟨(ad.add (i * 3)).block, (ad.add (i * 3)).off + 1, none⟩ = some (.int .i64 ml) ∧ w'.cell? ⟨(ad.add (i * 3)).block, (ad.add (i * 3)).off + 2, none⟩ = some (.int .i64 mr)) (by kernel_rfl) ⟨rangeAt_below (by repeat (first | assumption | exact Below.refl _ _ | refine bDrew ?_ | refine below_drewN ?_ _ | refine bAlloc ?_ _ | refine bSetC ?_ (by assumption) _)) g_lc, keep1 (by repeat (first | assumption | exact Below.refl _ _ | refine bDrew ?_ | refine below_drewN ?_ _ | refine bAlloc ?_ _ | refine bSetC ?_ (by assumption) _)) k1, keep1 (by repeat (first | assumption | exact Below.refl _ _ | refine bDrew ?_ | refine below_drewN ?_ _ | refine bAlloc ?_ _ | refine bSetC ?_ (by assumption) _)) k2⟩ (fun hHeld => ?_)
      refine hx_take 0 (some 27) _ rfl (by kernel_rfl) (by kernel_rfl) (by kernel_rfl) (fun _ _ _ h => h) rfl (Or.inl ⟨by rfl, fun w hSw => by first | (go_simp; done) | (go_simp; with_reducible rfl)⟩) (by assumption) ?_
      try simp only [Act.put, List.setIfInBounds_toArray, List.set_cons_zero, List.set_cons_succ]
      refine hx_take 1 (some 28) (.agg lc.toArray) rfl (by kernel_rfl) (by kernel_rfl) (by kernel_rfl) (fun _ _ _ h => h) rfl (yieldsIf_load_mid (by rfl) _ _ rfl p5 0 rfl lc _ (fun w hSw => hSw.1) Try.underlying48 rfl (by assumption)) (by assumption) ?_
      try simp only [Act.put, List.setIfInBounds_toArray, List.set_cons_zero, List.set_cons_succ]
      refine hx_take 2 (some 29) _ rfl (by kernel_rfl) (by kernel_rfl) (by kernel_rfl) (fun _ _ _ h => h) rfl (Or.inl ⟨by rfl, fun w hSw => by first | (go_simp; done) | (go_simp; with_reducible rfl)⟩) (by assumption) ?_
      try simp only [Act.put, List.setIfInBounds_toArray, List.set_cons_zero, List.set_cons_succ]
      refine hx_take 3 (some 30) _ rfl (by kernel_rfl) (by kernel_rfl) (by kernel_rfl) (fun _ _ _ h => h) rfl (Or.inl ⟨by rfl, fun w hSw => by first | (go_simp; done) | (go_simp; with_reducible rfl)⟩) (by assumption) ?_
      try simp only [Act.put, List.setIfInBounds_toArray, List.set_cons_zero, List.set_cons_succ]
      refine hx_take 7 (some 34) _ rfl (by kernel_rfl) (by kernel_rfl) (by kernel_rfl) (fun _ _ _ h => h) rfl (Or.inl ⟨by rfl, fun w hSw => by first | (go_simp; done) | (go_simp; with_reducible rfl)⟩) (by assumption) ?_
      try simp only [Act.put, List.setIfInBounds_toArray, List.set_cons_zero, List.set_cons_succ]
      refine hx_take 8 (some 35) _ rfl (by kernel_rfl) (by kernel_rfl) (by kernel_rfl) (fun _ _ _ h => h) rfl (Or.inl ⟨by rfl, fun w hSw => by first | (go_simp; done) | (go_simp; with_reducible rfl)⟩) (by assumption) ?_
      try simp only [Act.put, List.setIfInBounds_toArray, List.set_cons_zero, List.set_cons_succ]
      refine hx_take 4 (some 31) _ rfl (by kernel_rfl) (by kernel_rfl) (by kernel_rfl) (fun _ _ _ h => h) rfl (Or.inl ⟨by rfl, fun w hSw => by first | (go_simp; done) | (go_simp; with_reducible rfl)⟩) (by assumption) ?_
      try simp only [Act.put, List.setIfInBounds_toArray, List.set_cons_zero, List.set_cons_succ]
      refine hx_take 9 (some 36) _ rfl (by kernel_rfl) (by kernel_rfl) (by kernel_rfl) (fun _ _ _ h => h) rfl (Or.inl ⟨by rfl, fun w hSw => by first | (go_simp; done) | (go_simp; with_reducible rfl)⟩) (by assumption) ?_
      try simp only [Act.put, List.setIfInBounds_toArray, List.set_cons_zero, List.set_cons_succ]
      refine hx_take 5 (some 32) _ rfl (by kernel_rfl) (by kernel_rfl) (by kernel_rfl) (fun _ _ _ h => h) rfl (Or.inl ⟨by rfl, fun w hSw => by first | (go_simp; done) | (go_simp; with_reducible rfl)⟩) (by assumption) ?_
      try simp only [Act.put, List.setIfInBounds_toArray, List.set_cons_zero, List.set_cons_succ]
      refine hx_take 10 (some 37) _ rfl (by kernel_rfl) (by kernel_rfl) (by kernel_rfl) (fun _ _ _ h => h) rfl (Or.inl ⟨by rfl, fun w hSw => by first | (go_simp; done) | (go_simp; with_reducible rfl)⟩) (by assumption) ?_
      try simp only [Act.put, List.setIfInBounds_toArray, List.set_cons_zero, List.set_cons_succ]
      refine hx_take 6 (some 33) _ rfl (by kernel_rfl) (by kernel_rfl) (by kernel_rfl) (fun _ _ _ h => h) rfl (Or.inl ⟨by rfl, fun w hSw => by first | (go_simp; done) | (go_simp; with_reducible rfl)⟩) (by assumption) ?_
      try simp only [Act.put, List.setIfInBounds_toArray, List.set_cons_zero, List.set_cons_succ]
      refine hx_take 11 (some 38) _ rfl (by kernel_rfl) (by kernel_rfl) (by kernel_rfl) (fun _ _ _ h => h) rfl (Or.inl ⟨by rfl, fun w hSw => by first | (go_simp; done) | (go_simp; with_reducible rfl)⟩) (by assumption) ?_
      try simp only [Act.put, List.setIfInBounds_toArray, List.set_cons_zero, List.set_cons_succ]
      refine hx2 12 16 (by kernel_rfl) ?_ ?_
      · refine hx_call 12 (some 39) _ _ _ _ rfl (by rfl) rfl (by go_simp) (hnx (wr.drew) (by repeat (first | assumption | exact Below.refl _ _ | refine bDrew ?_ | refine below_drewN ?_ _ | refine bAlloc ?_ _ | refine bSetC ?_ (by assumption) _))) ?_
        rintro w9 ⟨b9, B9⟩
        have S9 : w9.rangeAt p5 0 lc ∧ w9.cell? ⟨(ad.add (i * 3)).block, (ad.add (i * 3)).off + 1, none⟩ = some (.int .i64 ml) ∧ w9.cell? ⟨(ad.add (i * 3)).block, (ad.add (i * 3)).off + 2, none⟩ = some (.int .i64 mr) := ⟨rangeAt_below (B9) g_lc, keep1 (B9) k1, keep1 (B9) k2⟩
        refine ⟨S9, ?_⟩
        try simp only [Act.put, List.setIfInBounds_toArray, List.set_cons_zero, List.set_cons_succ]
        refine hx_take 13 (some 26) _ rfl (by kernel_rfl) (by kernel_rfl) (by kernel_rfl) (fun _ _ _ h => h) rfl (Or.inl ⟨by rfl, fun w hSw => by first | (go_simp; done) | (go_simp; with_reducible rfl)⟩) (by assumption) ?_
        try simp only [Act.put, List.setIfInBounds_toArray, List.set_cons_zero, List.set_cons_succ]
        refine hx_take 14 (some 40) _ rfl (by kernel_rfl) (by kernel_rfl) (by kernel_rfl) (fun _ _ _ h => h) rfl (Or.inl ⟨by rfl, fun w hSw => by first | (go_simp; done) | (go_simp; with_reducible rfl)⟩) (by assumption) ?_
        try simp only [Act.put, List.setIfInBounds_toArray, List.set_cons_zero, List.set_cons_succ]
        refine hx_take 15 (some 41) _ rfl (by kernel_rfl) (by kernel_rfl) (by kernel_rfl) (fun _ _ _ h => h) rfl (Or.inl ⟨by rfl, fun w hSw => by first | (go_simp; done) | (go_simp; with_reducible rfl)⟩) (by assumption) ?_
        try simp only [Act.put, List.setIfInBounds_toArray, List.set_cons_zero, List.set_cons_succ]
        refine hx1 16 (by kernel_rfl) ?_
        refine hx_val 16 (some 11) (.pointer (some ⟨w9.heap.size, 0, none⟩)) ((w9).alloc (.cells (List.toArray (.int .i64 0 :: .int .i64 0 :: .int .i64 0 :: .int .i64 0 :: .int .i64 0 :: .int .i64 0 :: .int .i64 0 :: .int .i64 0 :: .int .i64 0 :: .bool false :: .bool false :: .bool false :: .bool false :: .bool false :: .bool false :: .bool false :: .bool false :: .bool false :: [])) 48)) rfl (by rfl) rfl (by rfl) ⟨rangeAt_below (by repeat (first | assumption | exact Below.refl _ _ | refine bDrew ?_ | refine below_drewN ?_ _ | refine bAlloc ?_ _ | refine bSetC ?_ (by assumption) _)) g_lc, keep1 (by repeat (first | assumption | exact Below.refl _ _ | refine bDrew ?_ | refine below_drewN ?_ _ | refine bAlloc ?_ _ | refine bSetC ?_ (by assumption) _)) k1, keep1 (by repeat (first | assumption | exact Below.refl _ _ | refine bDrew ?_ | refine below_drewN ?_ _ | refine bAlloc ?_ _ | refine bSetC ?_ (by assumption) _)) k2⟩ ?_
        try simp only [Act.put, List.setIfInBounds_toArray, List.set_cons_zero, List.set_cons_succ]
        have NA : Blk (w9.alloc (.cells (List.toArray (.int .i64 0 :: .int .i64 0 :: .int .i64 0 :: .int .i64 0 :: .int .i64 0 :: .int .i64 0 :: .int .i64 0 :: .int .i64 0 :: .int .i64 0 :: .bool false :: .bool false :: .bool false :: .bool false :: .bool false :: .bool false :: .bool false :: .bool false :: .bool false :: [])) 48)) w9.heap.size 48 (cnA cnZ) := Blk.new w9 48 (cnA cnZ)
        have TA := ((T3.drewN 1).below b9).below (bAlloc (Below.refl _ w9) (.cells (List.toArray (.int .i64 0 :: .int .i64 0 :: .int .i64 0 :: .int .i64 0 :: .int .i64 0 :: .int .i64 0 :: .int .i64 0 :: .int .i64 0 :: .int .i64 0 :: .bool false :: .bool false :: .bool false :: .bool false :: .bool false :: .bool false :: .bool false :: .bool false :: .bool false :: [])) 48))
        refine hx1 17 (by kernel_rfl) ?_
        have hgg : wr.heap.size ≤ w9.heap.size := B9.size
        have hBF : Below wr.heap.size wr ((w9.alloc (.cells (List.toArray (.int .i64 0 :: .int .i64 0 :: .int .i64 0 :: .int .i64 0 :: .int .i64 0 :: .int .i64 0 :: .int .i64 0 :: .int .i64 0 :: .int .i64 0 :: .bool false :: .bool false :: .bool false :: .bool false :: .bool false :: .bool false :: .bool false :: .bool false :: .bool false :: [])) 48)).setCells (w9.heap.size) 0 lN) := by repeat (first | assumption | exact Below.refl _ _ | refine bDrew ?_ | refine below_drewN ?_ _ | refine bAlloc ?_ _ | refine bSetC ?_ (by assumption) _)
        refine hx_store 17 48 (.tmp 11) (.tmp 40) (w9.heap.size) lN rfl (by rfl) rfl rfl rfl rfl (by rw [e_lN]; exact (NA).thereN) i_lN o_lN ⟨rangeAt_below (hBF) g_lc, keep1 (hBF) k1, keep1 (hBF) k2⟩ ?_
        try simp only [Act.put, List.setIfInBounds_toArray, List.set_cons_zero, List.set_cons_succ]
        have SF : ((w9.alloc (.cells (List.toArray (.int .i64 0 :: .int .i64 0 :: .int .i64 0 :: .int .i64 0 :: .int .i64 0 :: .int .i64 0 :: .int .i64 0 :: .int .i64 0 :: .int .i64 0 :: .bool false :: .bool false :: .bool false :: .bool false :: .bool false :: .bool false :: .bool false :: .bool false :: .bool false :: [])) 48)).setCells (w9.heap.size) 0 lN).rangeAt p5 0 lc ∧ ((w9.alloc (.cells (List.toArray (.int .i64 0 :: .int .i64 0 :: .int .i64 0 :: .int .i64 0 :: .int .i64 0 :: .int .i64 0 :: .int .i64 0 :: .int .i64 0 :: .int .i64 0 :: .bool false :: .bool false :: .bool false :: .bool false :: .bool false :: .bool false :: .bool false :: .bool false :: .bool false :: [])) 48)).setCells (w9.heap.size) 0 lN).cell? ⟨(ad.add (i * 3)).block, (ad.add (i * 3)).off + 1, none⟩ = some (.int .i64 ml) ∧ ((w9.alloc (.cells (List.toArray (.int .i64 0 :: .int .i64 0 :: .int .i64 0 :: .int .i64 0 :: .int .i64 0 :: .int .i64 0 :: .int .i64 0 :: .int .i64 0 :: .int .i64 0 :: .bool false :: .bool false :: .bool false :: .bool false :: .bool false :: .bool false :: .bool false :: .bool false :: .bool false :: [])) 48)).setCells (w9.heap.size) 0 lN).cell? ⟨(ad.add (i * 3)).block, (ad.add (i * 3)).off + 2, none⟩ = some (.int .i64 mr) := ⟨rangeAt_below (hBF) g_lc, keep1 (hBF) k1, keep1 (hBF) k2⟩
        refine hx_take 18 (some 12) _ rfl (by kernel_rfl) (by kernel_rfl) (by kernel_rfl) (fun _ _ _ h => h) rfl (Or.inl ⟨by rfl, fun w hSw => by first | (go_simp; done) | (go_simp; with_reducible rfl)⟩) (by assumption) ?_
        try simp only [Act.put, List.setIfInBounds_toArray, List.set_cons_zero, List.set_cons_succ]
        refine wpAnyH_done (by kernel_rfl) ?_ _
        have T5 := (TA).setC (g := w9.heap.size) (vs := lN) (by have := T3.b5.lt; omega) (by have := T3.b8.lt; omega)
        have N5 := (NA).cn_set (nextC ls n (countC ls n c (ms.take i)) L mr) H_lN.out
        have b5 := T5.b5
        have b11 := N5
        unfold Blk at b5 b11
        have hBG := below_trans' hbw hbw.size hBF
        go_wp2_with (first | (refine wpList_load_row rfl 48 _ rfl (w9.heap.size) rfl 48 _ (0, 0) _ b11 Try.underlying48 rfl (by kernel_rfl) ?_) | (refine wpList_store_row rfl 48 _ _ rfl p5 _ rfl rfl 48 _ b5 (by kernel_rfl) rfl (cnA_one _) ?_))
        go_roundw
        case measure => rw [intOf, intOf]; omega
        case rel => exact ⟨i + 1, by simp, by omega, by rw [HT.out]; exact T5.row _, below_setRow hBG T5.m5 _⟩
      · refine hx_val 16 (some 11) (.pointer (some ⟨wr.heap.size, 0, none⟩)) ((wr.drew).alloc (.cells (List.toArray (.int .i64 0 :: .int .i64 0 :: .int .i64 0 :: .int .i64 0 :: .int .i64 0 :: .int .i64 0 :: .int .i64 0 :: .int .i64 0 :: .int .i64 0 :: .bool false :: .bool false :: .bool false :: .bool false :: .bool false :: .bool false :: .bool false :: .bool false :: .bool false :: [])) 48)) rfl (by rfl) rfl (by rfl) ⟨rangeAt_below (by repeat (first | assumption | exact Below.refl _ _ | refine bDrew ?_ | refine below_drewN ?_ _ | refine bAlloc ?_ _ | refine bSetC ?_ (by assumption) _)) g_lc, keep1 (by repeat (first | assumption | exact Below.refl _ _ | refine bDrew ?_ | refine below_drewN ?_ _ | refine bAlloc ?_ _ | refine bSetC ?_ (by assumption) _)) k1, keep1 (by repeat (first | assumption | exact Below.refl _ _ | refine bDrew ?_ | refine below_drewN ?_ _ | refine bAlloc ?_ _ | refine bSetC ?_ (by assumption) _)) k2⟩ ?_
        try simp only [Act.put, List.setIfInBounds_toArray, List.set_cons_zero, List.set_cons_succ]
        have NA : Blk ((wr.drew).alloc (.cells (List.toArray (.int .i64 0 :: .int .i64 0 :: .int .i64 0 :: .int .i64 0 :: .int .i64 0 :: .int .i64 0 :: .int .i64 0 :: .int .i64 0 :: .int .i64 0 :: .bool false :: .bool false :: .bool false :: .bool false :: .bool false :: .bool false :: .bool false :: .bool false :: .bool false :: [])) 48)) wr.heap.size 48 (cnA cnZ) := Blk.new wr.drew 48 (cnA cnZ)
        have TA := (T3.drewN 1).below (bAlloc (Below.refl _ (wr.drewN 1)) (.cells (List.toArray (.int .i64 0 :: .int .i64 0 :: .int .i64 0 :: .int .i64 0 :: .int .i64 0 :: .int .i64 0 :: .int .i64 0 :: .int .i64 0 :: .int .i64 0 :: .bool false :: .bool false :: .bool false :: .bool false :: .bool false :: .bool false :: .bool false :: .bool false :: .bool false :: [])) 48))
        refine hx1 12 (by kernel_rfl) ?_
        refine hx_call 12 (some 39) _ _ _ _ rfl (by rfl) rfl (by go_simp) (hnx ((wr.drew).alloc (.cells (List.toArray (.int .i64 0 :: .int .i64 0 :: .int .i64 0 :: .int .i64 0 :: .int .i64 0 :: .int .i64 0 :: .int .i64 0 :: .int .i64 0 :: .int .i64 0 :: .bool false :: .bool false :: .bool false :: .bool false :: .bool false :: .bool false :: .bool false :: .bool false :: .bool false :: [])) 48)) (by repeat (first | assumption | exact Below.refl _ _ | refine bDrew ?_ | refine below_drewN ?_ _ | refine bAlloc ?_ _ | refine bSetC ?_ (by assumption) _))) ?_
        rintro w9 ⟨b9, B9⟩
        have S9 : w9.rangeAt p5 0 lc ∧ w9.cell? ⟨(ad.add (i * 3)).block, (ad.add (i * 3)).off + 1, none⟩ = some (.int .i64 ml) ∧ w9.cell? ⟨(ad.add (i * 3)).block, (ad.add (i * 3)).off + 2, none⟩ = some (.int .i64 mr) := ⟨rangeAt_below (B9) g_lc, keep1 (B9) k1, keep1 (B9) k2⟩
        refine ⟨S9, ?_⟩
        try simp only [Act.put, List.setIfInBounds_toArray, List.set_cons_zero, List.set_cons_succ]
        refine hx_take 13 (some 26) _ rfl (by kernel_rfl) (by kernel_rfl) (by kernel_rfl) (fun _ _ _ h => h) rfl (Or.inl ⟨by rfl, fun w hSw => by first | (go_simp; done) | (go_simp; with_reducible rfl)⟩) (by assumption) ?_
        try simp only [Act.put, List.setIfInBounds_toArray, List.set_cons_zero, List.set_cons_succ]
        refine hx_take 14 (some 40) _ rfl (by kernel_rfl) (by kernel_rfl) (by kernel_rfl) (fun _ _ _ h => h) rfl (Or.inl ⟨by rfl, fun w hSw => by first | (go_simp; done) | (go_simp; with_reducible rfl)⟩) (by assumption) ?_
        try simp only [Act.put, List.setIfInBounds_toArray, List.set_cons_zero, List.set_cons_succ]
        refine hx_take 15 (some 41) _ rfl (by kernel_rfl) (by kernel_rfl) (by kernel_rfl) (fun _ _ _ h => h) rfl (Or.inl ⟨by rfl, fun w hSw => by first | (go_simp; done) | (go_simp; with_reducible rfl)⟩) (by assumption) ?_
        try simp only [Act.put, List.setIfInBounds_toArray, List.set_cons_zero, List.set_cons_succ]
        refine hx1 17 (by kernel_rfl) ?_
        have hgg : wr.heap.size ≤ wr.heap.size := Nat.le_refl _
        have hBF : Below wr.heap.size wr ((w9).setCells (wr.heap.size) 0 lN) := by repeat (first | assumption | exact Below.refl _ _ | refine bDrew ?_ | refine below_drewN ?_ _ | refine bAlloc ?_ _ | refine bSetC ?_ (by assumption) _)
        refine hx_store 17 48 (.tmp 11) (.tmp 40) (wr.heap.size) lN rfl (by rfl) rfl rfl rfl rfl (by rw [e_lN]; exact (NA.below b9).thereN) i_lN o_lN ⟨rangeAt_below (hBF) g_lc, keep1 (hBF) k1, keep1 (hBF) k2⟩ ?_
        try simp only [Act.put, List.setIfInBounds_toArray, List.set_cons_zero, List.set_cons_succ]
        have SF : ((w9).setCells (wr.heap.size) 0 lN).rangeAt p5 0 lc ∧ ((w9).setCells (wr.heap.size) 0 lN).cell? ⟨(ad.add (i * 3)).block, (ad.add (i * 3)).off + 1, none⟩ = some (.int .i64 ml) ∧ ((w9).setCells (wr.heap.size) 0 lN).cell? ⟨(ad.add (i * 3)).block, (ad.add (i * 3)).off + 2, none⟩ = some (.int .i64 mr) := ⟨rangeAt_below (hBF) g_lc, keep1 (hBF) k1, keep1 (hBF) k2⟩
        refine hx_take 18 (some 12) _ rfl (by kernel_rfl) (by kernel_rfl) (by kernel_rfl) (fun _ _ _ h => h) rfl (Or.inl ⟨by rfl, fun w hSw => by first | (go_simp; done) | (go_simp; with_reducible rfl)⟩) (by assumption) ?_
        try simp only [Act.put, List.setIfInBounds_toArray, List.set_cons_zero, List.set_cons_succ]
        refine wpAnyH_done (by kernel_rfl) ?_ _
        have T5 := (TA.below b9).setC (g := wr.heap.size) (vs := lN) (by have := T3.b5.lt; omega) (by have := T3.b8.lt; omega)
        have N5 := (NA.below b9).cn_set (nextC ls n (countC ls n c (ms.take i)) L mr) H_lN.out
        have b5 := T5.b5
        have b11 := N5
        unfold Blk at b5 b11
        have hBG := below_trans' hbw hbw.size hBF
        go_wp2_with (first | (refine wpList_load_row rfl 48 _ rfl (wr.heap.size) rfl 48 _ (0, 0) _ b11 Try.underlying48 rfl (by kernel_rfl) ?_) | (refine wpList_store_row rfl 48 _ _ rfl p5 _ rfl rfl 48 _ b5 (by kernel_rfl) rfl (cnA_one _) ?_))
        go_roundw
        case measure => rw [intOf, intOf]; omega
        case rel => exact ⟨i + 1, by simp, by omega, by rw [HT.out]; exact T5.row _, below_setRow hBG T5.m5 _⟩
    · have : i = m := by omega
      subst this
      have HT := Lib.hid (show countC ls n c (ms.take i) = countC ls n c ms by rw [List.take_of_length_le (by omega)])
      have b5 := T3.b5
      have b8 := T3.b8
      unfold Blk at b5 b8
      go_upto_region 9 with fail
      go_wp2_with (first | (refine wpList_load_row rfl 48 _ rfl p5 rfl 48 _ (0, 0) _ b5 Try.underlying48 rfl (by kernel_rfl) ?_) | (refine wpList_store_row rfl 48 _ _ rfl p8 _ rfl rfl 48 _ b8 (by kernel_rfl) rfl (cnA_one _) ?_))
      refine bodyPost_ret (results_cell_tmp rfl _ _ p8 48 _ (0, 0) _ rfl (setRow_heap _ p8 _ _ _ _ b8) Try.underlying48 rfl (by kernel_rfl)) rfl ?_
      rw [HT.out]
      exact ⟨rfl, below_setRow hbw T3.m8 _⟩
end Go.Proofs.Ytjpbmeonkfkgdaa
