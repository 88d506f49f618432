/- The walk of the law RenumberFolds. -/
import Derived.Test.YtjpbmeonkfkgdaaG15
import Derived.Test.YtjpbmeonkfkgdaaG8
import Derived.Test.YtjpbmeonkfkgdaaG10
namespace Go.Proofs.Ytjpbmeonkfkgdaa
open Go.RowKit

theorem keepR1 {w0 w : World} {b1 : Nat} {l1 : List Value} (h1 : w0.rangeAt b1 0 l1) (hb : Below w0.heap.size w0 w) : w.rangeAt b1 0 l1 := rangeAt_below hb h1
theorem marksP_ok {n : Nat} {l : List Tw} (hn : 0 < n) (hl : ∀ i, i < l.length → TwOk (gW l i)) (k : Nat) : MkOk n (marksP n l k) := by
  intro i hi
  unfold marksP at hi ⊢
  rw [List.length_map, List.length_take] at hi
  have hi2 : i < l.length := by omega
  have e : gM ((l.take k).map (mkOf n)) i = mkOf n (gW l i) := by
    unfold gM gW
    rw [List.getD_eq_getElem?_getD, List.getD_eq_getElem?_getD, List.getElem?_map, List.getElem?_take, if_pos (by omega), List.getElem?_eq_getElem hi2]
    rfl
  rw [e]
  obtain ⟨a0, a1, b0, b1⟩ := hl i hi2
  unfold mkOf
  have h1 := Int.emod_nonneg (gW l i).a (show (n : Int) ≠ 0 by omega)
  have h2 := Int.emod_lt_of_pos (gW l i).a (show (0 : Int) < n by omega)
  refine ⟨by show 1 ≤ 1 + _; omega, by show 1 + _ ≤ (n : Int); omega, ?_, ?_⟩
  · show (0 : Int) ≤ if (gW l i).b % 4 = 3 then (gW l i).b else 0
    split <;> omega
  · show (if (gW l i).b % 4 = 3 then (gW l i).b else 0) ≤ (32767 : Int)
    split <;> omega
theorem marksP_length (n : Nat) (l : List Tw) (k : Nat) : (marksP n l k).length = min l.length k := by
  unfold marksP
  rw [List.length_map, List.length_take]
  omega
set_option maxHeartbeats 8000000 in
set_option maxRecDepth 100000 in
theorem law_folds (nn a b c : Int) (AW : Option Addr) (m cm : Nat) (l : List Tw) (w : World) (h0 : 0 ≤ nn ∧ nn ≤ 255) (ha : 0 ≤ a ∧ a ≤ 255) (hb : 0 ≤ b ∧ b ≤ 255) (hc : 0 ≤ c ∧ c ≤ 255) (hm : Sl w 2 twC AW m l) (hl : ∀ i, i < m → TwOk (gW l i)) :
    Calls Try.prog 3 #[.agg #[.int .u8 nn, .int .u8 a, .int .u8 b, .int .u8 c], .slice AW m cm] w fun e w' => e = .returned (.bool true) ∧ Below w.heap.size w w' := by
  have hlm := hm.len
  have R0 := Below.refl w.heap.size w
  have hb0 := bAlloc (Below.refl w.heap.size w) (.cells #[.int .u8 nn, .int .u8 a, .int .u8 b, .int .u8 c] 24)
  have hlv := fun W => levelsOf_any nn a b c W h0 ha hb hc
  go_enter Try.func3, Try.ntmps3
  go_upto_region 1 with fail
  go_cut [5] (fun v5 wx => ∃ A k cA, v5 = .slice A k cA ∧ (k : Int) = nn % 9 + 1 ∧ Sl wx 4 lvC A k (levelsP (gS a b c) k) ∧ Below w.heap.size w wx)
  case first =>
    go_wp2_with (first | (go_at_call 7; refine (hlv _).mono ?_; rintro e w1 ⟨A, k, cA, rfl, hk, ho, hb1⟩; have hk' := Lib.hid hk; clear hk))
    go_meet
    case rel => exact ⟨_, _, _, rfl, hk'.out, ho.sl lvC_len, below_trans' hb0 hb0.size hb1⟩
  case rest =>
  obtain ⟨A, k, cA, rfl, hk, hs1, hb1⟩ := hcut
  have k0 : 0 < k := by omega
  have k9 : k ≤ 9 := by omega
  clear hk hb0 hlv
  have hmk := fun W h => marks_any A k cA AW m cm l W h k0 k9 hl
  have hr := levels_right (gS a b c) k0 k9
  have hlo := levels_lvok (gS a b c) (k := k)
  generalize levelsP (gS a b c) k = ls at *
  go_upto_region 2 with fail
  go_cut [6] (fun v6 wx => ∃ B q cB, v6 = .slice B q cB ∧ q = min m 20 ∧ Sl wx 3 mkC B q (marksP k l 20) ∧ Sl wx 4 lvC A k ls ∧ Below w.heap.size w wx)
  case first =>
    go_wp2_with (first | (go_at_call 8; refine (hmk _ (hm.below hb1)).mono ?_; rintro e w1 ⟨B, q, cB, rfl, hq, ho, hb2⟩; have hq' := Lib.hid hq; clear hq))
    go_meet
    case rel => exact ⟨_, _, _, rfl, hq'.out, ho.sl mkC_len, hs1.below hb2, below_trans' hb1 hb1.size hb2⟩
  case rest =>
  obtain ⟨B, q, cB, rfl, hq, hs2, hs1', hb2⟩ := hcut
  have q20 : q ≤ 1000 := by omega
  clear hq hs1 hb1 hmk
  have hmo := marksP_ok k0 (l := l) (by rw [hlm]; exact hl) 20
  generalize marksP k l 20 = ms at *
  have hef := lawEffect_any A k cA ls B q cB ms wc hs1' hs2 hlo hr hmo q20
  go_upto_region 3 with fail
  go_cut [7, 8] (fun v7 v8 wx => ∃ p7, v7 = .pointer (some ⟨p7, 0, none⟩) ∧ v8 = .bool true ∧ Blk wx p7 33 (effA (foldE ls k ms)) ∧ Sl wx 3 mkC B q ms ∧ Sl wx 4 lvC A k ls ∧ Below w.heap.size w wx)
  case first =>
    go_wp2_with (first | (go_at_call 9; refine hef.mono ?_; rintro e w2 ⟨rfl, hb3⟩; have N2 := Blk.new w2 33 (effA effZ); have hA2 := bAlloc hb3 (.cells (effA effZ) 33); unfold Blk at N2) | (refine wpList_store_row rfl 33 _ _ rfl w2.heap.size _ rfl rfl 33 _ N2 (by kernel_rfl) rfl (effA_one _) ?_))
    go_meet
    case rel =>
      have hA3 := below_setRow hA2 hb3.size (effA (foldE ls k ms))
      exact ⟨_, rfl, rfl, setRow_heap _ _ _ _ _ _ N2, hs2.below hA3, hs1'.below hA3, below_trans' hb2 hb2.size hA3⟩
  case rest =>
  obtain ⟨p7, rfl, rfl, B7, hs3, hs4, hb3⟩ := hcut
  clear hef hs1' hs2 hb2
  have hf := at_below (fun W (hW : Below wc.heap.size wc W) => fold_any A k cA ls B q cB ms W (hs4.below hW) (hs3.below hW) hlo k9 hmo q20)
  have hk := at_below (w0 := wc) (fun W _ => known_any W)
  obtain ⟨l7, hl7⟩ : ∃ l, l = effL (foldE ls k ms) := ⟨_, rfl⟩
  have g_l7 := B7.range_ hl7
  rw [effA_L, ← hl7] at hf
  have e7 : (Try.prog.info? 33).map (·.size) = some l7.length := by rw [hl7]; exact size33
  have heq := equalE_list hl7 hl7
  have hgd : Try.prog.eqGuardType Try.prog.depth 33 = false := by kernel_rfl
  clear hl7 B7 hmo hlo hr
  go_upto_region 4 with fail
  refine wp_region_held_drew (S := fun w' => w'.rangeAt p7 0 l7) (by kernel_rfl) (keepR1 g_l7 (by repeat (first | assumption | exact Below.refl _ _ | refine bDrew ?_ | refine below_drewN ?_ _ | refine bAlloc ?_ _ | refine bSetC ?_ (by assumption) _))) (fun hHeld => ?_)
  refine hx1 0 (by kernel_rfl) ?_
  refine hx_call 0 (some 23) _ _ _ _ rfl (by rfl) rfl (by go_simp) (hk wc.drew (by repeat (first | assumption | exact Below.refl _ _ | refine bDrew ?_ | refine below_drewN ?_ _ | refine bAlloc ?_ _ | refine bSetC ?_ (by assumption) _))) ?_
  rintro w9 ⟨bw9, Bw9⟩
  have Hw9 := keepR1 g_l7 Bw9
  refine ⟨Hw9, ?_⟩
  try simp only [Act.put, List.setIfInBounds_toArray, List.set_cons_zero, List.set_cons_succ]
  refine hx_take 1 (some 24) _ rfl (by kernel_rfl) (by kernel_rfl) (by kernel_rfl) (fun _ _ _ h => h) rfl (Or.inl ⟨by rfl, fun w hSw => by first | (go_simp; done) | (go_simp; with_reducible rfl)⟩) (by assumption) ?_
  try simp only [Act.put, List.setIfInBounds_toArray, List.set_cons_zero, List.set_cons_succ]
  refine hx_take 2 (some 25) _ rfl (by kernel_rfl) (by kernel_rfl) (by kernel_rfl) (fun _ _ _ h => h) rfl (Or.inl ⟨by rfl, fun w hSw => by first | (go_simp; done) | (go_simp; with_reducible rfl)⟩) (by assumption) ?_
  try simp only [Act.put, List.setIfInBounds_toArray, List.set_cons_zero, List.set_cons_succ]
  refine hx_take 3 (some 26) _ rfl (by kernel_rfl) (by kernel_rfl) (by kernel_rfl) (fun _ _ _ h => h) rfl (Or.inl ⟨by rfl, fun w hSw => by first | (go_simp; done) | (go_simp; with_reducible rfl)⟩) (by assumption) ?_
  try simp only [Act.put, List.setIfInBounds_toArray, List.set_cons_zero, List.set_cons_succ]
  refine hx_take 4 (some 27) _ rfl (by kernel_rfl) (by kernel_rfl) (by kernel_rfl) (fun _ _ _ h => h) rfl (Or.inl ⟨by rfl, fun w hSw => by first | (go_simp; done) | (go_simp; with_reducible rfl)⟩) (by assumption) ?_
  try simp only [Act.put, List.setIfInBounds_toArray, List.set_cons_zero, List.set_cons_succ]
  refine hx_take 5 (some 28) (.agg l7.toArray) rfl (by kernel_rfl) (by kernel_rfl) (by kernel_rfl) (fun _ _ _ h => h) rfl (yieldsIf_load_mid (by rfl) _ _ rfl p7 0 rfl l7 _ (fun w hSw => hSw) Try.underlying33 rfl (by assumption)) (by assumption) ?_
  try simp only [Act.put, List.setIfInBounds_toArray, List.set_cons_zero, List.set_cons_succ]
  refine hx_take 6 (some 29) _ rfl (by kernel_rfl) (by kernel_rfl) (by kernel_rfl) (fun _ _ _ h => h) rfl (Or.inl ⟨by rfl, fun w hSw => by first | (go_simp; done) | (go_simp; with_reducible rfl)⟩) (by assumption) ?_
  try simp only [Act.put, List.setIfInBounds_toArray, List.set_cons_zero, List.set_cons_succ]
  refine hx_take 7 (some 30) _ rfl (by kernel_rfl) (by kernel_rfl) (by kernel_rfl) (fun _ _ _ h => h) rfl (Or.inl ⟨by rfl, fun w hSw => by first | (go_simp; done) | (go_simp; with_reducible rfl)⟩) (by assumption) ?_
  try simp only [Act.put, List.setIfInBounds_toArray, List.set_cons_zero, List.set_cons_succ]
  refine hx1 8 (by kernel_rfl) ?_
  refine hx_call 8 (some 31) _ _ _ _ rfl (by rfl) rfl (by go_simp) (hf w9 (by repeat (first | assumption | exact Below.refl _ _ | refine bDrew ?_ | refine below_drewN ?_ _ | refine bAlloc ?_ _ | refine bSetC ?_ (by assumption) _))) ?_
  rintro w10 ⟨bw10, Bw10⟩
  have Hw10 := keepR1 g_l7 Bw10
  refine ⟨Hw10, ?_⟩
  try simp only [Act.put, List.setIfInBounds_toArray, List.set_cons_zero, List.set_cons_succ]
  refine hx_take 9 (some 32) _ rfl (by kernel_rfl) (by kernel_rfl) (by kernel_rfl) (fun _ _ _ h => h) rfl (Or.inl ⟨by rfl, fun w hSw => by first | (go_simp; done) | (go_simp; with_reducible rfl)⟩) (by assumption) ?_
  try simp only [Act.put, List.setIfInBounds_toArray, List.set_cons_zero, List.set_cons_succ]
  refine hx_take 10 (some 33) _ rfl (by kernel_rfl) (by kernel_rfl) (by kernel_rfl) (fun _ _ _ h => h) rfl (Or.inl ⟨by rfl, fun w hSw => by first | (go_simp; done) | (go_simp; with_reducible rfl)⟩) (by assumption) ?_
  try simp only [Act.put, List.setIfInBounds_toArray, List.set_cons_zero, List.set_cons_succ]
  refine hx_take 11 (some 4) _ rfl (by kernel_rfl) (by kernel_rfl) (by kernel_rfl) (fun _ _ _ h => h) rfl (Or.inl ⟨by rfl, fun w hSw => by first | (go_simp; done) | (go_simp; with_reducible rfl)⟩) (by assumption) ?_
  try simp only [Act.put, List.setIfInBounds_toArray, List.set_cons_zero, List.set_cons_succ]
  refine wpAnyH_done (by kernel_rfl) ?_ _
  go_wp2_with fail
  go_ret
  exact ⟨rfl, below_trans' hb3 hb3.size Bw10⟩
end Go.Proofs.Ytjpbmeonkfkgdaa
