/- The walk of the law RenumberApplies. -/
import Derived.Test.YtjpbmeonkfkgdaaG24
namespace Go.Proofs.Ytjpbmeonkfkgdaa
open Go.RowKit

theorem marksP_list {n : Nat} {l : List Tw} (k : Nat) : ∀ i, i < (marksP n l k).length → (gM (marksP n l k) i).list = 1 := by
  intro i hi
  have e : gM (marksP n l k) i ∈ marksP n l k := by
    unfold gM
    rw [List.getD_eq_getElem?_getD, List.getElem?_eq_getElem hi]
    exact List.getElem_mem hi
  unfold marksP at e
  obtain ⟨x, _, hx⟩ := List.mem_map.1 e
  unfold marksP
  rw [← hx]
  rfl
set_option maxHeartbeats 16000000 in
set_option maxRecDepth 100000 in
theorem law_applies (nn a0 b0 c0 : Int) (AW : Option Addr) (m cm : Nat) (l : List Tw) (AV : Option Addr) (m' cm' : Nat) (l' : List Tw) (w : World) (h0 : 0 ≤ nn ∧ nn ≤ 255) (ha : 0 ≤ a0 ∧ a0 ≤ 255) (hb : 0 ≤ b0 ∧ b0 ≤ 255) (hc : 0 ≤ c0 ∧ c0 ≤ 255) (hm : Sl w 2 twC AW m l) (hl : ∀ i, i < m → TwOk (gW l i)) (hm' : Sl w 2 twC AV m' l') (hl' : ∀ i, i < m' → TwOk (gW l' i)) :
    Calls Try.prog 6 #[.agg #[.int .u8 nn, .int .u8 a0, .int .u8 b0, .int .u8 c0], .slice AW m cm, .slice AV m' cm'] w fun e w' => e = .returned (.bool true) ∧ Below w.heap.size w w' := by
  have hlm := hm.len
  have hlm' := hm'.len
  have hb0 := bAlloc (Below.refl w.heap.size w) (.cells #[.int .u8 nn, .int .u8 a0, .int .u8 b0, .int .u8 c0] 24)
  have hlv := fun W => levelsOf_any nn a0 b0 c0 W h0 ha hb hc
  go_enter Try.func6, Try.ntmps6
  go_upto_region 1 with fail
  go_cut [7] (fun v7 wx => ∃ A k cA, v7 = .slice A k cA ∧ (k : Int) = nn % 9 + 1 ∧ Sl wx 4 lvC A k (levelsP (gS a0 b0 c0) k) ∧ Below w.heap.size w wx)
  case first =>
    go_wp2_with (first | (go_at_call 7; refine (hlv _).mono ?_; rintro e w1 ⟨A, k, cA, rfl, hk, ho, hb1⟩; have hk' := Lib.hid hk; clear hk))
    go_meet
    case rel => exact ⟨_, _, _, rfl, hk'.out, ho.sl lvC_len, below_trans' hb0 hb0.size hb1⟩
  case rest =>
  obtain ⟨A, k, cA, rfl, hk, hs1, hb1⟩ := hcut
  have k0 : 0 < k := by omega
  have k9 : k ≤ 9 := by omega
  clear hk hb0 hlv
  have hmk := fun W h => marks_any A k cA AW m cm l W h k0 k9 hl
  have hmk' := fun W h => marks_any A k cA AV m' cm' l' W h k0 k9 hl'
  have hr := levels_right (gS a0 b0 c0) k0 k9
  have hlo := levels_lvok (gS a0 b0 c0) (k := k)
  generalize levelsP (gS a0 b0 c0) k = ls at *
  go_upto_region 2 with fail
  go_cut [8, 9] (fun v8 v9 wx => ∃ B q cB B' q' cB', v8 = .slice B q cB ∧ v9 = .slice B' q' cB' ∧ Sl wx 3 mkC B q (marksP k l 20) ∧ Sl wx 3 mkC B' q' (marksP k l' 20) ∧ Sl wx 4 lvC A k ls ∧ Below w.heap.size w wx)
  case first =>
    go_wp2_with fail
    refine (hmk _ (hm.below hb1)).mono ?_
    rintro e w1 ⟨B, q, cB, rfl, hq, ho, hb2⟩
    have hb12 := below_trans' hb1 hb1.size hb2
    clear hq
    go_wp2_with fail
    refine (hmk' _ (hm'.below hb12)).mono ?_
    rintro e w3 ⟨B', q', cB', rfl, hq, ho', hb3⟩
    clear hq
    go_wp2_with fail
    go_meet
    case rel => exact ⟨_, _, _, _, _, _, rfl, rfl, (ho.below hb3).sl mkC_len, ho'.sl mkC_len, (hs1.below hb2).below hb3, below_trans' hb12 hb12.size hb3⟩
  case rest =>
  obtain ⟨B, q, cB, B', q', cB', rfl, rfl, hs2, hs3, hs4, hb2⟩ := hcut
  clear hs1 hb1 hmk hmk'
  have hmo := marksP_ok k0 (l := l) (by rw [hlm]; exact hl) 20
  have hmo' := marksP_ok k0 (l := l') (by rw [hlm']; exact hl') 20
  have hm1 := marksP_list (n := k) (l := l) 20
  have hm1' := marksP_list (n := k) (l := l') 20
  have hle := marksP_length k l 20
  have hle' := marksP_length k l' 20
  generalize marksP k l 20 = ma at *
  generalize marksP k l' 20 = mb at *
  have hqa := hs2.len
  have hqb := hs3.len
  have q20 : q ≤ 20 := by omega
  have q20' : q' ≤ 20 := by omega
  rw [hqa] at hm1
  rw [hqb] at hm1'
  clear hle hle'
  obtain ⟨oa, na⟩ := fold_all hlo hmo (by omega)
  obtain ⟨ob, nb⟩ := fold_all hlo hmo' (by omega)
  have E1 := ES.nil_ wc
  go_upto_region 3 with fail
  go_cut [10, 11] (fun vp vo wx => ∃ p10, vp = .pointer (some ⟨p10, 0, none⟩) ∧ vo = .bool true ∧ ES wx ((p10, foldE ls k ma) :: []) ∧ Sl wx 3 mkC B q ma ∧ Sl wx 3 mkC B' q' mb ∧ Sl wx 4 lvC A k ls ∧ Below w.heap.size w wx)
  case first =>
    have hef := lawEffect_any A k cA ls B q cB ma wc hs4 hs2 hlo hr (by assumption) (by omega)
    go_wp2_with (first | (go_at_call 9; refine hef.mono ?_; rintro e w2 ⟨rfl, hb3⟩; have N2 := Blk.new w2 33 (effA effZ); have hA2 := bAlloc hb3 (.cells (effA effZ) 33); have hE := (E1.below hA2).row (E1.ne hb3.size) N2 (foldE ls k ma); unfold Blk at N2) | (refine wpList_store_row rfl 33 _ _ rfl w2.heap.size _ rfl rfl 33 _ N2 (by kernel_rfl) rfl (effA_one _) ?_))
    go_meet
    case rel =>
      have hA3 := below_setRow hA2 hb3.size (effA (foldE ls k ma))
      exact ⟨_, rfl, rfl, hE, hs2.below hA3, hs3.below hA3, hs4.below hA3, below_trans' hb2 hb2.size hA3⟩
  case rest =>
  obtain ⟨p10, rfl, rfl, E1', hs2', hs3', hs4', hb2'⟩ := hcut
  clear E1 hs2 hs3 hs4 hb2
  have E1 := E1'
  have hs2 := hs2'
  have hs3 := hs3'
  have hs4 := hs4'
  have hb2 := hb2'
  clear E1' hs2' hs3' hs4' hb2'
  go_upto_region 4 with fail
  go_cut [12, 13] (fun vp vo wx => ∃ p12, vp = .pointer (some ⟨p12, 0, none⟩) ∧ vo = .bool true ∧ ES wx ((p12, foldE ls k mb) :: [(p10, foldE ls k ma)]) ∧ Sl wx 3 mkC B q ma ∧ Sl wx 3 mkC B' q' mb ∧ Sl wx 4 lvC A k ls ∧ Below w.heap.size w wx)
  case first =>
    have hef := lawEffect_any A k cA ls B' q' cB' mb wc hs4 hs3 hlo hr (by assumption) (by omega)
    go_wp2_with (first | (go_at_call 9; refine hef.mono ?_; rintro e w2 ⟨rfl, hb3⟩; have N2 := Blk.new w2 33 (effA effZ); have hA2 := bAlloc hb3 (.cells (effA effZ) 33); have hE := (E1.below hA2).row (E1.ne hb3.size) N2 (foldE ls k mb); unfold Blk at N2) | (refine wpList_store_row rfl 33 _ _ rfl w2.heap.size _ rfl rfl 33 _ N2 (by kernel_rfl) rfl (effA_one _) ?_))
    go_meet
    case rel =>
      have hA3 := below_setRow hA2 hb3.size (effA (foldE ls k mb))
      exact ⟨_, rfl, rfl, hE, hs2.below hA3, hs3.below hA3, hs4.below hA3, below_trans' hb2 hb2.size hA3⟩
  case rest =>
  obtain ⟨p12, rfl, rfl, E1', hs2', hs3', hs4', hb2'⟩ := hcut
  clear E1 hs2 hs3 hs4 hb2
  have E1 := E1'
  have hs2 := hs2'
  have hs3 := hs3'
  have hs4 := hs4'
  have hb2 := hb2'
  clear E1' hs2' hs3' hs4' hb2'
  have af := apply_fold_all (ls := ls) cnZ hmo
  have ab := apply_fold_all (ls := ls) (countC ls k cnZ ma) hmo'
  have at_ := apply_then (ls := ls) cnZ na nb
  rw [af, ab] at at_
  have cf : CnOk 40000 (countC ls k cnZ ma) := by
    have := count_ok (M := 32767) hlo hmo (by omega) (cnZ_ok (by omega)) ma.length (Nat.le_refl _)
    rw [List.take_length] at this
    intro i
    have := this i
    omega
  have hca := fun W h1 h2 => counted_any A k cA ls B q cB ma cnZ 32767 W h1 h2 hlo hr hmo hm1 (by omega) (cnZ_ok (by omega)) (by omega) (by omega)
  have hcb := fun W h1 h2 => counted_any A k cA ls B' q' cB' mb (countC ls k cnZ ma) 40000 W h1 h2 hlo hr hmo' hm1' (by omega) cf (by omega) (by omega)
  have hA1 := fun W h => apply_any A k cA ls (foldE ls k ma) cnZ 1000 0 W h k9 hlo oa (cnZ_ok (by omega)) (by omega) (by omega)
  have hA2 := fun W h => apply_any A k cA ls (foldE ls k mb) (countC ls k cnZ ma) 1000 40000 W h k9 hlo ob cf (by omega) (by omega)
  have oab := thenE_ok hlo oa ob (by omega) (by omega)
  have hA3 := fun W h => apply_any A k cA ls (thenE ls k (foldE ls k ma) (foldE ls k mb)) cnZ (1000 + 1000) 0 W h k9 hlo oab (cnZ_ok (by omega)) (by omega) (by omega)
  have hT := fun W h => then_any A k cA ls (foldE ls k ma) (foldE ls k mb) 1000 1000 W h k9 hlo oa ob (by omega) (by omega)
  rw [af] at hA1
  rw [ab] at hA2
  rw [at_] at hA3
  clear af ab at_ cf oab oa ob na nb hmo hmo' hm1 hm1' hlo hr
  generalize thenE ls k (foldE ls k ma) (foldE ls k mb) = XY at *
  generalize foldE ls k ma = X at *
  generalize foldE ls k mb = Y at *
  generalize countC ls k (countC ls k cnZ ma) mb = bo at *
  generalize countC ls k cnZ ma = fi at *
  go_upto_region 7 with (first | (go_at_call 10; refine (known_any _).mono ?_; rintro e wc ⟨rfl, hb4⟩))
  have E2 := E1.below hb4
  have hs2' := hs2.below hb4
  have hs3' := hs3.below hb4
  have hs4' := hs4.below hb4
  have hb5 := below_trans' hb2 hb2.size hb4
  clear E1 hs2 hs3 hs4 hb2 hb4
  go_cut [14, 15] (fun v10 v11 wx => ∃ p14, v10 = .pointer (some ⟨p14, 0, none⟩) ∧ v11 = .bool true ∧ Blk wx p14 48 (cnA fi) ∧ ES wx [(p12, Y), (p10, X)] ∧ Sl wx 3 mkC B' q' mb ∧ Sl wx 4 lvC A k ls ∧ Below w.heap.size w wx)
  case first =>
    go_wp2_with (first | (go_at_call 17; refine (hca _ hs4' hs2').mono ?_; rintro e w2 ⟨rfl, hb6⟩; have N2 := Blk.new w2 48 (cnA cnZ); have hA2 := bAlloc hb6 (.cells (cnA cnZ) 48); unfold Blk at N2) | (refine wpList_store_row rfl 48 _ _ rfl w2.heap.size _ rfl rfl 48 _ N2 (by kernel_rfl) rfl (cnA_one _) ?_))
    go_meet
    case rel =>
      have hA3 := below_setRow hA2 hb6.size (cnA fi)
      exact ⟨_, rfl, rfl, setRow_heap _ _ _ _ _ _ N2, E2.below hA3, hs3'.below hA3, hs4'.below hA3, below_trans' hb5 hb5.size hA3⟩
  case rest =>
  obtain ⟨p14, rfl, rfl, B14, E1, hs3, hs4, hb2⟩ := hcut
  clear E2 hs2' hs3' hs4' hb5 hca
  go_upto_region 8 with fail
  go_cut [16, 17] (fun v10 v11 wx => ∃ p16, v10 = .pointer (some ⟨p16, 0, none⟩) ∧ v11 = .bool true ∧ Blk wx p16 48 (cnA bo) ∧ Blk wx p14 48 (cnA fi) ∧ ES wx [(p12, Y), (p10, X)] ∧ Sl wx 4 lvC A k ls ∧ Below w.heap.size w wx)
  case first =>
    have b14 := B14
    unfold Blk at b14
    go_wp2_with (first | (refine wpList_load_row rfl 48 _ rfl p14 rfl 48 _ (0, 0) _ b14 Try.underlying48 rfl (by kernel_rfl) ?_) | (go_at_call 17; refine (hcb _ hs4 hs3).mono ?_; rintro e w2 ⟨rfl, hb6⟩; have N2 := Blk.new w2 48 (cnA cnZ); have hA2 := bAlloc hb6 (.cells (cnA cnZ) 48); unfold Blk at N2) | (refine wpList_store_row rfl 48 _ _ rfl w2.heap.size _ rfl rfl 48 _ N2 (by kernel_rfl) rfl (cnA_one _) ?_))
    go_meet
    case rel =>
      have hA3 := below_setRow hA2 hb6.size (cnA bo)
      exact ⟨_, rfl, rfl, setRow_heap _ _ _ _ _ _ N2, B14.below hA3, E1.below hA3, hs4.below hA3, below_trans' hb2 hb2.size hA3⟩
  case rest =>
  obtain ⟨p16, rfl, rfl, B16, B14', E2, hs4', hb2'⟩ := hcut
  clear B14 E1 hs3 hs4 hb2 hcb
  have hb2 := hb2'
  clear hb2'
  obtain ⟨lx, hlx⟩ : ∃ l, l = effL X := ⟨_, rfl⟩
  obtain ⟨ly, hly⟩ : ∃ l, l = effL Y := ⟨_, rfl⟩
  obtain ⟨lxy, hlxy⟩ : ∃ l, l = effL XY := ⟨_, rfl⟩
  obtain ⟨lf, hlf⟩ : ∃ l, l = cnL fi := ⟨_, rfl⟩
  obtain ⟨lb, hlb⟩ : ∃ l, l = cnL bo := ⟨_, rfl⟩
  have g_lx := (E2 (p10, X) (by simp)).range_ hlx
  have g_ly := (E2 (p12, Y) (by simp)).range_ hly
  have g_lf := B14'.rangeN hlf
  have g_lb := B16.rangeN hlb
  simp only at g_lx g_ly
  have i_lx : (Try.prog.info? 33).map (·.size) = some lx.length := by rw [hlx]; exact size33
  have i_ly : (Try.prog.info? 33).map (·.size) = some ly.length := by rw [hly]; exact size33
  have i_lf : (Try.prog.info? 48).map (·.size) = some lf.length := by rw [hlf]; exact size48
  have i_lb : (Try.prog.info? 48).map (·.size) = some lb.length := by rw [hlb]; exact size48
  have ha1 := at_below (fun W (hW : Below wc.heap.size wc W) => hA1 W (hs4'.below hW))
  have ha2 := at_below (fun W (hW : Below wc.heap.size wc W) => hA2 W (hs4'.below hW))
  have ha3 := at_below (fun W (hW : Below wc.heap.size wc W) => hA3 W (hs4'.below hW))
  have hth := at_below (fun W (hW : Below wc.heap.size wc W) => hT W (hs4'.below hW))
  rw [effA_L, ← hlx, cnA_L fi, ← hlf] at ha1
  rw [effA_L, ← hly, cnA_L fi, ← hlf, cnA_L bo, ← hlb] at ha2
  rw [effA_L, ← hlxy, cnA_L bo, ← hlb] at ha3
  rw [effA_L, effA_L, effA_L, ← hlx, ← hly, ← hlxy] at hth
  have qqf := equalN_list hlf hlf
  have qqb := equalN_list hlb hlb
  have hgc : Try.prog.eqGuardType Try.prog.depth 48 = false := by kernel_rfl
  clear hlx hly hlf hlb hlxy hA1 hA2 hA3 hT B16 B14' E2 hs4'
  go_upto_region 9 with fail
  refine wp_region_held_drew (S := fun w' => w'.rangeAt p10 0 lx ∧ w'.rangeAt p12 0 ly ∧ w'.rangeAt p14 0 lf ∧ w'.rangeAt p16 0 lb) (by kernel_rfl) (keepR4 g_lx g_ly g_lf g_lb (by repeat (first | assumption | exact Below.refl _ _ | refine bDrew ?_ | refine below_drewN ?_ _ | refine bAlloc ?_ _ | refine bSetC ?_ (by assumption) _))) (fun hHeld => ?_)
  refine hx_take 0 (some 65) _ rfl (by kernel_rfl) (by kernel_rfl) (by kernel_rfl) (fun _ _ _ h => h) rfl (Or.inl ⟨by rfl, fun w hSw => by first | (go_simp; done) | (go_simp; with_reducible rfl)⟩) (by assumption) ?_
  try simp only [Act.put, List.setIfInBounds_toArray, List.set_cons_zero, List.set_cons_succ]
  refine hx_take 1 (some 66) _ rfl (by kernel_rfl) (by kernel_rfl) (by kernel_rfl) (fun _ _ _ h => h) rfl (Or.inl ⟨by rfl, fun w hSw => by first | (go_simp; done) | (go_simp; with_reducible rfl)⟩) (by assumption) ?_
  try simp only [Act.put, List.setIfInBounds_toArray, List.set_cons_zero, List.set_cons_succ]
  refine hx_take 2 (some 67) _ rfl (by kernel_rfl) (by kernel_rfl) (by kernel_rfl) (fun _ _ _ h => h) rfl (Or.inl ⟨by rfl, fun w hSw => by first | (go_simp; done) | (go_simp; with_reducible rfl)⟩) (by assumption) ?_
  try simp only [Act.put, List.setIfInBounds_toArray, List.set_cons_zero, List.set_cons_succ]
  refine hx_take 3 (some 68) _ rfl (by kernel_rfl) (by kernel_rfl) (by kernel_rfl) (fun _ _ _ h => h) rfl (Or.inl ⟨by rfl, fun w hSw => by first | (go_simp; done) | (go_simp; with_reducible rfl)⟩) (by assumption) ?_
  try simp only [Act.put, List.setIfInBounds_toArray, List.set_cons_zero, List.set_cons_succ]
  refine hx_take 4 (some 69) _ rfl (by kernel_rfl) (by kernel_rfl) (by kernel_rfl) (fun _ _ _ h => h) rfl (Or.inl ⟨by rfl, fun w hSw => by first | (go_simp; done) | (go_simp; with_reducible rfl)⟩) (by assumption) ?_
  try simp only [Act.put, List.setIfInBounds_toArray, List.set_cons_zero, List.set_cons_succ]
  refine hx_take 5 (some 70) _ rfl (by kernel_rfl) (by kernel_rfl) (by kernel_rfl) (fun _ _ _ h => h) rfl (Or.inl ⟨by rfl, fun w hSw => by first | (go_simp; done) | (go_simp; with_reducible rfl)⟩) (by assumption) ?_
  try simp only [Act.put, List.setIfInBounds_toArray, List.set_cons_zero, List.set_cons_succ]
  refine hx_take 6 (some 71) (.agg lx.toArray) rfl (by kernel_rfl) (by kernel_rfl) (by kernel_rfl) (fun _ _ _ h => h) rfl (yieldsIf_load_mid (by rfl) _ _ rfl p10 0 rfl lx _ (fun w hSw => hSw.1) Try.underlying33 rfl (by assumption)) (by assumption) ?_
  try simp only [Act.put, List.setIfInBounds_toArray, List.set_cons_zero, List.set_cons_succ]
  refine hx_take 7 (some 72) (.agg (cnA cnZ)) rfl (by kernel_rfl) (by kernel_rfl) (by kernel_rfl) (fun _ _ _ h => h) rfl (Or.inl ⟨by rfl, fun w hSw => by go_simp; rfl⟩) (by assumption) ?_
  try simp only [Act.put, List.setIfInBounds_toArray, List.set_cons_zero, List.set_cons_succ]
  refine hx_take 9 (some 74) (.agg lf.toArray) rfl (by kernel_rfl) (by kernel_rfl) (by kernel_rfl) (fun _ _ _ h => h) rfl (yieldsIf_load_mid (by rfl) _ _ rfl p14 0 rfl lf _ (fun w hSw => hSw.2.2.1) Try.underlying48 rfl (by assumption)) (by assumption) ?_
  try simp only [Act.put, List.setIfInBounds_toArray, List.set_cons_zero, List.set_cons_succ]
  refine hx1 8 (by kernel_rfl) ?_
  refine hx_call 8 (some 73) _ _ _ _ rfl (by rfl) rfl (by go_simp) (ha1 (wc.drew) (by repeat (first | assumption | exact Below.refl _ _ | refine bDrew ?_ | refine below_drewN ?_ _ | refine bAlloc ?_ _ | refine bSetC ?_ (by assumption) _))) ?_
  rintro w9 ⟨bw9, Bw9⟩
  have Hw9 := keepR4 g_lx g_ly g_lf g_lb Bw9
  refine ⟨Hw9, ?_⟩
  try simp only [Act.put, List.setIfInBounds_toArray, List.set_cons_zero, List.set_cons_succ]
  refine hx_take 10 (some 75) _ rfl (by kernel_rfl) (by kernel_rfl) (by kernel_rfl) (fun _ _ _ h => h) rfl (Or.inl ⟨by rfl, fun w hSw => by first | (go_simp; done) | (go_simp; with_reducible rfl)⟩) (by assumption) ?_
  try simp only [Act.put, List.setIfInBounds_toArray, List.set_cons_zero, List.set_cons_succ]
  refine hx_take 11 (some 76) _ rfl (by kernel_rfl) (by kernel_rfl) (by kernel_rfl) (fun _ _ _ h => h) rfl (Or.inl ⟨by rfl, fun w hSw => by first | (go_simp; done) | (go_simp; with_reducible rfl)⟩) (by assumption) ?_
  try simp only [Act.put, List.setIfInBounds_toArray, List.set_cons_zero, List.set_cons_succ]
  refine hx_take 12 (some 77) _ rfl (by kernel_rfl) (by kernel_rfl) (by kernel_rfl) (fun _ _ _ h => h) rfl (Or.inl ⟨by rfl, fun w hSw => by first | (go_simp; done) | (go_simp; with_reducible rfl)⟩) (by assumption) ?_
  try simp only [Act.put, List.setIfInBounds_toArray, List.set_cons_zero, List.set_cons_succ]
  refine hx_take 13 (some 78) _ rfl (by kernel_rfl) (by kernel_rfl) (by kernel_rfl) (fun _ _ _ h => h) rfl (Or.inl ⟨by rfl, fun w hSw => by first | (go_simp; done) | (go_simp; with_reducible rfl)⟩) (by assumption) ?_
  try simp only [Act.put, List.setIfInBounds_toArray, List.set_cons_zero, List.set_cons_succ]
  refine hx_take 14 (some 79) (.agg ly.toArray) rfl (by kernel_rfl) (by kernel_rfl) (by kernel_rfl) (fun _ _ _ h => h) rfl (yieldsIf_load_mid (by rfl) _ _ rfl p12 0 rfl ly _ (fun w hSw => hSw.2.1) Try.underlying33 rfl (by assumption)) (by assumption) ?_
  try simp only [Act.put, List.setIfInBounds_toArray, List.set_cons_zero, List.set_cons_succ]
  refine hx_take 15 (some 80) (.agg lf.toArray) rfl (by kernel_rfl) (by kernel_rfl) (by kernel_rfl) (fun _ _ _ h => h) rfl (yieldsIf_load_mid (by rfl) _ _ rfl p14 0 rfl lf _ (fun w hSw => hSw.2.2.1) Try.underlying48 rfl (by assumption)) (by assumption) ?_
  try simp only [Act.put, List.setIfInBounds_toArray, List.set_cons_zero, List.set_cons_succ]
  refine hx_take 17 (some 82) (.agg lb.toArray) rfl (by kernel_rfl) (by kernel_rfl) (by kernel_rfl) (fun _ _ _ h => h) rfl (yieldsIf_load_mid (by rfl) _ _ rfl p16 0 rfl lb _ (fun w hSw => hSw.2.2.2) Try.underlying48 rfl (by assumption)) (by assumption) ?_
  try simp only [Act.put, List.setIfInBounds_toArray, List.set_cons_zero, List.set_cons_succ]
  refine hx1 16 (by kernel_rfl) ?_
  refine hx_call 16 (some 81) _ _ _ _ rfl (by rfl) rfl (by go_simp) (ha2 (w9) (by repeat (first | assumption | exact Below.refl _ _ | refine bDrew ?_ | refine below_drewN ?_ _ | refine bAlloc ?_ _ | refine bSetC ?_ (by assumption) _))) ?_
  rintro w10 ⟨bw10, Bw10⟩
  have Hw10 := keepR4 g_lx g_ly g_lf g_lb Bw10
  refine ⟨Hw10, ?_⟩
  try simp only [Act.put, List.setIfInBounds_toArray, List.set_cons_zero, List.set_cons_succ]
  refine hx_take 18 (some 83) _ rfl (by kernel_rfl) (by kernel_rfl) (by kernel_rfl) (fun _ _ _ h => h) rfl (Or.inl ⟨by rfl, fun w hSw => by first | (go_simp; done) | (go_simp; with_reducible rfl)⟩) (by assumption) ?_
  try simp only [Act.put, List.setIfInBounds_toArray, List.set_cons_zero, List.set_cons_succ]
  refine hx_take 19 (some 84) _ rfl (by kernel_rfl) (by kernel_rfl) (by kernel_rfl) (fun _ _ _ h => h) rfl (Or.inl ⟨by rfl, fun w hSw => by first | (go_simp; done) | (go_simp; with_reducible rfl)⟩) (by assumption) ?_
  try simp only [Act.put, List.setIfInBounds_toArray, List.set_cons_zero, List.set_cons_succ]
  refine hx_take 20 (some 85) _ rfl (by kernel_rfl) (by kernel_rfl) (by kernel_rfl) (fun _ _ _ h => h) rfl (Or.inl ⟨by rfl, fun w hSw => by first | (go_simp; done) | (go_simp; with_reducible rfl)⟩) (by assumption) ?_
  try simp only [Act.put, List.setIfInBounds_toArray, List.set_cons_zero, List.set_cons_succ]
  refine hx_take 21 (some 86) _ rfl (by kernel_rfl) (by kernel_rfl) (by kernel_rfl) (fun _ _ _ h => h) rfl (Or.inl ⟨by rfl, fun w hSw => by first | (go_simp; done) | (go_simp; with_reducible rfl)⟩) (by assumption) ?_
  try simp only [Act.put, List.setIfInBounds_toArray, List.set_cons_zero, List.set_cons_succ]
  refine hx_take 22 (some 87) _ rfl (by kernel_rfl) (by kernel_rfl) (by kernel_rfl) (fun _ _ _ h => h) rfl (Or.inl ⟨by rfl, fun w hSw => by first | (go_simp; done) | (go_simp; with_reducible rfl)⟩) (by assumption) ?_
  try simp only [Act.put, List.setIfInBounds_toArray, List.set_cons_zero, List.set_cons_succ]
  refine hx_take 23 (some 88) (.agg lx.toArray) rfl (by kernel_rfl) (by kernel_rfl) (by kernel_rfl) (fun _ _ _ h => h) rfl (yieldsIf_load_mid (by rfl) _ _ rfl p10 0 rfl lx _ (fun w hSw => hSw.1) Try.underlying33 rfl (by assumption)) (by assumption) ?_
  try simp only [Act.put, List.setIfInBounds_toArray, List.set_cons_zero, List.set_cons_succ]
  refine hx_take 24 (some 89) (.agg ly.toArray) rfl (by kernel_rfl) (by kernel_rfl) (by kernel_rfl) (fun _ _ _ h => h) rfl (yieldsIf_load_mid (by rfl) _ _ rfl p12 0 rfl ly _ (fun w hSw => hSw.2.1) Try.underlying33 rfl (by assumption)) (by assumption) ?_
  try simp only [Act.put, List.setIfInBounds_toArray, List.set_cons_zero, List.set_cons_succ]
  refine hx_take 26 (some 91) (.agg (cnA cnZ)) rfl (by kernel_rfl) (by kernel_rfl) (by kernel_rfl) (fun _ _ _ h => h) rfl (Or.inl ⟨by rfl, fun w hSw => by go_simp; rfl⟩) (by assumption) ?_
  try simp only [Act.put, List.setIfInBounds_toArray, List.set_cons_zero, List.set_cons_succ]
  refine hx_take 28 (some 93) (.agg lb.toArray) rfl (by kernel_rfl) (by kernel_rfl) (by kernel_rfl) (fun _ _ _ h => h) rfl (yieldsIf_load_mid (by rfl) _ _ rfl p16 0 rfl lb _ (fun w hSw => hSw.2.2.2) Try.underlying48 rfl (by assumption)) (by assumption) ?_
  try simp only [Act.put, List.setIfInBounds_toArray, List.set_cons_zero, List.set_cons_succ]
  refine hx1 25 (by kernel_rfl) ?_
  refine hx_call 25 (some 90) _ _ _ _ rfl (by rfl) rfl (by go_simp) (hth (w10) (by repeat (first | assumption | exact Below.refl _ _ | refine bDrew ?_ | refine below_drewN ?_ _ | refine bAlloc ?_ _ | refine bSetC ?_ (by assumption) _))) ?_
  rintro w11 ⟨bw11, Bw11⟩
  have Hw11 := keepR4 g_lx g_ly g_lf g_lb Bw11
  refine ⟨Hw11, ?_⟩
  try simp only [Act.put, List.setIfInBounds_toArray, List.set_cons_zero, List.set_cons_succ]
  refine hx1 27 (by kernel_rfl) ?_
  refine hx_call 27 (some 92) _ _ _ _ rfl (by rfl) rfl (by go_simp) (ha3 (w11) (by repeat (first | assumption | exact Below.refl _ _ | refine bDrew ?_ | refine below_drewN ?_ _ | refine bAlloc ?_ _ | refine bSetC ?_ (by assumption) _))) ?_
  rintro w12 ⟨bw12, Bw12⟩
  have Hw12 := keepR4 g_lx g_ly g_lf g_lb Bw12
  refine ⟨Hw12, ?_⟩
  try simp only [Act.put, List.setIfInBounds_toArray, List.set_cons_zero, List.set_cons_succ]
  refine hx_take 29 (some 94) _ rfl (by kernel_rfl) (by kernel_rfl) (by kernel_rfl) (fun _ _ _ h => h) rfl (Or.inl ⟨by rfl, fun w hSw => by first | (go_simp; done) | (go_simp; with_reducible rfl)⟩) (by assumption) ?_
  try simp only [Act.put, List.setIfInBounds_toArray, List.set_cons_zero, List.set_cons_succ]
  refine hx_take 30 (some 95) _ rfl (by kernel_rfl) (by kernel_rfl) (by kernel_rfl) (fun _ _ _ h => h) rfl (Or.inl ⟨by rfl, fun w hSw => by first | (go_simp; done) | (go_simp; with_reducible rfl)⟩) (by assumption) ?_
  try simp only [Act.put, List.setIfInBounds_toArray, List.set_cons_zero, List.set_cons_succ]
  refine hx_take 31 (some 6) _ rfl (by kernel_rfl) (by kernel_rfl) (by kernel_rfl) (fun _ _ _ h => h) rfl (Or.inl ⟨by rfl, fun w hSw => by first | (go_simp; done) | (go_simp; with_reducible rfl)⟩) (by assumption) ?_
  try simp only [Act.put, List.setIfInBounds_toArray, List.set_cons_zero, List.set_cons_succ]
  refine wpAnyH_done (by kernel_rfl) ?_ _
  go_wp2_with fail
  go_ret
  exact ⟨rfl, below_trans' hb2 hb2.size Bw12⟩
end Go.Proofs.Ytjpbmeonkfkgdaa
