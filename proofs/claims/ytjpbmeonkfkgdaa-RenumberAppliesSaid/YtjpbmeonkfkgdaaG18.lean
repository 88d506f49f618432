/- The walk of the law RenumberAssociates. -/
import Derived.Test.YtjpbmeonkfkgdaaG17
import Derived.Test.YtjpbmeonkfkgdaaW3
namespace Go.Proofs.Ytjpbmeonkfkgdaa
open Go.RowKit

theorem keepR4 {w0 w : World} {b1 b2 b3 b4 : Nat} {l1 l2 l3 l4 : List Value} (h1 : w0.rangeAt b1 0 l1) (h2 : w0.rangeAt b2 0 l2) (h3 : w0.rangeAt b3 0 l3) (h4 : w0.rangeAt b4 0 l4) (hb : Below w0.heap.size w0 w) : w.rangeAt b1 0 l1 ∧ w.rangeAt b2 0 l2 ∧ w.rangeAt b3 0 l3 ∧ w.rangeAt b4 0 l4 := ⟨rangeAt_below hb h1, rangeAt_below hb h2, rangeAt_below hb h3, rangeAt_below hb h4⟩
theorem size28 (w : World) : (sizeOf 61).run Try.prog w = .ok 3 w := by kernel_rfl
theorem MkOk.cut {n : Nat} {ms : List Mk} (h : MkOk n ms) (i k : Nat) : MkOk n ((ms.drop i).take k) := by
  intro j hj
  rw [List.length_take, List.length_drop] at hj
  have e : gM ((ms.drop i).take k) j = gM ms (i + j) := by
    unfold gM
    rw [List.getD_eq_getElem?_getD, List.getD_eq_getElem?_getD, List.getElem?_take, if_pos (by omega), List.getElem?_drop]
  rw [e]
  exact h (i + j) (by omega)
theorem fold_all {ls : List Lv} {n : Nat} {ms : List Mk} (hL : LvOk n ls) (hm : MkOk n ms) (h : ms.length ≤ 1000) : (∀ j, ChOk 1000 (foldE ls n ms j)) ∧ Nrm n (foldE ls n ms) := by
  refine ⟨fun j => ?_, ?_⟩
  · have := foldE_ok hL hm ms.length (Nat.le_refl _) j
    rw [List.take_length] at this
    unfold ChOk at this ⊢
    omega
  · have := nrm_fold (ls := ls) hm ms.length (Nat.le_refl _)
    rw [List.take_length] at this
    exact this
theorem chk_more {M K : Int} {x : Eff} (h : ∀ i, ChOk M (x i)) (hk : M ≤ K) : ∀ i, ChOk K (x i) := fun i => by
  have := h i
  unfold ChOk at this ⊢
  omega
set_option maxHeartbeats 16000000 in
set_option maxRecDepth 100000 in
theorem law_associates (nn a0 b0 c0 x y : Int) (AW : Option Addr) (m cm : Nat) (l : List Tw) (w : World) (h0 : 0 ≤ nn ∧ nn ≤ 255) (ha : 0 ≤ a0 ∧ a0 ≤ 255) (hb : 0 ≤ b0 ∧ b0 ≤ 255) (hc : 0 ≤ c0 ∧ c0 ≤ 255) (hx : 0 ≤ x ∧ x ≤ 255) (hy : 0 ≤ y ∧ y ≤ 255) (hm : Sl w 2 twC AW m l) (hl : ∀ i, i < m → TwOk (gW l i)) :
    Calls Try.prog 4 #[.agg #[.int .u8 nn, .int .u8 a0, .int .u8 b0, .int .u8 c0], .slice AW m cm, .agg #[.int .u8 x, .int .u8 y]] w fun e w' => e = .returned (.bool true) ∧ Below w.heap.size w w' := by
  have hlm := hm.len
  have R0 := Below.refl w.heap.size w
  have hb0 := bAlloc (bAlloc (Below.refl w.heap.size w) (.cells #[.int .u8 nn, .int .u8 a0, .int .u8 b0, .int .u8 c0] 24)) (.cells #[.int .u8 x, .int .u8 y] 39)
  have N5 := Blk.new (w.alloc (.cells #[.int .u8 nn, .int .u8 a0, .int .u8 b0, .int .u8 c0] 24)) 39 #[.int .u8 x, .int .u8 y]
  rw [World.size_alloc] at N5
  have hlv := fun W => levelsOf_any nn a0 b0 c0 W h0 ha hb hc
  go_enter Try.func4, Try.ntmps4
  go_upto_region 1 with fail
  go_cut [5, 7] (fun v5 v7 wx => ∃ p5 A k cA, v5 = .pointer (some ⟨p5, 0, none⟩) ∧ v7 = .slice A k cA ∧ (k : Int) = nn % 9 + 1 ∧ Blk wx p5 39 #[.int .u8 x, .int .u8 y] ∧ Sl wx 4 lvC A k (levelsP (gS a0 b0 c0) k) ∧ Below w.heap.size w wx)
  case first =>
    go_wp2_with (first | (go_at_call 7; refine (hlv _).mono ?_; rintro e w1 ⟨A, k, cA, rfl, hk, ho, hb1⟩; have hk' := Lib.hid hk; clear hk))
    go_meet
    case rel => exact ⟨_, _, _, _, rfl, rfl, hk'.out, N5.below hb1, ho.sl lvC_len, below_trans' hb0 hb0.size hb1⟩
  case rest =>
  obtain ⟨p5, A, k, cA, rfl, rfl, hk, B5, hs1, hb1⟩ := hcut
  have k0 : 0 < k := by omega
  have k9 : k ≤ 9 := by omega
  clear hk hb0 hlv N5
  have hmk := fun W h => marks_any A k cA AW m cm l W h k0 k9 hl
  have hr := levels_right (gS a0 b0 c0) k0 k9
  have hlo := levels_lvok (gS a0 b0 c0) (k := k)
  generalize levelsP (gS a0 b0 c0) k = ls at *
  go_upto_region 2 with fail
  go_cut [8] (fun v8 wx => ∃ B q cB, v8 = .slice B q cB ∧ q = min m 20 ∧ q ≤ cB ∧ Blk wx p5 39 #[.int .u8 x, .int .u8 y] ∧ Sl wx 3 mkC B q (marksP k l 20) ∧ Sl wx 4 lvC A k ls ∧ Below w.heap.size w wx)
  case first =>
    go_wp2_with (first | (go_at_call 8; refine (hmk _ (hm.below hb1)).mono ?_; rintro e w1 ⟨B, q, cB, rfl, hq, ho, hb2⟩; have hq' := Lib.hid hq; clear hq))
    go_meet
    case rel => exact ⟨_, _, _, rfl, hq'.out, ho.cap.1, B5.below hb2, ho.sl mkC_len, hs1.below hb2, below_trans' hb1 hb1.size hb2⟩
  case rest =>
  obtain ⟨B, q, cB, rfl, hq, hqc, B5', hs3, hs4, hb2⟩ := hcut
  have q20 : q ≤ 20 := by omega
  clear hq hs1 hb1 hmk B5
  have B5 := B5'
  clear B5'
  have hmo := marksP_ok k0 (l := l) (by rw [hlm]; exact hl) 20
  generalize marksP k l 20 = ms at *
  go_upto_region 3 with fail
  go_cut [9] (fun v9 wx => ∃ i : Nat, v9 = .int .i64 i ∧ i ≤ q ∧ wx = wc)
  case first =>
    have c0 := B5.cell 0 rfl
    have t1 : x.tmod ((q : Int) + 1) = x % ((q : Int) + 1) := Int.tmod_eq_emod_of_nonneg hx.1
    have t2 := Int.emod_nonneg x (show (q : Int) + 1 ≠ 0 by omega)
    have t3 := Int.emod_lt_of_pos x (show (0 : Int) < (q : Int) + 1 by omega)
    have t4 : IntKind.i64.wrap (x % ((q : Int) + 1)) = x % ((q : Int) + 1) := IntWalk.i64_in _ (by omega)
    go_wp2_with fail
    go_meet
    case rel => exact ⟨(x % ((q : Int) + 1)).toNat, by congr 1; omega, by omega, rfl⟩
  case rest =>
  obtain ⟨i, rfl, hi, rfl⟩ := hcut
  go_upto_region 4 with fail
  go_cut [10] (fun v10 wx => ∃ j : Nat, v10 = .int .i64 j ∧ i ≤ j ∧ j ≤ q ∧ wx = wc)
  case first =>
    have c1 := B5.cell 1 rfl
    have t1 : y.tmod ((q : Int) - i + 1) = y % ((q : Int) - i + 1) := Int.tmod_eq_emod_of_nonneg hy.1
    have t2 := Int.emod_nonneg y (show (q : Int) - i + 1 ≠ 0 by omega)
    have t3 := Int.emod_lt_of_pos y (show (0 : Int) < (q : Int) - i + 1 by omega)
    go_wp2_with fail
    go_meet
    case rel => exact ⟨i + (y % ((q : Int) - i + 1)).toNat, by congr 1; omega, by omega, by omega, rfl⟩
  case rest =>
  obtain ⟨j, rfl, hij, hj, rfl⟩ := hcut
  clear B5
  have hml := hs3.len
  have hta := run_cut_h Try.underlying28 size28 B hi hqc
  have htb := run_cut_lh Try.underlying28 size28 B hij hj hqc
  have htc := run_cut_l Try.underlying28 size28 B (c := cB) hj
  have sa := fun W (h : Sl W 3 mkC B q ms) => h.take hi
  have sb := fun W (h : Sl W 3 mkC B q ms) => h.cut hij hj hqc
  have sc := fun W (h : Sl W 3 mkC B q ms) => h.cut hj (Nat.le_refl q) hqc
  have ma : MkOk k (ms.take i) := hmo.cut 0 i
  have mb := hmo.cut i (j - i)
  have mc := hmo.cut j (q - j)
  obtain ⟨oa, na⟩ := fold_all hlo ma (by rw [List.length_take]; omega)
  obtain ⟨ob, nb⟩ := fold_all hlo mb (by rw [List.length_take, List.length_drop]; omega)
  obtain ⟨oc, nc⟩ := fold_all hlo mc (by rw [List.length_take, List.length_drop]; omega)
  generalize ms.take i = m1 at *
  generalize (ms.drop i).take (j - i) = m2 at *
  generalize (ms.drop j).take (q - j) = m3 at *
  generalize cutA B i cB 3 = B2 at *
  generalize cutA B j cB 3 = B3 at *
  have E1 := ES.nil_ wc
  go_upto_region 5 with fail
  go_cut [11, 12] (fun vp vo wx => ∃ p11, vp = .pointer (some ⟨p11, 0, none⟩) ∧ vo = .bool true ∧ ES wx ((p11, foldE ls k m1) :: []) ∧ Sl wx 3 mkC B q ms ∧ Sl wx 4 lvC A k ls ∧ Below w.heap.size w wx)
  case first =>
    have hef := lawEffect_any A k cA ls B i cB m1 wc hs4 (sa _ hs3) hlo hr (by assumption) (by omega)
    go_wp2_with (first | (go_at_call 9; refine hef.mono ?_; rintro e w2 ⟨rfl, hb3⟩; have N2 := Blk.new w2 33 (effA effZ); have hA2 := bAlloc hb3 (.cells (effA effZ) 33); have hE := (E1.below hA2).row (E1.ne hb3.size) N2 (foldE ls k m1); unfold Blk at N2) | (refine wpList_store_row rfl 33 _ _ rfl w2.heap.size _ rfl rfl 33 _ N2 (by kernel_rfl) rfl (effA_one _) ?_))
    go_meet
    case rel =>
      have hA3 := below_setRow hA2 hb3.size (effA (foldE ls k m1))
      exact ⟨_, rfl, rfl, hE, hs3.below hA3, hs4.below hA3, below_trans' hb2 hb2.size hA3⟩
  case rest =>
  obtain ⟨p11, rfl, rfl, E1', hs3', hs4', hb2'⟩ := hcut
  clear E1 hs3 hs4 hb2
  have E1 := E1'
  have hs3 := hs3'
  have hs4 := hs4'
  have hb2 := hb2'
  clear E1' hs3' hs4' hb2'
  go_upto_region 6 with fail
  go_cut [13, 14] (fun vp vo wx => ∃ p13, vp = .pointer (some ⟨p13, 0, none⟩) ∧ vo = .bool true ∧ ES wx ((p13, foldE ls k m2) :: [(p11, foldE ls k m1)]) ∧ Sl wx 3 mkC B q ms ∧ Sl wx 4 lvC A k ls ∧ Below w.heap.size w wx)
  case first =>
    have hef := lawEffect_any A k cA ls B2 (j - i) (cB - i) m2 wc hs4 (sb _ hs3) hlo hr (by assumption) (by omega)
    go_wp2_with (first | (go_at_call 9; refine hef.mono ?_; rintro e w2 ⟨rfl, hb3⟩; have N2 := Blk.new w2 33 (effA effZ); have hA2 := bAlloc hb3 (.cells (effA effZ) 33); have hE := (E1.below hA2).row (E1.ne hb3.size) N2 (foldE ls k m2); unfold Blk at N2) | (refine wpList_store_row rfl 33 _ _ rfl w2.heap.size _ rfl rfl 33 _ N2 (by kernel_rfl) rfl (effA_one _) ?_))
    go_meet
    case rel =>
      have hA3 := below_setRow hA2 hb3.size (effA (foldE ls k m2))
      exact ⟨_, rfl, rfl, hE, hs3.below hA3, hs4.below hA3, below_trans' hb2 hb2.size hA3⟩
  case rest =>
  obtain ⟨p13, rfl, rfl, E1', hs3', hs4', hb2'⟩ := hcut
  clear E1 hs3 hs4 hb2
  have E1 := E1'
  have hs3 := hs3'
  have hs4 := hs4'
  have hb2 := hb2'
  clear E1' hs3' hs4' hb2'
  go_upto_region 7 with fail
  go_cut [15, 16] (fun vp vo wx => ∃ p15, vp = .pointer (some ⟨p15, 0, none⟩) ∧ vo = .bool true ∧ ES wx ((p15, foldE ls k m3) :: [(p13, foldE ls k m2), (p11, foldE ls k m1)]) ∧ Sl wx 3 mkC B q ms ∧ Sl wx 4 lvC A k ls ∧ Below w.heap.size w wx)
  case first =>
    have hef := lawEffect_any A k cA ls B3 (q - j) (cB - j) m3 wc hs4 (sc _ hs3) hlo hr (by assumption) (by omega)
    go_wp2_with (first | (go_at_call 9; refine hef.mono ?_; rintro e w2 ⟨rfl, hb3⟩; have N2 := Blk.new w2 33 (effA effZ); have hA2 := bAlloc hb3 (.cells (effA effZ) 33); have hE := (E1.below hA2).row (E1.ne hb3.size) N2 (foldE ls k m3); unfold Blk at N2) | (refine wpList_store_row rfl 33 _ _ rfl w2.heap.size _ rfl rfl 33 _ N2 (by kernel_rfl) rfl (effA_one _) ?_))
    go_meet
    case rel =>
      have hA3 := below_setRow hA2 hb3.size (effA (foldE ls k m3))
      exact ⟨_, rfl, rfl, hE, hs3.below hA3, hs4.below hA3, below_trans' hb2 hb2.size hA3⟩
  case rest =>
  obtain ⟨p15, rfl, rfl, E1', hs3', hs4', hb2'⟩ := hcut
  clear E1 hs3 hs4 hb2
  have E1 := E1'
  have hs3 := hs3'
  have hs4 := hs4'
  have hb2 := hb2'
  clear E1' hs3' hs4' hb2'
  clear hta htb htc sa sb sc ma mb mc hmo hr hs3
  generalize foldE ls k m1 = a at *
  generalize foldE ls k m2 = b at *
  generalize foldE ls k m3 = c at *
  have asc := thenE_assoc (ls := ls) (a := a) nb nc
  have zl := thenE_zero_left (ls := ls) na
  have zr := thenE_zero_right (ls := ls) na
  have zo : ∀ i, ChOk 1000 (effZ i) := fun i => chZ_ok (by omega)
  have oab := chk_more (thenE_ok hlo oa ob (by omega) (by omega)) (show (1000 : Int) + 1000 ≤ 2000 by omega)
  have obc := chk_more (thenE_ok hlo ob oc (by omega) (by omega)) (show (1000 : Int) + 1000 ≤ 2000 by omega)
  have hTab := fun W (h : Sl W 4 lvC A k ls) => then_any A k cA ls a b 1000 1000 W h k9 hlo oa ob (by omega) (by omega)
  have hTabc := fun W (h : Sl W 4 lvC A k ls) => then_any A k cA ls (thenE ls k a b) c 2000 1000 W h k9 hlo oab oc (by omega) (by omega)
  have hTbc := fun W (h : Sl W 4 lvC A k ls) => then_any A k cA ls b c 1000 1000 W h k9 hlo ob oc (by omega) (by omega)
  have hTabc2 := fun W (h : Sl W 4 lvC A k ls) => then_any A k cA ls a (thenE ls k b c) 1000 2000 W h k9 hlo oa obc (by omega) (by omega)
  have hTza := fun W (h : Sl W 4 lvC A k ls) => then_any A k cA ls effZ a 1000 1000 W h k9 hlo zo oa (by omega) (by omega)
  have hTaz := fun W (h : Sl W 4 lvC A k ls) => then_any A k cA ls a effZ 1000 1000 W h k9 hlo oa zo (by omega) (by omega)
  rw [asc] at hTabc
  rw [zl] at hTza
  rw [zr] at hTaz
  clear asc zl zr zo na nb nc oa ob oc oab obc
  generalize thenE ls k a (thenE ls k b c) = abc at *
  generalize thenE ls k a b = ab at *
  generalize thenE ls k b c = bc at *
  simp only [effA_L] at hTab hTabc hTbc hTabc2 hTza hTaz
  have hsz := size33
  have q11 := E1 (p11, a) (by simp)
  have q13 := E1 (p13, b) (by simp)
  have q15 := E1 (p15, c) (by simp)
  obtain ⟨la, hla⟩ : ∃ l, l = effL a := ⟨_, rfl⟩
  obtain ⟨lb, hlb⟩ : ∃ l, l = effL b := ⟨_, rfl⟩
  obtain ⟨lc, hlc⟩ : ∃ l, l = effL c := ⟨_, rfl⟩
  obtain ⟨lz, hlz⟩ : ∃ l, l = effL effZ := ⟨_, rfl⟩
  obtain ⟨lab, hlab⟩ : ∃ l, l = effL ab := ⟨_, rfl⟩
  obtain ⟨lbc, hlbc⟩ : ∃ l, l = effL bc := ⟨_, rfl⟩
  obtain ⟨lw, hlw⟩ : ∃ l, l = effL abc := ⟨_, rfl⟩
  rw [← hla, ← hlb, ← hlab] at hTab
  rw [← hlab, ← hlc, ← hlw] at hTabc
  rw [← hlb, ← hlc, ← hlbc] at hTbc
  rw [← hla, ← hlbc, ← hlw] at hTabc2
  rw [← hlz, ← hla] at hTza
  rw [← hla, ← hlz] at hTaz
  have i_la : (Try.prog.info? 33).map (·.size) = some la.length := by rw [hla]; exact size33
  have i_lb : (Try.prog.info? 33).map (·.size) = some lb.length := by rw [hlb]; exact size33
  have i_lc : (Try.prog.info? 33).map (·.size) = some lc.length := by rw [hlc]; exact size33
  have i_lw : (Try.prog.info? 33).map (·.size) = some lw.length := by rw [hlw]; exact size33
  have i_lz : (Try.prog.info? 33).map (·.size) = some lz.length := by rw [hlz]; exact size33
  have e_lw : lw.length = 36 := by rw [hlw]; rfl
  have o_lw : ∀ v ∈ lw, v.oneCell' = true := by rw [hlw]; exact effL_one abc
  have qqa := equalE_list hla hla
  have qqw := equalE_list hlw hlw
  have hgd : Try.prog.eqGuardType Try.prog.depth 33 = false := by kernel_rfl
  have H_la := Lib.hid hla
  have H_lb := Lib.hid hlb
  have H_lc := Lib.hid hlc
  have H_lw := Lib.hid hlw
  have H_lz := Lib.hid hlz
  clear hla hlb hlc hlz hlab hlbc hlw q11 q13 q15
  go_upto_region 10 with (first | (go_at_call 10; refine (known_any _).mono ?_; rintro e wc ⟨rfl, hb3⟩))
  have E2 := E1.below hb3
  have hs2 := hs4.below hb3
  have hb2' := below_trans' hb2 hb2.size hb3
  clear E1 hs4 hb2 hb3
  have hb2 := hb2'
  clear hb2'
  have g_la := (E2 (p11, a) (by simp)).range_ H_la.out
  have g_lb := (E2 (p13, b) (by simp)).range_ H_lb.out
  have g_lc := (E2 (p15, c) (by simp)).range_ H_lc.out
  simp only at g_la g_lb g_lc
  have hc1 := at_below (fun W (hW : Below wc.heap.size wc W) => hTab W (hs2.below hW))
  have hc2 := at_below (fun W (hW : Below wc.heap.size wc W) => hTabc W (hs2.below hW))
  go_cut [17] (fun vp wx => ∃ p17, vp = .pointer (some ⟨p17, 0, none⟩) ∧ ES wx ((p17, abc) :: [(p15, c), (p13, b), (p11, a)]) ∧ Sl wx 4 lvC A k ls ∧ Below w.heap.size w wx)
  case first =>
    have hle := Nat.le_refl wc.heap.size
    refine wp_region_held_drew (S := fun w' => w'.rangeAt p11 0 la ∧ w'.rangeAt p13 0 lb ∧ w'.rangeAt p15 0 lc) (by kernel_rfl) (keepR3 g_la g_lb g_lc (by repeat (first | assumption | exact Below.refl _ _ | refine bDrew ?_ | refine below_drewN ?_ _ | refine bAlloc ?_ _ | refine bSetC ?_ (by assumption) _))) (fun hHeld => ?_)
    refine hx_take 0 (some 85) _ rfl (by kernel_rfl) (by kernel_rfl) (by kernel_rfl) (fun _ _ _ h => h) rfl (Or.inl ⟨by rfl, fun w hSw => by first | (go_simp; done) | (go_simp; with_reducible rfl)⟩) (by assumption) ?_
    try simp only [Act.put, List.setIfInBounds_toArray, List.set_cons_zero, List.set_cons_succ]
    refine hx_take 1 (some 86) _ rfl (by kernel_rfl) (by kernel_rfl) (by kernel_rfl) (fun _ _ _ h => h) rfl (Or.inl ⟨by rfl, fun w hSw => by first | (go_simp; done) | (go_simp; with_reducible rfl)⟩) (by assumption) ?_
    try simp only [Act.put, List.setIfInBounds_toArray, List.set_cons_zero, List.set_cons_succ]
    refine hx_take 2 (some 87) (.agg la.toArray) rfl (by kernel_rfl) (by kernel_rfl) (by kernel_rfl) (fun _ _ _ h => h) rfl (yieldsIf_load_mid (by rfl) _ _ rfl p11 0 rfl la _ (fun w hSw => hSw.1) Try.underlying33 rfl (by assumption)) (by assumption) ?_
    try simp only [Act.put, List.setIfInBounds_toArray, List.set_cons_zero, List.set_cons_succ]
    refine hx_take 3 (some 88) (.agg lb.toArray) rfl (by kernel_rfl) (by kernel_rfl) (by kernel_rfl) (fun _ _ _ h => h) rfl (yieldsIf_load_mid (by rfl) _ _ rfl p13 0 rfl lb _ (fun w hSw => hSw.2.1) Try.underlying33 rfl (by assumption)) (by assumption) ?_
    try simp only [Act.put, List.setIfInBounds_toArray, List.set_cons_zero, List.set_cons_succ]
    refine hx_take 5 (some 90) (.agg lc.toArray) rfl (by kernel_rfl) (by kernel_rfl) (by kernel_rfl) (fun _ _ _ h => h) rfl (yieldsIf_load_mid (by rfl) _ _ rfl p15 0 rfl lc _ (fun w hSw => hSw.2.2) Try.underlying33 rfl (by assumption)) (by assumption) ?_
    try simp only [Act.put, List.setIfInBounds_toArray, List.set_cons_zero, List.set_cons_succ]
    refine hx2 4 7 (by kernel_rfl) ?_ ?_
    · refine hx_call 4 (some 89) _ _ _ _ rfl (by rfl) rfl (by go_simp) (hc1 (wc.drew) (by repeat (first | assumption | exact Below.refl _ _ | refine bDrew ?_ | refine below_drewN ?_ _ | refine bAlloc ?_ _ | refine bSetC ?_ (by assumption) _))) ?_
      rintro w9 ⟨bw9, Bw9⟩
      have Ew9 := (E2.drewN 1).below bw9
      have gw9 := Bw9.size
      refine ⟨by refine keepR3 g_la g_lb g_lc ?_; repeat (first | assumption | exact Below.refl _ _ | refine bDrew ?_ | refine below_drewN ?_ _ | refine bAlloc ?_ _ | refine bSetC ?_ (by assumption) _), ?_⟩
      try simp only [Act.put, List.setIfInBounds_toArray, List.set_cons_zero, List.set_cons_succ]
      refine hx2 6 7 (by kernel_rfl) ?_ ?_
      · refine hx_call 6 (some 91) _ _ _ _ rfl (by rfl) rfl (by go_simp) (hc2 (w9) (by repeat (first | assumption | exact Below.refl _ _ | refine bDrew ?_ | refine below_drewN ?_ _ | refine bAlloc ?_ _ | refine bSetC ?_ (by assumption) _))) ?_
        rintro w10 ⟨bw10, Bw10⟩
        have Ew10 := Ew9.below bw10
        have gw10 := Bw10.size
        refine ⟨by refine keepR3 g_la g_lb g_lc ?_; repeat (first | assumption | exact Below.refl _ _ | refine bDrew ?_ | refine below_drewN ?_ _ | refine bAlloc ?_ _ | refine bSetC ?_ (by assumption) _), ?_⟩
        try simp only [Act.put, List.setIfInBounds_toArray, List.set_cons_zero, List.set_cons_succ]
        refine hx1 7 (by kernel_rfl) ?_
        · refine hx_val 7 (some 17) (.pointer (some ⟨w10.heap.size, 0, none⟩)) ((w10).alloc (.cells (List.toArray (.bool false :: .bool false :: .int .i64 0 :: .int .i64 0 :: .bool false :: .bool false :: .int .i64 0 :: .int .i64 0 :: .bool false :: .bool false :: .int .i64 0 :: .int .i64 0 :: .bool false :: .bool false :: .int .i64 0 :: .int .i64 0 :: .bool false :: .bool false :: .int .i64 0 :: .int .i64 0 :: .bool false :: .bool false :: .int .i64 0 :: .int .i64 0 :: .bool false :: .bool false :: .int .i64 0 :: .int .i64 0 :: .bool false :: .bool false :: .int .i64 0 :: .int .i64 0 :: .bool false :: .bool false :: .int .i64 0 :: .int .i64 0 :: [])) 33)) rfl (by rfl) rfl (by rfl) (by refine keepR3 g_la g_lb g_lc ?_; repeat (first | assumption | exact Below.refl _ _ | refine bDrew ?_ | refine below_drewN ?_ _ | refine bAlloc ?_ _ | refine bSetC ?_ (by assumption) _)) ?_
          try simp only [Act.put, List.setIfInBounds_toArray, List.set_cons_zero, List.set_cons_succ]
          have NA : Blk ((w10).alloc (.cells (List.toArray (.bool false :: .bool false :: .int .i64 0 :: .int .i64 0 :: .bool false :: .bool false :: .int .i64 0 :: .int .i64 0 :: .bool false :: .bool false :: .int .i64 0 :: .int .i64 0 :: .bool false :: .bool false :: .int .i64 0 :: .int .i64 0 :: .bool false :: .bool false :: .int .i64 0 :: .int .i64 0 :: .bool false :: .bool false :: .int .i64 0 :: .int .i64 0 :: .bool false :: .bool false :: .int .i64 0 :: .int .i64 0 :: .bool false :: .bool false :: .int .i64 0 :: .int .i64 0 :: .bool false :: .bool false :: .int .i64 0 :: .int .i64 0 :: [])) 33)) (w10.heap.size) 33 (effA effZ) := Blk.new (w10) 33 (effA effZ)
          have EA := Ew10.below (bAlloc (Below.refl _ (w10)) (.cells (List.toArray (.bool false :: .bool false :: .int .i64 0 :: .int .i64 0 :: .bool false :: .bool false :: .int .i64 0 :: .int .i64 0 :: .bool false :: .bool false :: .int .i64 0 :: .int .i64 0 :: .bool false :: .bool false :: .int .i64 0 :: .int .i64 0 :: .bool false :: .bool false :: .int .i64 0 :: .int .i64 0 :: .bool false :: .bool false :: .int .i64 0 :: .int .i64 0 :: .bool false :: .bool false :: .int .i64 0 :: .int .i64 0 :: .bool false :: .bool false :: .int .i64 0 :: .int .i64 0 :: .bool false :: .bool false :: .int .i64 0 :: .int .i64 0 :: [])) 33))
          refine hx1 8 (by kernel_rfl) ?_
          · refine hx_store 8 33 (.tmp 17) (.tmp 91) (w10.heap.size) lw rfl (by rfl) rfl rfl rfl rfl (by rw [e_lw]; exact NA.there_) i_lw o_lw (by have hgg := gw10; refine keepR3 g_la g_lb g_lc ?_; repeat (first | assumption | exact Below.refl _ _ | refine bDrew ?_ | refine below_drewN ?_ _ | refine bAlloc ?_ _ | refine bSetC ?_ (by assumption) _)) ?_
            try simp only [Act.put, List.setIfInBounds_toArray, List.set_cons_zero, List.set_cons_succ]
            refine wpAnyH_done (by kernel_rfl) ?_ _
            have hgg : wc.heap.size ≤ w10.heap.size := gw10
            have hEF := EA.store (E2.ne hgg) NA H_lw.out
            have hBF : Below wc.heap.size wc (((w10).alloc (.cells (List.toArray (.bool false :: .bool false :: .int .i64 0 :: .int .i64 0 :: .bool false :: .bool false :: .int .i64 0 :: .int .i64 0 :: .bool false :: .bool false :: .int .i64 0 :: .int .i64 0 :: .bool false :: .bool false :: .int .i64 0 :: .int .i64 0 :: .bool false :: .bool false :: .int .i64 0 :: .int .i64 0 :: .bool false :: .bool false :: .int .i64 0 :: .int .i64 0 :: .bool false :: .bool false :: .int .i64 0 :: .int .i64 0 :: .bool false :: .bool false :: .int .i64 0 :: .int .i64 0 :: .bool false :: .bool false :: .int .i64 0 :: .int .i64 0 :: [])) 33)).setCells (w10.heap.size) 0 lw) := by repeat (first | assumption | exact Below.refl _ _ | refine bDrew ?_ | refine below_drewN ?_ _ | refine bAlloc ?_ _ | refine bSetC ?_ (by assumption) _)
            go_wp2_with fail
            go_meet
            case rel => exact ⟨_, rfl, hEF, hs2.below hBF, below_trans' hb2 hb2.size hBF⟩
      · refine hx_val 7 (some 17) (.pointer (some ⟨w9.heap.size, 0, none⟩)) ((w9).alloc (.cells (List.toArray (.bool false :: .bool false :: .int .i64 0 :: .int .i64 0 :: .bool false :: .bool false :: .int .i64 0 :: .int .i64 0 :: .bool false :: .bool false :: .int .i64 0 :: .int .i64 0 :: .bool false :: .bool false :: .int .i64 0 :: .int .i64 0 :: .bool false :: .bool false :: .int .i64 0 :: .int .i64 0 :: .bool false :: .bool false :: .int .i64 0 :: .int .i64 0 :: .bool false :: .bool false :: .int .i64 0 :: .int .i64 0 :: .bool false :: .bool false :: .int .i64 0 :: .int .i64 0 :: .bool false :: .bool false :: .int .i64 0 :: .int .i64 0 :: [])) 33)) rfl (by rfl) rfl (by rfl) (by refine keepR3 g_la g_lb g_lc ?_; repeat (first | assumption | exact Below.refl _ _ | refine bDrew ?_ | refine below_drewN ?_ _ | refine bAlloc ?_ _ | refine bSetC ?_ (by assumption) _)) ?_
        try simp only [Act.put, List.setIfInBounds_toArray, List.set_cons_zero, List.set_cons_succ]
        have NA : Blk ((w9).alloc (.cells (List.toArray (.bool false :: .bool false :: .int .i64 0 :: .int .i64 0 :: .bool false :: .bool false :: .int .i64 0 :: .int .i64 0 :: .bool false :: .bool false :: .int .i64 0 :: .int .i64 0 :: .bool false :: .bool false :: .int .i64 0 :: .int .i64 0 :: .bool false :: .bool false :: .int .i64 0 :: .int .i64 0 :: .bool false :: .bool false :: .int .i64 0 :: .int .i64 0 :: .bool false :: .bool false :: .int .i64 0 :: .int .i64 0 :: .bool false :: .bool false :: .int .i64 0 :: .int .i64 0 :: .bool false :: .bool false :: .int .i64 0 :: .int .i64 0 :: [])) 33)) (w9.heap.size) 33 (effA effZ) := Blk.new (w9) 33 (effA effZ)
        have EA := Ew9.below (bAlloc (Below.refl _ (w9)) (.cells (List.toArray (.bool false :: .bool false :: .int .i64 0 :: .int .i64 0 :: .bool false :: .bool false :: .int .i64 0 :: .int .i64 0 :: .bool false :: .bool false :: .int .i64 0 :: .int .i64 0 :: .bool false :: .bool false :: .int .i64 0 :: .int .i64 0 :: .bool false :: .bool false :: .int .i64 0 :: .int .i64 0 :: .bool false :: .bool false :: .int .i64 0 :: .int .i64 0 :: .bool false :: .bool false :: .int .i64 0 :: .int .i64 0 :: .bool false :: .bool false :: .int .i64 0 :: .int .i64 0 :: .bool false :: .bool false :: .int .i64 0 :: .int .i64 0 :: [])) 33))
        refine hx1 6 (by kernel_rfl) ?_
        · refine hx_call 6 (some 91) _ _ _ _ rfl (by rfl) rfl (by go_simp) (hc2 ((w9).alloc (.cells (List.toArray (.bool false :: .bool false :: .int .i64 0 :: .int .i64 0 :: .bool false :: .bool false :: .int .i64 0 :: .int .i64 0 :: .bool false :: .bool false :: .int .i64 0 :: .int .i64 0 :: .bool false :: .bool false :: .int .i64 0 :: .int .i64 0 :: .bool false :: .bool false :: .int .i64 0 :: .int .i64 0 :: .bool false :: .bool false :: .int .i64 0 :: .int .i64 0 :: .bool false :: .bool false :: .int .i64 0 :: .int .i64 0 :: .bool false :: .bool false :: .int .i64 0 :: .int .i64 0 :: .bool false :: .bool false :: .int .i64 0 :: .int .i64 0 :: [])) 33)) (by repeat (first | assumption | exact Below.refl _ _ | refine bDrew ?_ | refine below_drewN ?_ _ | refine bAlloc ?_ _ | refine bSetC ?_ (by assumption) _))) ?_
          rintro w10 ⟨bw10, Bw10⟩
          have Ew10 := EA.below bw10
          have gw10 := Bw10.size
          have Nw10 := NA.below bw10
          refine ⟨by refine keepR3 g_la g_lb g_lc ?_; repeat (first | assumption | exact Below.refl _ _ | refine bDrew ?_ | refine below_drewN ?_ _ | refine bAlloc ?_ _ | refine bSetC ?_ (by assumption) _), ?_⟩
          try simp only [Act.put, List.setIfInBounds_toArray, List.set_cons_zero, List.set_cons_succ]
          refine hx1 8 (by kernel_rfl) ?_
          · refine hx_store 8 33 (.tmp 17) (.tmp 91) (w9.heap.size) lw rfl (by rfl) rfl rfl rfl rfl (by rw [e_lw]; exact Nw10.there_) i_lw o_lw (by have hgg := gw9; refine keepR3 g_la g_lb g_lc ?_; repeat (first | assumption | exact Below.refl _ _ | refine bDrew ?_ | refine below_drewN ?_ _ | refine bAlloc ?_ _ | refine bSetC ?_ (by assumption) _)) ?_
            try simp only [Act.put, List.setIfInBounds_toArray, List.set_cons_zero, List.set_cons_succ]
            refine wpAnyH_done (by kernel_rfl) ?_ _
            have hgg : wc.heap.size ≤ w9.heap.size := gw9
            have hEF := Ew10.store (E2.ne hgg) Nw10 H_lw.out
            have hBF : Below wc.heap.size wc ((w10).setCells (w9.heap.size) 0 lw) := by repeat (first | assumption | exact Below.refl _ _ | refine bDrew ?_ | refine below_drewN ?_ _ | refine bAlloc ?_ _ | refine bSetC ?_ (by assumption) _)
            go_wp2_with fail
            go_meet
            case rel => exact ⟨_, rfl, hEF, hs2.below hBF, below_trans' hb2 hb2.size hBF⟩
    · refine hx_val 7 (some 17) (.pointer (some ⟨wc.heap.size, 0, none⟩)) ((wc.drew).alloc (.cells (List.toArray (.bool false :: .bool false :: .int .i64 0 :: .int .i64 0 :: .bool false :: .bool false :: .int .i64 0 :: .int .i64 0 :: .bool false :: .bool false :: .int .i64 0 :: .int .i64 0 :: .bool false :: .bool false :: .int .i64 0 :: .int .i64 0 :: .bool false :: .bool false :: .int .i64 0 :: .int .i64 0 :: .bool false :: .bool false :: .int .i64 0 :: .int .i64 0 :: .bool false :: .bool false :: .int .i64 0 :: .int .i64 0 :: .bool false :: .bool false :: .int .i64 0 :: .int .i64 0 :: .bool false :: .bool false :: .int .i64 0 :: .int .i64 0 :: [])) 33)) rfl (by rfl) rfl (by rfl) (by refine keepR3 g_la g_lb g_lc ?_; repeat (first | assumption | exact Below.refl _ _ | refine bDrew ?_ | refine below_drewN ?_ _ | refine bAlloc ?_ _ | refine bSetC ?_ (by assumption) _)) ?_
      try simp only [Act.put, List.setIfInBounds_toArray, List.set_cons_zero, List.set_cons_succ]
      have NA : Blk ((wc.drew).alloc (.cells (List.toArray (.bool false :: .bool false :: .int .i64 0 :: .int .i64 0 :: .bool false :: .bool false :: .int .i64 0 :: .int .i64 0 :: .bool false :: .bool false :: .int .i64 0 :: .int .i64 0 :: .bool false :: .bool false :: .int .i64 0 :: .int .i64 0 :: .bool false :: .bool false :: .int .i64 0 :: .int .i64 0 :: .bool false :: .bool false :: .int .i64 0 :: .int .i64 0 :: .bool false :: .bool false :: .int .i64 0 :: .int .i64 0 :: .bool false :: .bool false :: .int .i64 0 :: .int .i64 0 :: .bool false :: .bool false :: .int .i64 0 :: .int .i64 0 :: [])) 33)) (wc.heap.size) 33 (effA effZ) := Blk.new (wc.drew) 33 (effA effZ)
      have EA := (E2.drewN 1).below (bAlloc (Below.refl _ (wc.drew)) (.cells (List.toArray (.bool false :: .bool false :: .int .i64 0 :: .int .i64 0 :: .bool false :: .bool false :: .int .i64 0 :: .int .i64 0 :: .bool false :: .bool false :: .int .i64 0 :: .int .i64 0 :: .bool false :: .bool false :: .int .i64 0 :: .int .i64 0 :: .bool false :: .bool false :: .int .i64 0 :: .int .i64 0 :: .bool false :: .bool false :: .int .i64 0 :: .int .i64 0 :: .bool false :: .bool false :: .int .i64 0 :: .int .i64 0 :: .bool false :: .bool false :: .int .i64 0 :: .int .i64 0 :: .bool false :: .bool false :: .int .i64 0 :: .int .i64 0 :: [])) 33))
      refine hx1 4 (by kernel_rfl) ?_
      · refine hx_call 4 (some 89) _ _ _ _ rfl (by rfl) rfl (by go_simp) (hc1 ((wc.drew).alloc (.cells (List.toArray (.bool false :: .bool false :: .int .i64 0 :: .int .i64 0 :: .bool false :: .bool false :: .int .i64 0 :: .int .i64 0 :: .bool false :: .bool false :: .int .i64 0 :: .int .i64 0 :: .bool false :: .bool false :: .int .i64 0 :: .int .i64 0 :: .bool false :: .bool false :: .int .i64 0 :: .int .i64 0 :: .bool false :: .bool false :: .int .i64 0 :: .int .i64 0 :: .bool false :: .bool false :: .int .i64 0 :: .int .i64 0 :: .bool false :: .bool false :: .int .i64 0 :: .int .i64 0 :: .bool false :: .bool false :: .int .i64 0 :: .int .i64 0 :: [])) 33)) (by repeat (first | assumption | exact Below.refl _ _ | refine bDrew ?_ | refine below_drewN ?_ _ | refine bAlloc ?_ _ | refine bSetC ?_ (by assumption) _))) ?_
        rintro w9 ⟨bw9, Bw9⟩
        have Ew9 := EA.below bw9
        have gw9 := Bw9.size
        have Nw9 := NA.below bw9
        refine ⟨by refine keepR3 g_la g_lb g_lc ?_; repeat (first | assumption | exact Below.refl _ _ | refine bDrew ?_ | refine below_drewN ?_ _ | refine bAlloc ?_ _ | refine bSetC ?_ (by assumption) _), ?_⟩
        try simp only [Act.put, List.setIfInBounds_toArray, List.set_cons_zero, List.set_cons_succ]
        refine hx1 6 (by kernel_rfl) ?_
        · refine hx_call 6 (some 91) _ _ _ _ rfl (by rfl) rfl (by go_simp) (hc2 (w9) (by repeat (first | assumption | exact Below.refl _ _ | refine bDrew ?_ | refine below_drewN ?_ _ | refine bAlloc ?_ _ | refine bSetC ?_ (by assumption) _))) ?_
          rintro w10 ⟨bw10, Bw10⟩
          have Ew10 := Ew9.below bw10
          have gw10 := Bw10.size
          have Nw10 := Nw9.below bw10
          refine ⟨by refine keepR3 g_la g_lb g_lc ?_; repeat (first | assumption | exact Below.refl _ _ | refine bDrew ?_ | refine below_drewN ?_ _ | refine bAlloc ?_ _ | refine bSetC ?_ (by assumption) _), ?_⟩
          try simp only [Act.put, List.setIfInBounds_toArray, List.set_cons_zero, List.set_cons_succ]
          refine hx1 8 (by kernel_rfl) ?_
          · refine hx_store 8 33 (.tmp 17) (.tmp 91) (wc.heap.size) lw rfl (by rfl) rfl rfl rfl rfl (by rw [e_lw]; exact Nw10.there_) i_lw o_lw (by have hgg := hle; refine keepR3 g_la g_lb g_lc ?_; repeat (first | assumption | exact Below.refl _ _ | refine bDrew ?_ | refine below_drewN ?_ _ | refine bAlloc ?_ _ | refine bSetC ?_ (by assumption) _)) ?_
            try simp only [Act.put, List.setIfInBounds_toArray, List.set_cons_zero, List.set_cons_succ]
            refine wpAnyH_done (by kernel_rfl) ?_ _
            have hgg : wc.heap.size ≤ wc.heap.size := hle
            have hEF := Ew10.store (E2.ne hgg) Nw10 H_lw.out
            have hBF : Below wc.heap.size wc ((w10).setCells (wc.heap.size) 0 lw) := by repeat (first | assumption | exact Below.refl _ _ | refine bDrew ?_ | refine below_drewN ?_ _ | refine bAlloc ?_ _ | refine bSetC ?_ (by assumption) _)
            go_wp2_with fail
            go_meet
            case rel => exact ⟨_, rfl, hEF, hs2.below hBF, below_trans' hb2 hb2.size hBF⟩
  case rest =>
  obtain ⟨p17, rfl, E1, hs4, hb4⟩ := hcut
  clear E2 hs2 hb2 hc1 hc2 g_la g_lb g_lc
  have E2 := E1
  have hs2 := hs4
  have hb2 := hb4
  clear E1 hs4 hb4
  have g_la := (E2 (p11, a) (by simp)).range_ H_la.out
  have g_lb := (E2 (p13, b) (by simp)).range_ H_lb.out
  have g_lc := (E2 (p15, c) (by simp)).range_ H_lc.out
  simp only at g_la g_lb g_lc
  have hc1 := at_below (fun W (hW : Below wc.heap.size wc W) => hTbc W (hs2.below hW))
  have hc2 := at_below (fun W (hW : Below wc.heap.size wc W) => hTabc2 W (hs2.below hW))
  go_upto_region 11 with fail
  go_cut [18] (fun vp wx => ∃ p18, vp = .pointer (some ⟨p18, 0, none⟩) ∧ ES wx ((p18, abc) :: [(p17, abc), (p15, c), (p13, b), (p11, a)]) ∧ Sl wx 4 lvC A k ls ∧ Below w.heap.size w wx)
  case first =>
    have hle := Nat.le_refl wc.heap.size
    refine wp_region_held_drew (S := fun w' => w'.rangeAt p11 0 la ∧ w'.rangeAt p13 0 lb ∧ w'.rangeAt p15 0 lc) (by kernel_rfl) (keepR3 g_la g_lb g_lc (by repeat (first | assumption | exact Below.refl _ _ | refine bDrew ?_ | refine below_drewN ?_ _ | refine bAlloc ?_ _ | refine bSetC ?_ (by assumption) _))) (fun hHeld => ?_)
    refine hx_take 0 (some 92) _ rfl (by kernel_rfl) (by kernel_rfl) (by kernel_rfl) (fun _ _ _ h => h) rfl (Or.inl ⟨by rfl, fun w hSw => by first | (go_simp; done) | (go_simp; with_reducible rfl)⟩) (by assumption) ?_
    try simp only [Act.put, List.setIfInBounds_toArray, List.set_cons_zero, List.set_cons_succ]
    refine hx_take 1 (some 93) (.agg la.toArray) rfl (by kernel_rfl) (by kernel_rfl) (by kernel_rfl) (fun _ _ _ h => h) rfl (yieldsIf_load_mid (by rfl) _ _ rfl p11 0 rfl la _ (fun w hSw => hSw.1) Try.underlying33 rfl (by assumption)) (by assumption) ?_
    try simp only [Act.put, List.setIfInBounds_toArray, List.set_cons_zero, List.set_cons_succ]
    refine hx_take 2 (some 94) _ rfl (by kernel_rfl) (by kernel_rfl) (by kernel_rfl) (fun _ _ _ h => h) rfl (Or.inl ⟨by rfl, fun w hSw => by first | (go_simp; done) | (go_simp; with_reducible rfl)⟩) (by assumption) ?_
    try simp only [Act.put, List.setIfInBounds_toArray, List.set_cons_zero, List.set_cons_succ]
    refine hx_take 3 (some 95) (.agg lb.toArray) rfl (by kernel_rfl) (by kernel_rfl) (by kernel_rfl) (fun _ _ _ h => h) rfl (yieldsIf_load_mid (by rfl) _ _ rfl p13 0 rfl lb _ (fun w hSw => hSw.2.1) Try.underlying33 rfl (by assumption)) (by assumption) ?_
    try simp only [Act.put, List.setIfInBounds_toArray, List.set_cons_zero, List.set_cons_succ]
    refine hx_take 4 (some 96) (.agg lc.toArray) rfl (by kernel_rfl) (by kernel_rfl) (by kernel_rfl) (fun _ _ _ h => h) rfl (yieldsIf_load_mid (by rfl) _ _ rfl p15 0 rfl lc _ (fun w hSw => hSw.2.2) Try.underlying33 rfl (by assumption)) (by assumption) ?_
    try simp only [Act.put, List.setIfInBounds_toArray, List.set_cons_zero, List.set_cons_succ]
    refine hx2 5 7 (by kernel_rfl) ?_ ?_
    · refine hx_call 5 (some 97) _ _ _ _ rfl (by rfl) rfl (by go_simp) (hc1 (wc.drew) (by repeat (first | assumption | exact Below.refl _ _ | refine bDrew ?_ | refine below_drewN ?_ _ | refine bAlloc ?_ _ | refine bSetC ?_ (by assumption) _))) ?_
      rintro w9 ⟨bw9, Bw9⟩
      have Ew9 := (E2.drewN 1).below bw9
      have gw9 := Bw9.size
      refine ⟨by refine keepR3 g_la g_lb g_lc ?_; repeat (first | assumption | exact Below.refl _ _ | refine bDrew ?_ | refine below_drewN ?_ _ | refine bAlloc ?_ _ | refine bSetC ?_ (by assumption) _), ?_⟩
      try simp only [Act.put, List.setIfInBounds_toArray, List.set_cons_zero, List.set_cons_succ]
      refine hx2 6 7 (by kernel_rfl) ?_ ?_
      · refine hx_call 6 (some 98) _ _ _ _ rfl (by rfl) rfl (by go_simp) (hc2 (w9) (by repeat (first | assumption | exact Below.refl _ _ | refine bDrew ?_ | refine below_drewN ?_ _ | refine bAlloc ?_ _ | refine bSetC ?_ (by assumption) _))) ?_
        rintro w10 ⟨bw10, Bw10⟩
        have Ew10 := Ew9.below bw10
        have gw10 := Bw10.size
        refine ⟨by refine keepR3 g_la g_lb g_lc ?_; repeat (first | assumption | exact Below.refl _ _ | refine bDrew ?_ | refine below_drewN ?_ _ | refine bAlloc ?_ _ | refine bSetC ?_ (by assumption) _), ?_⟩
        try simp only [Act.put, List.setIfInBounds_toArray, List.set_cons_zero, List.set_cons_succ]
        refine hx1 7 (by kernel_rfl) ?_
        · refine hx_val 7 (some 18) (.pointer (some ⟨w10.heap.size, 0, none⟩)) ((w10).alloc (.cells (List.toArray (.bool false :: .bool false :: .int .i64 0 :: .int .i64 0 :: .bool false :: .bool false :: .int .i64 0 :: .int .i64 0 :: .bool false :: .bool false :: .int .i64 0 :: .int .i64 0 :: .bool false :: .bool false :: .int .i64 0 :: .int .i64 0 :: .bool false :: .bool false :: .int .i64 0 :: .int .i64 0 :: .bool false :: .bool false :: .int .i64 0 :: .int .i64 0 :: .bool false :: .bool false :: .int .i64 0 :: .int .i64 0 :: .bool false :: .bool false :: .int .i64 0 :: .int .i64 0 :: .bool false :: .bool false :: .int .i64 0 :: .int .i64 0 :: [])) 33)) rfl (by rfl) rfl (by rfl) (by refine keepR3 g_la g_lb g_lc ?_; repeat (first | assumption | exact Below.refl _ _ | refine bDrew ?_ | refine below_drewN ?_ _ | refine bAlloc ?_ _ | refine bSetC ?_ (by assumption) _)) ?_
          try simp only [Act.put, List.setIfInBounds_toArray, List.set_cons_zero, List.set_cons_succ]
          have NA : Blk ((w10).alloc (.cells (List.toArray (.bool false :: .bool false :: .int .i64 0 :: .int .i64 0 :: .bool false :: .bool false :: .int .i64 0 :: .int .i64 0 :: .bool false :: .bool false :: .int .i64 0 :: .int .i64 0 :: .bool false :: .bool false :: .int .i64 0 :: .int .i64 0 :: .bool false :: .bool false :: .int .i64 0 :: .int .i64 0 :: .bool false :: .bool false :: .int .i64 0 :: .int .i64 0 :: .bool false :: .bool false :: .int .i64 0 :: .int .i64 0 :: .bool false :: .bool false :: .int .i64 0 :: .int .i64 0 :: .bool false :: .bool false :: .int .i64 0 :: .int .i64 0 :: [])) 33)) (w10.heap.size) 33 (effA effZ) := Blk.new (w10) 33 (effA effZ)
          have EA := Ew10.below (bAlloc (Below.refl _ (w10)) (.cells (List.toArray (.bool false :: .bool false :: .int .i64 0 :: .int .i64 0 :: .bool false :: .bool false :: .int .i64 0 :: .int .i64 0 :: .bool false :: .bool false :: .int .i64 0 :: .int .i64 0 :: .bool false :: .bool false :: .int .i64 0 :: .int .i64 0 :: .bool false :: .bool false :: .int .i64 0 :: .int .i64 0 :: .bool false :: .bool false :: .int .i64 0 :: .int .i64 0 :: .bool false :: .bool false :: .int .i64 0 :: .int .i64 0 :: .bool false :: .bool false :: .int .i64 0 :: .int .i64 0 :: .bool false :: .bool false :: .int .i64 0 :: .int .i64 0 :: [])) 33))
          refine hx1 8 (by kernel_rfl) ?_
          · refine hx_store 8 33 (.tmp 18) (.tmp 98) (w10.heap.size) lw rfl (by rfl) rfl rfl rfl rfl (by rw [e_lw]; exact NA.there_) i_lw o_lw (by have hgg := gw10; refine keepR3 g_la g_lb g_lc ?_; repeat (first | assumption | exact Below.refl _ _ | refine bDrew ?_ | refine below_drewN ?_ _ | refine bAlloc ?_ _ | refine bSetC ?_ (by assumption) _)) ?_
            try simp only [Act.put, List.setIfInBounds_toArray, List.set_cons_zero, List.set_cons_succ]
            refine wpAnyH_done (by kernel_rfl) ?_ _
            have hgg : wc.heap.size ≤ w10.heap.size := gw10
            have hEF := EA.store (E2.ne hgg) NA H_lw.out
            have hBF : Below wc.heap.size wc (((w10).alloc (.cells (List.toArray (.bool false :: .bool false :: .int .i64 0 :: .int .i64 0 :: .bool false :: .bool false :: .int .i64 0 :: .int .i64 0 :: .bool false :: .bool false :: .int .i64 0 :: .int .i64 0 :: .bool false :: .bool false :: .int .i64 0 :: .int .i64 0 :: .bool false :: .bool false :: .int .i64 0 :: .int .i64 0 :: .bool false :: .bool false :: .int .i64 0 :: .int .i64 0 :: .bool false :: .bool false :: .int .i64 0 :: .int .i64 0 :: .bool false :: .bool false :: .int .i64 0 :: .int .i64 0 :: .bool false :: .bool false :: .int .i64 0 :: .int .i64 0 :: [])) 33)).setCells (w10.heap.size) 0 lw) := by repeat (first | assumption | exact Below.refl _ _ | refine bDrew ?_ | refine below_drewN ?_ _ | refine bAlloc ?_ _ | refine bSetC ?_ (by assumption) _)
            go_wp2_with fail
            go_meet
            case rel => exact ⟨_, rfl, hEF, hs2.below hBF, below_trans' hb2 hb2.size hBF⟩
      · refine hx_val 7 (some 18) (.pointer (some ⟨w9.heap.size, 0, none⟩)) ((w9).alloc (.cells (List.toArray (.bool false :: .bool false :: .int .i64 0 :: .int .i64 0 :: .bool false :: .bool false :: .int .i64 0 :: .int .i64 0 :: .bool false :: .bool false :: .int .i64 0 :: .int .i64 0 :: .bool false :: .bool false :: .int .i64 0 :: .int .i64 0 :: .bool false :: .bool false :: .int .i64 0 :: .int .i64 0 :: .bool false :: .bool false :: .int .i64 0 :: .int .i64 0 :: .bool false :: .bool false :: .int .i64 0 :: .int .i64 0 :: .bool false :: .bool false :: .int .i64 0 :: .int .i64 0 :: .bool false :: .bool false :: .int .i64 0 :: .int .i64 0 :: [])) 33)) rfl (by rfl) rfl (by rfl) (by refine keepR3 g_la g_lb g_lc ?_; repeat (first | assumption | exact Below.refl _ _ | refine bDrew ?_ | refine below_drewN ?_ _ | refine bAlloc ?_ _ | refine bSetC ?_ (by assumption) _)) ?_
        try simp only [Act.put, List.setIfInBounds_toArray, List.set_cons_zero, List.set_cons_succ]
        have NA : Blk ((w9).alloc (.cells (List.toArray (.bool false :: .bool false :: .int .i64 0 :: .int .i64 0 :: .bool false :: .bool false :: .int .i64 0 :: .int .i64 0 :: .bool false :: .bool false :: .int .i64 0 :: .int .i64 0 :: .bool false :: .bool false :: .int .i64 0 :: .int .i64 0 :: .bool false :: .bool false :: .int .i64 0 :: .int .i64 0 :: .bool false :: .bool false :: .int .i64 0 :: .int .i64 0 :: .bool false :: .bool false :: .int .i64 0 :: .int .i64 0 :: .bool false :: .bool false :: .int .i64 0 :: .int .i64 0 :: .bool false :: .bool false :: .int .i64 0 :: .int .i64 0 :: [])) 33)) (w9.heap.size) 33 (effA effZ) := Blk.new (w9) 33 (effA effZ)
        have EA := Ew9.below (bAlloc (Below.refl _ (w9)) (.cells (List.toArray (.bool false :: .bool false :: .int .i64 0 :: .int .i64 0 :: .bool false :: .bool false :: .int .i64 0 :: .int .i64 0 :: .bool false :: .bool false :: .int .i64 0 :: .int .i64 0 :: .bool false :: .bool false :: .int .i64 0 :: .int .i64 0 :: .bool false :: .bool false :: .int .i64 0 :: .int .i64 0 :: .bool false :: .bool false :: .int .i64 0 :: .int .i64 0 :: .bool false :: .bool false :: .int .i64 0 :: .int .i64 0 :: .bool false :: .bool false :: .int .i64 0 :: .int .i64 0 :: .bool false :: .bool false :: .int .i64 0 :: .int .i64 0 :: [])) 33))
        refine hx1 6 (by kernel_rfl) ?_
        · refine hx_call 6 (some 98) _ _ _ _ rfl (by rfl) rfl (by go_simp) (hc2 ((w9).alloc (.cells (List.toArray (.bool false :: .bool false :: .int .i64 0 :: .int .i64 0 :: .bool false :: .bool false :: .int .i64 0 :: .int .i64 0 :: .bool false :: .bool false :: .int .i64 0 :: .int .i64 0 :: .bool false :: .bool false :: .int .i64 0 :: .int .i64 0 :: .bool false :: .bool false :: .int .i64 0 :: .int .i64 0 :: .bool false :: .bool false :: .int .i64 0 :: .int .i64 0 :: .bool false :: .bool false :: .int .i64 0 :: .int .i64 0 :: .bool false :: .bool false :: .int .i64 0 :: .int .i64 0 :: .bool false :: .bool false :: .int .i64 0 :: .int .i64 0 :: [])) 33)) (by repeat (first | assumption | exact Below.refl _ _ | refine bDrew ?_ | refine below_drewN ?_ _ | refine bAlloc ?_ _ | refine bSetC ?_ (by assumption) _))) ?_
          rintro w10 ⟨bw10, Bw10⟩
          have Ew10 := EA.below bw10
          have gw10 := Bw10.size
          have Nw10 := NA.below bw10
          refine ⟨by refine keepR3 g_la g_lb g_lc ?_; repeat (first | assumption | exact Below.refl _ _ | refine bDrew ?_ | refine below_drewN ?_ _ | refine bAlloc ?_ _ | refine bSetC ?_ (by assumption) _), ?_⟩
          try simp only [Act.put, List.setIfInBounds_toArray, List.set_cons_zero, List.set_cons_succ]
          refine hx1 8 (by kernel_rfl) ?_
          · refine hx_store 8 33 (.tmp 18) (.tmp 98) (w9.heap.size) lw rfl (by rfl) rfl rfl rfl rfl (by rw [e_lw]; exact Nw10.there_) i_lw o_lw (by have hgg := gw9; refine keepR3 g_la g_lb g_lc ?_; repeat (first | assumption | exact Below.refl _ _ | refine bDrew ?_ | refine below_drewN ?_ _ | refine bAlloc ?_ _ | refine bSetC ?_ (by assumption) _)) ?_
            try simp only [Act.put, List.setIfInBounds_toArray, List.set_cons_zero, List.set_cons_succ]
            refine wpAnyH_done (by kernel_rfl) ?_ _
            have hgg : wc.heap.size ≤ w9.heap.size := gw9
            have hEF := Ew10.store (E2.ne hgg) Nw10 H_lw.out
            have hBF : Below wc.heap.size wc ((w10).setCells (w9.heap.size) 0 lw) := by repeat (first | assumption | exact Below.refl _ _ | refine bDrew ?_ | refine below_drewN ?_ _ | refine bAlloc ?_ _ | refine bSetC ?_ (by assumption) _)
            go_wp2_with fail
            go_meet
            case rel => exact ⟨_, rfl, hEF, hs2.below hBF, below_trans' hb2 hb2.size hBF⟩
    · refine hx_val 7 (some 18) (.pointer (some ⟨wc.heap.size, 0, none⟩)) ((wc.drew).alloc (.cells (List.toArray (.bool false :: .bool false :: .int .i64 0 :: .int .i64 0 :: .bool false :: .bool false :: .int .i64 0 :: .int .i64 0 :: .bool false :: .bool false :: .int .i64 0 :: .int .i64 0 :: .bool false :: .bool false :: .int .i64 0 :: .int .i64 0 :: .bool false :: .bool false :: .int .i64 0 :: .int .i64 0 :: .bool false :: .bool false :: .int .i64 0 :: .int .i64 0 :: .bool false :: .bool false :: .int .i64 0 :: .int .i64 0 :: .bool false :: .bool false :: .int .i64 0 :: .int .i64 0 :: .bool false :: .bool false :: .int .i64 0 :: .int .i64 0 :: [])) 33)) rfl (by rfl) rfl (by rfl) (by refine keepR3 g_la g_lb g_lc ?_; repeat (first | assumption | exact Below.refl _ _ | refine bDrew ?_ | refine below_drewN ?_ _ | refine bAlloc ?_ _ | refine bSetC ?_ (by assumption) _)) ?_
      try simp only [Act.put, List.setIfInBounds_toArray, List.set_cons_zero, List.set_cons_succ]
      have NA : Blk ((wc.drew).alloc (.cells (List.toArray (.bool false :: .bool false :: .int .i64 0 :: .int .i64 0 :: .bool false :: .bool false :: .int .i64 0 :: .int .i64 0 :: .bool false :: .bool false :: .int .i64 0 :: .int .i64 0 :: .bool false :: .bool false :: .int .i64 0 :: .int .i64 0 :: .bool false :: .bool false :: .int .i64 0 :: .int .i64 0 :: .bool false :: .bool false :: .int .i64 0 :: .int .i64 0 :: .bool false :: .bool false :: .int .i64 0 :: .int .i64 0 :: .bool false :: .bool false :: .int .i64 0 :: .int .i64 0 :: .bool false :: .bool false :: .int .i64 0 :: .int .i64 0 :: [])) 33)) (wc.heap.size) 33 (effA effZ) := Blk.new (wc.drew) 33 (effA effZ)
      have EA := (E2.drewN 1).below (bAlloc (Below.refl _ (wc.drew)) (.cells (List.toArray (.bool false :: .bool false :: .int .i64 0 :: .int .i64 0 :: .bool false :: .bool false :: .int .i64 0 :: .int .i64 0 :: .bool false :: .bool false :: .int .i64 0 :: .int .i64 0 :: .bool false :: .bool false :: .int .i64 0 :: .int .i64 0 :: .bool false :: .bool false :: .int .i64 0 :: .int .i64 0 :: .bool false :: .bool false :: .int .i64 0 :: .int .i64 0 :: .bool false :: .bool false :: .int .i64 0 :: .int .i64 0 :: .bool false :: .bool false :: .int .i64 0 :: .int .i64 0 :: .bool false :: .bool false :: .int .i64 0 :: .int .i64 0 :: [])) 33))
      refine hx1 5 (by kernel_rfl) ?_
      · refine hx_call 5 (some 97) _ _ _ _ rfl (by rfl) rfl (by go_simp) (hc1 ((wc.drew).alloc (.cells (List.toArray (.bool false :: .bool false :: .int .i64 0 :: .int .i64 0 :: .bool false :: .bool false :: .int .i64 0 :: .int .i64 0 :: .bool false :: .bool false :: .int .i64 0 :: .int .i64 0 :: .bool false :: .bool false :: .int .i64 0 :: .int .i64 0 :: .bool false :: .bool false :: .int .i64 0 :: .int .i64 0 :: .bool false :: .bool false :: .int .i64 0 :: .int .i64 0 :: .bool false :: .bool false :: .int .i64 0 :: .int .i64 0 :: .bool false :: .bool false :: .int .i64 0 :: .int .i64 0 :: .bool false :: .bool false :: .int .i64 0 :: .int .i64 0 :: [])) 33)) (by repeat (first | assumption | exact Below.refl _ _ | refine bDrew ?_ | refine below_drewN ?_ _ | refine bAlloc ?_ _ | refine bSetC ?_ (by assumption) _))) ?_
        rintro w9 ⟨bw9, Bw9⟩
        have Ew9 := EA.below bw9
        have gw9 := Bw9.size
        have Nw9 := NA.below bw9
        refine ⟨by refine keepR3 g_la g_lb g_lc ?_; repeat (first | assumption | exact Below.refl _ _ | refine bDrew ?_ | refine below_drewN ?_ _ | refine bAlloc ?_ _ | refine bSetC ?_ (by assumption) _), ?_⟩
        try simp only [Act.put, List.setIfInBounds_toArray, List.set_cons_zero, List.set_cons_succ]
        refine hx1 6 (by kernel_rfl) ?_
        · refine hx_call 6 (some 98) _ _ _ _ rfl (by rfl) rfl (by go_simp) (hc2 (w9) (by repeat (first | assumption | exact Below.refl _ _ | refine bDrew ?_ | refine below_drewN ?_ _ | refine bAlloc ?_ _ | refine bSetC ?_ (by assumption) _))) ?_
          rintro w10 ⟨bw10, Bw10⟩
          have Ew10 := Ew9.below bw10
          have gw10 := Bw10.size
          have Nw10 := Nw9.below bw10
          refine ⟨by refine keepR3 g_la g_lb g_lc ?_; repeat (first | assumption | exact Below.refl _ _ | refine bDrew ?_ | refine below_drewN ?_ _ | refine bAlloc ?_ _ | refine bSetC ?_ (by assumption) _), ?_⟩
          try simp only [Act.put, List.setIfInBounds_toArray, List.set_cons_zero, List.set_cons_succ]
          refine hx1 8 (by kernel_rfl) ?_
          · refine hx_store 8 33 (.tmp 18) (.tmp 98) (wc.heap.size) lw rfl (by rfl) rfl rfl rfl rfl (by rw [e_lw]; exact Nw10.there_) i_lw o_lw (by have hgg := hle; refine keepR3 g_la g_lb g_lc ?_; repeat (first | assumption | exact Below.refl _ _ | refine bDrew ?_ | refine below_drewN ?_ _ | refine bAlloc ?_ _ | refine bSetC ?_ (by assumption) _)) ?_
            try simp only [Act.put, List.setIfInBounds_toArray, List.set_cons_zero, List.set_cons_succ]
            refine wpAnyH_done (by kernel_rfl) ?_ _
            have hgg : wc.heap.size ≤ wc.heap.size := hle
            have hEF := Ew10.store (E2.ne hgg) Nw10 H_lw.out
            have hBF : Below wc.heap.size wc ((w10).setCells (wc.heap.size) 0 lw) := by repeat (first | assumption | exact Below.refl _ _ | refine bDrew ?_ | refine below_drewN ?_ _ | refine bAlloc ?_ _ | refine bSetC ?_ (by assumption) _)
            go_wp2_with fail
            go_meet
            case rel => exact ⟨_, rfl, hEF, hs2.below hBF, below_trans' hb2 hb2.size hBF⟩
  case rest =>
  obtain ⟨p18, rfl, E1, hs4, hb4⟩ := hcut
  clear E2 hs2 hb2 hc1 hc2 g_la g_lb g_lc
  go_upto_region 12 with fail
  go_cut [19] (fun vp wx => ∃ p19, vp = .pointer (some ⟨p19, 0, none⟩) ∧ ES wx ((p19, effZ) :: [(p18, abc), (p17, abc), (p15, c), (p13, b), (p11, a)]) ∧ Sl wx 4 lvC A k ls ∧ Below w.heap.size w wx)
  case first =>
    have N2 := Blk.new wc 33 (effA effZ)
    have hA2 := bAlloc (Below.refl _ wc) (.cells (effA effZ) 33)
    have hE := (E1.below hA2).row (E1.ne (Nat.le_refl _)) N2 effZ
    unfold Blk at N2
    go_wp2_with (refine wpList_store_row rfl 33 _ _ rfl wc.heap.size (effA effZ) rfl rfl 33 _ N2 (by kernel_rfl) rfl (effA_one _) ?_)
    go_meet
    case rel =>
      have hA3 := below_setRow hA2 (Nat.le_refl _) (effA effZ)
      exact ⟨_, rfl, hE, hs4.below hA3, below_trans' hb4 hb4.size hA3⟩
  case rest =>
  obtain ⟨p19, rfl, E2, hs2, hb2⟩ := hcut
  clear E1 hs4 hb4
  have g_la := (E2 (p11, a) (by simp)).range_ H_la.out
  have g_lz := (E2 (p19, effZ) (by simp)).range_ H_lz.out
  have g_l1 := (E2 (p17, abc) (by simp)).range_ H_lw.out
  have g_l2 := (E2 (p18, abc) (by simp)).range_ H_lw.out
  simp only at g_la g_lz g_l1 g_l2
  have hc1 := at_below (fun W (hW : Below wc.heap.size wc W) => hTza W (hs2.below hW))
  have hc2 := at_below (fun W (hW : Below wc.heap.size wc W) => hTaz W (hs2.below hW))
  go_upto_region 13 with fail
  refine wp_region_held_drew (S := fun w' => w'.rangeAt p17 0 lw ∧ w'.rangeAt p18 0 lw ∧ w'.rangeAt p11 0 la ∧ w'.rangeAt p19 0 lz) (by kernel_rfl) (keepR4 g_l1 g_l2 g_la g_lz (by repeat (first | assumption | exact Below.refl _ _ | refine bDrew ?_ | refine below_drewN ?_ _ | refine bAlloc ?_ _ | refine bSetC ?_ (by assumption) _))) (fun hHeld => ?_)
  refine hx_take 0 (some 100) (.agg lw.toArray) rfl (by kernel_rfl) (by kernel_rfl) (by kernel_rfl) (fun _ _ _ h => h) rfl (yieldsIf_load_mid (by rfl) _ _ rfl p17 0 rfl lw _ (fun w hSw => hSw.1) Try.underlying33 rfl (by assumption)) (by assumption) ?_
  try simp only [Act.put, List.setIfInBounds_toArray, List.set_cons_zero, List.set_cons_succ]
  refine hx_take 1 (some 101) (.agg lw.toArray) rfl (by kernel_rfl) (by kernel_rfl) (by kernel_rfl) (fun _ _ _ h => h) rfl (yieldsIf_load_mid (by rfl) _ _ rfl p18 0 rfl lw _ (fun w hSw => hSw.2.1) Try.underlying33 rfl (by assumption)) (by assumption) ?_
  try simp only [Act.put, List.setIfInBounds_toArray, List.set_cons_zero, List.set_cons_succ]
  refine hx_take 2 (some 102) _ rfl (by kernel_rfl) (by kernel_rfl) (by kernel_rfl) (fun _ _ _ h => h) rfl (Or.inl ⟨by rfl, fun w hSw => by first | (go_simp; done) | (go_simp; with_reducible rfl)⟩) (by assumption) ?_
  try simp only [Act.put, List.setIfInBounds_toArray, List.set_cons_zero, List.set_cons_succ]
  refine hx_take 3 (some 103) _ rfl (by kernel_rfl) (by kernel_rfl) (by kernel_rfl) (fun _ _ _ h => h) rfl (Or.inl ⟨by rfl, fun w hSw => by first | (go_simp; done) | (go_simp; with_reducible rfl)⟩) (by assumption) ?_
  try simp only [Act.put, List.setIfInBounds_toArray, List.set_cons_zero, List.set_cons_succ]
  refine hx_take 4 (some 104) _ rfl (by kernel_rfl) (by kernel_rfl) (by kernel_rfl) (fun _ _ _ h => h) rfl (Or.inl ⟨by rfl, fun w hSw => by first | (go_simp; done) | (go_simp; with_reducible rfl)⟩) (by assumption) ?_
  try simp only [Act.put, List.setIfInBounds_toArray, List.set_cons_zero, List.set_cons_succ]
  refine hx_take 5 (some 105) (.agg lz.toArray) rfl (by kernel_rfl) (by kernel_rfl) (by kernel_rfl) (fun _ _ _ h => h) rfl (yieldsIf_load_mid (by rfl) _ _ rfl p19 0 rfl lz _ (fun w hSw => hSw.2.2.2) Try.underlying33 rfl (by assumption)) (by assumption) ?_
  try simp only [Act.put, List.setIfInBounds_toArray, List.set_cons_zero, List.set_cons_succ]
  refine hx_take 6 (some 106) (.agg la.toArray) rfl (by kernel_rfl) (by kernel_rfl) (by kernel_rfl) (fun _ _ _ h => h) rfl (yieldsIf_load_mid (by rfl) _ _ rfl p11 0 rfl la _ (fun w hSw => hSw.2.2.1) Try.underlying33 rfl (by assumption)) (by assumption) ?_
  try simp only [Act.put, List.setIfInBounds_toArray, List.set_cons_zero, List.set_cons_succ]
  refine hx_take 8 (some 108) (.agg la.toArray) rfl (by kernel_rfl) (by kernel_rfl) (by kernel_rfl) (fun _ _ _ h => h) rfl (yieldsIf_load_mid (by rfl) _ _ rfl p11 0 rfl la _ (fun w hSw => hSw.2.2.1) Try.underlying33 rfl (by assumption)) (by assumption) ?_
  try simp only [Act.put, List.setIfInBounds_toArray, List.set_cons_zero, List.set_cons_succ]
  refine hx1 7 (by kernel_rfl) ?_
  refine hx_call 7 (some 107) _ _ _ _ rfl (by rfl) rfl (by go_simp) (hc1 wc.drew (by repeat (first | assumption | exact Below.refl _ _ | refine bDrew ?_ | refine below_drewN ?_ _ | refine bAlloc ?_ _ | refine bSetC ?_ (by assumption) _))) ?_
  rintro w9 ⟨bw9, Bw9⟩
  have Hw9 := keepR4 g_l1 g_l2 g_la g_lz Bw9
  refine ⟨Hw9, ?_⟩
  try simp only [Act.put, List.setIfInBounds_toArray, List.set_cons_zero, List.set_cons_succ]
  refine hx_take 9 (some 109) _ rfl (by kernel_rfl) (by kernel_rfl) (by kernel_rfl) (fun _ _ _ h => h) rfl (Or.inl ⟨by rfl, fun w hSw => by first | (go_simp; done) | (go_simp; with_reducible rfl)⟩) (by assumption) ?_
  try simp only [Act.put, List.setIfInBounds_toArray, List.set_cons_zero, List.set_cons_succ]
  refine hx_take 10 (some 110) _ rfl (by kernel_rfl) (by kernel_rfl) (by kernel_rfl) (fun _ _ _ h => h) rfl (Or.inl ⟨by rfl, fun w hSw => by first | (go_simp; done) | (go_simp; with_reducible rfl)⟩) (by assumption) ?_
  try simp only [Act.put, List.setIfInBounds_toArray, List.set_cons_zero, List.set_cons_succ]
  refine hx_take 11 (some 111) _ rfl (by kernel_rfl) (by kernel_rfl) (by kernel_rfl) (fun _ _ _ h => h) rfl (Or.inl ⟨by rfl, fun w hSw => by first | (go_simp; done) | (go_simp; with_reducible rfl)⟩) (by assumption) ?_
  try simp only [Act.put, List.setIfInBounds_toArray, List.set_cons_zero, List.set_cons_succ]
  refine hx_take 12 (some 112) _ rfl (by kernel_rfl) (by kernel_rfl) (by kernel_rfl) (fun _ _ _ h => h) rfl (Or.inl ⟨by rfl, fun w hSw => by first | (go_simp; done) | (go_simp; with_reducible rfl)⟩) (by assumption) ?_
  try simp only [Act.put, List.setIfInBounds_toArray, List.set_cons_zero, List.set_cons_succ]
  refine hx_take 13 (some 113) (.agg la.toArray) rfl (by kernel_rfl) (by kernel_rfl) (by kernel_rfl) (fun _ _ _ h => h) rfl (yieldsIf_load_mid (by rfl) _ _ rfl p11 0 rfl la _ (fun w hSw => hSw.2.2.1) Try.underlying33 rfl (by assumption)) (by assumption) ?_
  try simp only [Act.put, List.setIfInBounds_toArray, List.set_cons_zero, List.set_cons_succ]
  refine hx_take 14 (some 114) (.agg lz.toArray) rfl (by kernel_rfl) (by kernel_rfl) (by kernel_rfl) (fun _ _ _ h => h) rfl (yieldsIf_load_mid (by rfl) _ _ rfl p19 0 rfl lz _ (fun w hSw => hSw.2.2.2) Try.underlying33 rfl (by assumption)) (by assumption) ?_
  try simp only [Act.put, List.setIfInBounds_toArray, List.set_cons_zero, List.set_cons_succ]
  refine hx_take 16 (some 116) (.agg la.toArray) rfl (by kernel_rfl) (by kernel_rfl) (by kernel_rfl) (fun _ _ _ h => h) rfl (yieldsIf_load_mid (by rfl) _ _ rfl p11 0 rfl la _ (fun w hSw => hSw.2.2.1) Try.underlying33 rfl (by assumption)) (by assumption) ?_
  try simp only [Act.put, List.setIfInBounds_toArray, List.set_cons_zero, List.set_cons_succ]
  refine hx1 15 (by kernel_rfl) ?_
  refine hx_call 15 (some 115) _ _ _ _ rfl (by rfl) rfl (by go_simp) (hc2 w9 (by repeat (first | assumption | exact Below.refl _ _ | refine bDrew ?_ | refine below_drewN ?_ _ | refine bAlloc ?_ _ | refine bSetC ?_ (by assumption) _))) ?_
  rintro w10 ⟨bw10, Bw10⟩
  have Hw10 := keepR4 g_l1 g_l2 g_la g_lz Bw10
  refine ⟨Hw10, ?_⟩
  try simp only [Act.put, List.setIfInBounds_toArray, List.set_cons_zero, List.set_cons_succ]
  refine hx_take 17 (some 117) _ rfl (by kernel_rfl) (by kernel_rfl) (by kernel_rfl) (fun _ _ _ h => h) rfl (Or.inl ⟨by rfl, fun w hSw => by first | (go_simp; done) | (go_simp; with_reducible rfl)⟩) (by assumption) ?_
  try simp only [Act.put, List.setIfInBounds_toArray, List.set_cons_zero, List.set_cons_succ]
  refine hx_take 18 (some 118) _ rfl (by kernel_rfl) (by kernel_rfl) (by kernel_rfl) (fun _ _ _ h => h) rfl (Or.inl ⟨by rfl, fun w hSw => by first | (go_simp; done) | (go_simp; with_reducible rfl)⟩) (by assumption) ?_
  try simp only [Act.put, List.setIfInBounds_toArray, List.set_cons_zero, List.set_cons_succ]
  refine hx_take 19 (some 6) _ rfl (by kernel_rfl) (by kernel_rfl) (by kernel_rfl) (fun _ _ _ h => h) rfl (Or.inl ⟨by rfl, fun w hSw => by first | (go_simp; done) | (go_simp; with_reducible rfl)⟩) (by assumption) ?_
  try simp only [Act.put, List.setIfInBounds_toArray, List.set_cons_zero, List.set_cons_succ]
  refine wpAnyH_done (by kernel_rfl) ?_ _
  go_wp2_with fail
  go_ret
  exact ⟨rfl, below_trans' hb2 hb2.size Bw10⟩
end Go.Proofs.Ytjpbmeonkfkgdaa
