/- the law NumberingSeparate, walked. The law's items, opened. the law NumberingIncreases, plain. the law NumberingIncreases, walked. -/
import Derived.Test.YthbodpjkckminaaGreatDoorm26
import Derived.Test.YthbodpjkckminaaGreatDoorm22
import Derived.Test.YthbodpjkckminaaGreatDoorm23
import Derived.Lib.AppendZeros
namespace Go.Proofs.YthbodpjkckminaaGreatDoor
open Go.RowKit Go.Sort

theorem take_filter_succ {l : List Im} {i : Nat} (hi : i < l.length) : (l.take (i + 1)).filter ownQ = (l.take i).filter ownQ ++ (if ownQ (gIm l i) = true then [gIm l i] else []) := by
  have e : gIm l i = l[i] := by unfold gIm; rw [List.getD_eq_getElem?_getD, List.getElem?_eq_getElem hi]; rfl
  rw [List.take_succ_eq_append_getElem hi, List.filter_append, e]
  cases hq : ownQ l[i]
  · rw [List.filter_cons_of_neg (by rw [hq]; decide)]; simp
  · rw [List.filter_cons_of_pos hq]; simp
set_option maxHeartbeats 16000000 in
set_option maxRecDepth 100000 in
theorem sep_law (A : Option Addr) (n c : Nat) (l : List Im) (Aa : Option Addr) (na ca : Nat) (la : List Lv) (Ab : Option Addr) (nb cb : Nat) (lb : List Lv) (w : World) (hg : Gl w) (hl : Sl w 3 imC A n l) (hok : ∀ x, x ∈ l → ImOk x) (ha : Sl w 4 lvC Aa na la) (hbs : Sl w 4 lvC Ab nb lb) (hca : na ≤ ca) (hcb : nb ≤ cb) :
    Calls Tryz.prog 5 #[.slice A n c, .slice Aa na ca, .slice Ab nb cb] w (StPost w) := by
  have HP := Lib.hid (show ∀ e w', (e = .returned (.bool true) ∧ Below w.heap.size w w') → StPost w e w' from fun _ _ h => h)
  have cK := Lib.hid (fun W (hb : Below w.heap.size w W) => known_any W (hg.below hb))
  have cB := built_any A n c l Aa na ca Ab nb cb w hl hok
  have cB2 := Lib.hid (fun W AO nO cO (ol : List Im) (h : Sl W 3 imC AO nO ol) (ho : ∀ x, x ∈ ol → ImOk x) => built_any AO nO cO ol Aa na ca Ab nb cb W h ho)
  have HLS := Lib.hid (fun W gl (hb : Below w.heap.size w W) (h : Blk W gl 96 #[.int .i64 1, .slice Aa na ca, .int .i64 2, .slice Ab nb cb]) => bt_ls h (ha.below hb) (hbs.below hb) hca hcb)
  have HG := Lib.hid hg
  have HL := Lib.hid (fun W (hb : Below w.heap.size w W) => hl.below hb)
  have HLN := Lib.hid hl.len
  have HOK := Lib.hid hok
  have HSR := Lib.hid (sep_runs Aa na ca Ab nb cb [la, lb] l hok)
  unfold BtPost at cB cB2
  clear hg hl ha hbs hok
  go_enter Tryz.func5, Tryz.ntmps5
  go_upto_region 2 with (go_at_call 18; refine cB.mono ?_; rintro e w2 ⟨AI, cI, zs, gl, rfl, hM, hbl, hb2⟩; rw [show (docL AI (ysB l).length cI (some ⟨gl, 0, none⟩) 2 2).toArray = #[.slice AI (ysB l).length cI, .slice none 0 0, .int .i64 0, .int .i64 0, .slice none 0 0, .slice none 0 0, .slice none 0 0, .slice none 0 0, .slice (some ⟨gl, 0, none⟩) 2 2, .slice none 0 0, .slice none 0 0] from rfl])
  have hal := alloc1 w2 (.cells #[.slice AI (ysB l).length cI, .slice none 0 0, .int .i64 0, .int .i64 0, .slice none 0 0, .slice none 0 0, .slice none 0 0, .slice none 0 0, .slice (some ⟨gl, 0, none⟩) 2 2, .slice none 0 0, .slice none 0 0] 63)
  have N7 := Blk.new w2 63 #[.slice AI (ysB l).length cI, .slice none 0 0, .int .i64 0, .int .i64 0, .slice none 0 0, .slice none 0 0, .slice none 0 0, .slice none 0 0, .slice (some ⟨gl, 0, none⟩) 2 2, .slice none 0 0, .slice none 0 0]
  have hM := hM.below hal
  have hls := HLS.out w2 gl hb2 hbl
  have hls := hls.below hal
  have hb3 := below_trans' hb2 hb2.size hal
  clear hal hbl hb2 cB
  generalize w2.alloc (.cells #[.slice AI (ysB l).length cI, .slice none 0 0, .int .i64 0, .int .i64 0, .slice none 0 0, .slice none 0 0, .slice none 0 0, .slice none 0 0, .slice (some ⟨gl, 0, none⟩) 2 2, .slice none 0 0, .slice none 0 0] 63) = w1 at *
  generalize w2.heap.size = p7 at *
  have HC := Lib.hid (fun W (hb : Below w1.heap.size w1 W) => bt_check cI (hM.below hb) (hls.below hb))
  have HD := Lib.hid (fun W (hb : Below w1.heap.size w1 W) (hcl : ∀ k, k < 2 → clE ([la, lb].getD k []) = 0) => nall_any AI (ysB l).length cI (some ⟨gl, 0, none⟩) 2 2 zs (ysB l) (esT Aa na ca Ab nb cb) [la, lb] W (HG.out.below (below_trans' hb3 hb3.size hb)) (bt_dr (hM.below hb) (hls.below hb) hcl))
  have HK := Lib.hid (show ∀ W, Below w1.heap.size w1 W → Blk W p7 63 #[.slice AI (ysB l).length cI, .slice none 0 0, .int .i64 0, .int .i64 0, .slice none 0 0, .slice none 0 0, .slice none 0 0, .slice none 0 0, .slice (some ⟨gl, 0, none⟩) 2 2, .slice none 0 0, .slice none 0 0] from fun W hb => N7.below hb)
  have HB3 := Lib.hid hb3
  have cK1 := cK.out w1 hb3
  rw [show (docL AI (ysB l).length cI (some ⟨gl, 0, none⟩) 2 2).toArray = #[.slice AI (ysB l).length cI, .slice none 0 0, .int .i64 0, .int .i64 0, .slice none 0 0, .slice none 0 0, .slice none 0 0, .slice none 0 0, .slice (some ⟨gl, 0, none⟩) 2 2, .slice none 0 0, .slice none 0 0] from rfl] at HC HD
  clear hM hls N7 hb3
  generalize (ysB l).length = mi at *
  have HD2 := Lib.hid (fun W (AJ : Option Addr) (cJ gm : Nat) (zt : List It) (B : Nat) (hb : Below w1.heap.size w1 W) (hM : Mk_ W B AJ (ysB (ownL l)).length cJ zt (ysB (ownL l))) (hlt : LsT W (some ⟨gm, 0, none⟩) 2 (esT Aa na ca Ab nb cb) [la, lb]) (hcl : ∀ k, k < 2 → clE ([la, lb].getD k []) = 0) => nall_any AJ (ysB (ownL l)).length cJ (some ⟨gm, 0, none⟩) 2 2 zt (ysB (ownL l)) (esT Aa na ca Ab nb cb) [la, lb] W (HG.out.below (below_trans' HB3.out HB3.out.size hb)) (bt_dr hM hlt hcl))
  unfold EnPost at HD HD2
  generalize (runL (esT Aa na ca Ab nb cb) [la, lb] (ysB l) (pmL (ysB l) mi)).es = E1 at *
  generalize (runL (esT Aa na ca Ab nb cb) [la, lb] (ysB (ownL l)) (pmL (ysB (ownL l)) (ysB (ownL l)).length)).es = E2 at *
  by_cases h9 : 9 < na
  · have h9' : (9 : Int) < na := by omega
    go_upto_region 3 with (go_at_call 8; refine cK1.mono ?_; rintro e w2 ⟨rfl, hb2⟩)
    have hb2 := below_trans' HB3.out HB3.out.size hb2
    have cK2 := cK.out w2 hb2
    go_wp2_with (go_at_call 8; refine cK2.mono ?_; rintro e w3 ⟨rfl, hb3⟩)
    go_ret
    exact HP.out _ _ ⟨rfl, below_trans' hb2 hb2.size hb3⟩
  have h9' : ¬ (9 : Int) < na := by omega
  by_cases h10 : 9 < nb
  · have h10' : (9 : Int) < nb := by omega
    go_upto_region 3 with (go_at_call 8; refine cK1.mono ?_; rintro e w2 ⟨rfl, hb2⟩)
    have hb2 := below_trans' HB3.out HB3.out.size hb2
    have cK2 := cK.out w2 hb2
    go_wp2_with (go_at_call 8; refine cK2.mono ?_; rintro e w3 ⟨rfl, hb3⟩)
    go_ret
    exact HP.out _ _ ⟨rfl, below_trans' hb2 hb2.size hb3⟩
  have h10' : ¬ (9 : Int) < nb := by omega
  clear h9 h10
  go_upto_region 3 with (go_at_call 8; refine cK1.mono ?_; rintro e w2 ⟨rfl, hw⟩; have B7 := HK.out w2 hw; have q0 := B7.cell 0 rfl; have q1 := B7.cell 1 rfl; have q2 := B7.cell 2 rfl; have q3 := B7.cell 3 rfl; have q4 := B7.cell 4 rfl; have q5 := B7.cell 5 rfl; have q6 := B7.cell 6 rfl; have q7 := B7.cell 7 rfl; have q8 := B7.cell 8 rfl; have q9 := B7.cell 9 rfl; have q10 := B7.cell 10 rfl)
  go_at_call 19
  refine (HC.out w2 hw).mono ?_
  rintro e w3 ⟨r, rfl, hq, h3⟩
  have hw3 := below_trans' hw hw.size h3
  have hb := below_trans' HB3.out HB3.out.size hw3
  have HQ := Lib.hid hq
  clear q0 q1 q2 q3 q4 q5 q6 q7 q8 q9 q10 B7 h3 hw hq
  by_cases hr : r = 0
  rotate_left
  · have hrb : (r == 0) = false := beq_eq_false_iff_ne.2 hr
    have hrn : (r != 0) = true := bne_iff_ne.2 hr
    clear HC HD HD2 HK cB2 HLS HSR HL HOK
    simp only []
    go_at_K
    go_upto_region 3 with fail
    go_wp2_with (go_at_call 8; refine (cK.out _ hb).mono ?_; rintro e w9 ⟨rfl, hb9⟩)
    go_ret
    exact HP.out _ _ ⟨rfl, below_trans' hb hb.size hb9⟩
    all_goals (exfalso; rename_i hx _ _; have hy := hx.2; rw [hrn] at hy; cases hy)
  have hcl := HQ.out hr
  have HCL := Lib.hid hcl
  subst hr
  simp only []
  go_at_K
  go_upto_region 4 with fail
  clear hcl HC HQ cK1
  go_wp2_with fail
  go_loopw [8, 9] (fun vo vi wr => ∃ (i : Nat) (AO : Option Addr) (nO cO : Nat) (ol : List Im), vo = .slice AO nO cO ∧ vi = .int .i64 i ∧ i ≤ n ∧ i ≤ 40 ∧ ol = (l.take i).filter ownQ ∧ Own wr w1.heap.size 67 3 imC AO nO cO ol ∧ Below w1.heap.size w1 wr) (fun _ vi _ => n - (intOf vi).toNat)
  case atStart => exact ⟨0, none, 0, 0, [], rfl, rfl, Nat.zero_le _, Nat.zero_le _, rfl, Own.nil_ _ _ _ _ _, hw3⟩
  case round =>
    obtain ⟨i, AO, nO, cO, ol, rfl, rfl, hi, hi40, hol, ho, hbr⟩ := hrel
    clear hb hw3
    have hbw := below_trans' HB3.out HB3.out.size hbr
    have hno := ho.len
    by_cases hlt : i < n ∧ i < 40
    · obtain ⟨hlt, hlt40⟩ := hlt
      obtain ⟨ad, eA, hadl, k0, k1, k2⟩ := (HL.out wr hbw).im hlt
      subst eA
      have hle : nO ≤ 40 := by rw [← hno, hol]; exact Nat.le_trans (List.length_filter_le ..) (by rw [List.length_take]; omega)
      have hox := gIm_ok HOK.out (l := l) (k := i) (by rw [HLN.out]; exact hlt)
      have hts := take_filter_succ (l := l) (i := i) (by rw [HLN.out]; exact hlt)
      rw [← hol] at hts
      have hlt' : (i : Int) < n := by omega
      have hlt4' : (i : Int) < 40 := by omega
      obtain ⟨x, hx⟩ : ∃ x, x = gIm l i := ⟨_, rfl⟩
      rw [← hx] at k0 k1 k2 hox hts
      clear hx hol
      have hqd : ownQ x = !(x.li % 3 == 1) := rfl
      have h3 : x.li.tmod 3 = x.li % 3 := Int.tmod_eq_emod_of_nonneg hox.li.1
      obtain ⟨xl, xv, xr⟩ := x
      have hx0 := hox.li.1
      simp only at k0 k1 k2 h3 hqd hx0
      by_cases hq : xl % 3 = 1
      · have hqn : (xl % 3 != 1) = false := by rw [hq]; rfl
        have hqq : ownQ ⟨xl, xv, xr⟩ = false := by rw [hqd, hq]; rfl
        rw [hqq] at hts
        simp only [Bool.false_eq_true, if_false, List.append_nil] at hts
        go_wp2_with fail
        go_roundw
        case rel => exact ⟨i + 1, AO, nO, cO, ol, rfl, by simp, hlt, hlt40, hts.symm, ho, hbr⟩
        case measure => rw [intOf, intOf]; omega
      · have hqn : (xl % 3 != 1) = true := bne_iff_ne.2 hq
        have hqq : ownQ ⟨xl, xv, xr⟩ = true := by rw [hqd, beq_eq_false_iff_ne.2 hq]; rfl
        rw [hqq] at hts
        simp only [if_true] at hts
        have HF := Lib.hid (show ∀ A3 c3 w5, Own w5 w1.heap.size 67 3 imC A3 (nO + 1) c3 (ol ++ [⟨xl, xv, xr⟩]) → (wr.alloc (.cells (imC ⟨xl, xv, xr⟩).toArray 67)).grownBy w5 (blk AO) → Below w1.heap.size w1 w5 from fun A3 c3 w5 ho3 hg3 => (below_trans' hbr hbr.size (alloc1 wr (.cells (imC ⟨xl, xv, xr⟩).toArray 67))).grown hg3 (below_trans' hbr hbr.size (alloc1 wr (.cells (imC ⟨xl, xv, xr⟩).toArray 67))).size (fun k e => (ho.lt k e).1))
        go_wp2_with (at_builtin; refine wpList_push elemIm rfl (.tmp 53) (.tmp 58) rfl rfl _ rfl (ho.alloc _) ⟨xl, xv, xr⟩ _ rfl rfl (imC_one _) rfl ⟨by omega, by unfold maxLen; omega⟩ (Nat.le_trans hbr.size (by simp)) ?_; intro A3 c3 w5 ho3 hg3 ha3)
        go_roundw
        case rel => exact ⟨i + 1, A3, nO + 1, c3, ol ++ [⟨xl, xv, xr⟩], rfl, by simp, hlt, hlt40, hts.symm, ho3, HF.out A3 c3 w5 ho3 hg3⟩
        case measure => rw [intOf, intOf]; omega
    · have hoL : ol = ownL l := by
        rw [hol]
        unfold ownL
        rcases (show i = 40 ∨ (i = n ∧ n ≤ 40) by omega) with rfl | ⟨rfl, h⟩
        · rfl
        · rw [List.take_of_length_le (by rw [HLN.out]; exact Nat.le_refl _), List.take_of_length_le (by rw [HLN.out]; exact h)]
      have hoo : ∀ x, x ∈ ol → ImOk x := fun x hx => by rw [hoL] at hx; exact HOK.out x (List.mem_of_mem_take (List.mem_filter.1 hx).1)
      clear hol
      subst hoL
      have HOO := Lib.hid hoo
      have B7 := HK.out wr hbr
      have q0 := B7.cell 0 rfl
      have q1 := B7.cell 1 rfl
      have q2 := B7.cell 2 rfl
      have q3 := B7.cell 3 rfl
      have q4 := B7.cell 4 rfl
      have q5 := B7.cell 5 rfl
      have q6 := B7.cell 6 rfl
      have q7 := B7.cell 7 rfl
      have q8 := B7.cell 8 rfl
      have q9 := B7.cell 9 rfl
      have q10 := B7.cell 10 rfl
      have cA := HD.out wr hbr HCL.out
      clear hoo B7 HD HK
      have h2c : ((i : Int) < n ∧ ¬ (i : Int) < 40) ∨ ¬ (i : Int) < n := by omega
      clear hlt
      rcases h2c with ⟨h1c, h2c⟩ | h2c
      all_goals
        go_wp2_with (go_at_call 20; refine cA.mono ?_; rintro e w5 ⟨A1, c1, rfl, o1, hb5⟩)
        have hb5' := below_trans' hbr hbr.size hb5
        have cB2 := cB2.out w5 AO nO cO (ownL l) ((ho.below hb5).sl imC_len) HOO.out
        clear q0 q1 q2 q3 q4 q5 q6 q7 q8 q9 q10 cA ho hbr hb5 hbw
        go_wp2_with (go_at_call 18; refine cB2.mono ?_; rintro e w6 ⟨AJ, cJ, zt, gm, rfl, hM2, hbl2, hb6⟩)
        have hb6' := below_trans' hb5' hb5'.size hb6
        have o1 := o1.below hb6
        have cA2 := HD2.out w6 AJ cJ gm zt w5.heap.size hb6' hM2 (HLS.out w6 gm (below_trans' HB3.out HB3.out.size hb6') hbl2) HCL.out
        clear cB2 hM2 hbl2 hb6 hb5' HD2 HLS
        go_wp2_with (go_at_call 20; refine cA2.mono ?_; rintro e w7 ⟨A2, c2, rfl, o2, hb7⟩)
        have hw7 := below_trans' HB3.out HB3.out.size (below_trans' hb6' hb6'.size hb7)
        have S1 := (o1.below hb7).sl enC_len
        have S2 := o2.sl enC_len
        have hcp1 := o1.cap
        have hcp2 := o2.cap
        unfold maxLen at hcp1 hcp2
        clear cA2 o1 o2 hb6' hb7
        go_wp2_with fail
        go_loopw [12, 13] (fun vk vi wr => ∃ i : Nat, vk = .int .i64 (cnOne E1 i : Nat) ∧ vi = .int .i64 i ∧ i ≤ E1.length ∧ Below w7.heap.size w7 wr) (fun _ vi _ => E1.length - (intOf vi).toNat)
        case atStart => exact ⟨0, rfl, rfl, Nat.zero_le _, Below.refl _ _⟩
        case round =>
          obtain ⟨j, rfl, rfl, hj, hb8⟩ := hrel
          by_cases hlt : j < E1.length
          · obtain ⟨ad, eA, hl, f0, f1, f2, f3, f4, f5⟩ := (S1.below hb8).en hlt
            subst eA
            have hcs := cnOne_succ hlt
            have hlt' : (j : Int) < E1.length := by omega
            by_cases h1 : (gEn E1 j).list = 1
            · obtain ⟨hk, hke⟩ := sep_at HSR.out hlt h1
              obtain ⟨ad2, eA2, hl2, g0, g1, g2, g3, g4, g5⟩ := (S2.below hb8).en hk
              subst eA2
              rw [show (gEn E2 (cnOne E1 j)).level = (gEn E1 j).level from congrArg (fun e => e.2.1) hke] at g3
              rw [show (gEn E2 (cnOne E1 j)).num = (gEn E1 j).num from congrArg (fun e => e.2.2.1) hke] at g4
              rw [show (gEn E2 (cnOne E1 j)).lab = (gEn E1 j).lab from congrArg (fun e => e.2.2.2) hke] at g5
              rw [if_pos h1] at hcs
              rw [h1] at f2
              have HCS := Lib.hid hcs
              clear hcs hke h1
              generalize cnOne E1 j = k at *
              generalize (gEn E1 j).level = lv at *
              generalize (gEn E1 j).num = nu at *
              generalize (gEn E1 j).lab = lb at *
              have hk' : (k : Int) < E2.length := by omega
              have hkc : decide ((E2.length : Int) ≤ (k : Int)) = false := decide_eq_false (by omega)
              have b1 : (lb != lb) = false := bne_self_b lb
              have b2 : (nu != nu) = false := bne_self_eq_false _
              have b3 : (lv != lv) = false := bne_self_eq_false _
              go_upto_region 16 with fail
              go_quiet (fail)
              have hb9 := below_trans' hb8 hb8.size (below_drewN (Below.refl wr.heap.size wr) nq)
              clear f0 f1 f2 f3 f4 f5 g0 g1 g2 g3 g4 g5 hb8
              go_wp2_with fail
              go_roundw
              case rel => exact ⟨j + 1, by rw [HCS.out]; rfl, by first | rfl | simp, hlt, hb9⟩
              case measure => rw [intOf, intOf]; omega
            · have hne : ((gEn E1 j).list != 1) = true := bne_iff_ne.2 h1
              rw [if_neg h1] at hcs
              have HCS := Lib.hid hcs
              clear hcs h1 f0 f1 f3 f4 f5
              generalize (gEn E1 j).list = li at *
              go_wp2_with fail
              go_roundw
              case rel => exact ⟨j + 1, by rw [HCS.out]; rfl, by first | rfl | simp, hlt, hb8⟩
              case measure => rw [intOf, intOf]; omega
          · have hj2 : j = E1.length := by omega
            have hke := sep_end HSR.out
            rw [← hj2] at hke
            rw [hke]
            have hjn : ¬ (j : Int) < E1.length := by omega
            have hb9 := below_trans' hw7 hw7.size hb8
            clear hke hj2 hlt
            have be : ((E2.length : Int) == (E2.length : Int)) = true := beq_self_eq_true _
            go_wp2_with fail
            go_ret
            exact HP.out _ _ ⟨rfl, hb9⟩
end Go.Proofs.YthbodpjkckminaaGreatDoor

namespace Go.Proofs.YthbodpjkckminaaGreatDoor
open Go.ChangeShapes Go.WideShapes Go.ChangeAt Go.RowKit Go.Deep

section
variable {H : Type} {enc : TypeId × Value → H}
theorem wf_u8I {n : Int} (h : (Lit.int .u8 n).wf = true) : okU n := by
  unfold okU
  simpa [Lit.wf, IntKind.min, IntKind.max, IntKind.signed, IntKind.bits] using h
set_option maxRecDepth 100000 in
theorem opens_im (w : World) : Opens enc Tryz.prog w 67 imC ImOk := fun fuel cs x h => by
  obtain ⟨xs, n, _, _, hcl, hxl, hf⟩ := DataW.trod_struct Tryz.underlying67 h
  have hc2 : cs.length = 3 := hcl
  have f0 := hf 0 _ rfl
  have f1 := hf 1 _ rfl
  have f2 := hf 2 _ rfl
  match cs, hc2 with
  | [a, b, c], _ =>
    match xs, hxl with
    | [y0, y1, y2], _ =>
      obtain ⟨n0, e0, _, w0⟩ := DataW.trod_int Tryz.underlying5 (show DataW.trod enc Tryz.prog w 0 (fun _ => true) true n 5 [a] = some y0 from f0)
      obtain ⟨n1, e1, _, w1⟩ := DataW.trod_int Tryz.underlying5 (show DataW.trod enc Tryz.prog w 0 (fun _ => true) true n 5 [b] = some y1 from f1)
      obtain ⟨n2, e2, _, w2⟩ := DataW.trod_int Tryz.underlying5 (show DataW.trod enc Tryz.prog w 0 (fun _ => true) true n 5 [c] = some y2 from f2)
      simp only [List.cons.injEq, and_true] at e0 e1 e2
      subst e0; subst e1; subst e2
      exact ⟨⟨n0, n1, n2⟩, rfl, wf_u8I w0, wf_u8I w1, wf_u8I w2⟩
end
end Go.Proofs.YthbodpjkckminaaGreatDoor

namespace Go.Proofs.YthbodpjkckminaaGreatDoor
open Go.RowKit

def z0 (x : Im) : Im := ⟨0, x.lv, x.re⟩
def zL (xs : List Im) (i : Nat) : List Im := (xs.take i).map z0 ++ xs.drop i
theorem zL_zero (xs : List Im) : zL xs 0 = xs := rfl
theorem zL_all (xs : List Im) {i : Nat} (h : xs.length ≤ i) : zL xs i = xs.map z0 := by
  unfold zL
  rw [List.take_of_length_le h, List.drop_of_length_le h, List.append_nil]
theorem gIm_at {xs : List Im} {i : Nat} (h : i < xs.length) : gIm xs i = xs[i] := by unfold gIm; rw [List.getD_eq_getElem?_getD, List.getElem?_eq_getElem h]; rfl
theorem zL_at {xs : List Im} {i : Nat} (h : i < xs.length) : (zL xs i)[i]? = some (gIm xs i) := by
  unfold zL
  rw [List.getElem?_append_right (by rw [List.length_map, List.length_take]; omega), List.length_map, List.length_take, show i - min i xs.length = 0 by omega, List.drop_eq_getElem_cons h, gIm_at h]
  rfl
theorem zL_succ {xs : List Im} {i : Nat} (h : i < xs.length) : (zL xs i).set i (z0 (gIm xs i)) = zL xs (i + 1) := by
  unfold zL
  rw [List.set_append_right _ _ (by rw [List.length_map, List.length_take]; omega), List.length_map, List.length_take, show i - min i xs.length = 0 by omega, List.drop_eq_getElem_cons h, List.set_cons_zero, List.take_succ_eq_append_getElem h, List.map_append, gIm_at h, List.append_assoc]
  rfl
theorem z0_ok {x : Im} (h : ImOk x) : ImOk (z0 x) := ⟨⟨show (0 : Int) ≤ 0 by decide, show (0 : Int) ≤ 255 by decide⟩, h.lv, h.re⟩
theorem z0_id (x : Im) : idI (z0 x) = 1 := rfl
theorem z0_li (x : Im) : liB (z0 x) = true := rfl
/-- the list of the law: one list alone. -/
def oneL (l : List Im) : List Im := (l.take 40).map z0
theorem oneL_len (l : List Im) : (oneL l).length = min 40 l.length := by unfold oneL; rw [List.length_map, List.length_take]
theorem oneL_ok {l : List Im} (h : ∀ x, x ∈ l → ImOk x) : ∀ x, x ∈ oneL l → ImOk x := fun x hx => by
  unfold oneL at hx
  obtain ⟨y, hy, rfl⟩ := List.mem_map.1 hx
  exact z0_ok (h y (List.mem_of_mem_take hy))
theorem oneL_at {l : List Im} {k : Nat} (h : k < (oneL l).length) : ∃ y, gIm (oneL l) k = z0 y := by
  have h2 := oneL_len l
  refine ⟨gIm l k, ?_⟩
  unfold gIm oneL
  rw [List.getD_eq_getElem?_getD, List.getElem?_map, List.getElem?_take_of_lt (by omega), List.getElem?_eq_getElem (by omega), List.getD_eq_getElem?_getD, List.getElem?_eq_getElem (by omega)]
  rfl
theorem ysOne_len (l : List Im) : (ysB (oneL l)).length = (oneL l).length := by
  have h1 := ysB_len (oneL l)
  have h2 := oneL_len l
  omega
section
variable {Aa : Option Addr} {na ca : Nat} {la : List Lv} {l : List Im}
def lvO (Aa : Option Addr) (na ca : Nat) (l : List Im) (k : Nat) : Int := of2 (esT Aa na ca Aa na ca) (gFi (ysB (oneL l)) k).ps
def nuO (Aa : Option Addr) (na ca : Nat) (la : List Lv) (l : List Im) (k : Nat) : Int := (stI (esT Aa na ca Aa na ca) [la, la] (ysB (oneL l)) (k + 1) (lvO Aa na ca l k - 1).toNat).1
theorem one_id {k : Nat} (h : k < (ysB (oneL l)).length) : of1 (esT Aa na ca Aa na ca) (gFi (ysB (oneL l)) k).ps = 1 := by
  rw [ysB_at _ h]
  obtain ⟨y, e⟩ := oneL_at (l := l) (k := k) (by rw [← ysOne_len]; exact h)
  rw [e, show (imF (z0 y)).ps = imP (z0 y) from rfl, of1T, z0_id]
theorem one_lv (h1 : 1 ≤ na) {k : Nat} (h : k < (ysB (oneL l)).length) : 1 ≤ lvO Aa na ca l k ∧ lvO Aa na ca l k ≤ na := by
  unfold lvO
  rw [ysB_at _ h]
  obtain ⟨y, e⟩ := oneL_at (l := l) (k := k) (by rw [← ysOne_len]; exact h)
  rw [e, show (imF (z0 y)).ps = imP (z0 y) from rfl, of2T _ _ _ _ _ _ _ (z0_li y), z0_id]
  have : (lsF (esT Aa na ca Aa na ca) 1).n = na := rfl
  rw [this]
  omega
theorem one_re {k : Nat} (h : k < (ysB (oneL l)).length) : of3 (esT Aa na ca Aa na ca) (gFi (ysB (oneL l)) k).ps (gFi (ysB (oneL l)) k).ps = if reB (gIm (oneL l) k) = true then (gIm (oneL l) k).re % 8 else 0 := by
  rw [ysB_at _ h]
  obtain ⟨y, e⟩ := oneL_at (l := l) (k := k) (by rw [← ysOne_len]; exact h)
  rw [e, show (imF (z0 y)).ps = imP (z0 y) from rfl, of3T _ _ _ _ _ _ _ (z0_li y)]
theorem one_E : ∃ E : List En, (runL (esT Aa na ca Aa na ca) [la, la] (ysB (oneL l)) (pmL (ysB (oneL l)) (ysB (oneL l)).length)).es = E ∧ E.length = (oneL l).length ∧ ∀ k, k < E.length → (gEn E k).level = lvO Aa na ca l k ∧ (gEn E k).num = nuO Aa na ca la l k := by
  refine ⟨_, rfl, ?_, ?_⟩
  all_goals
    have h := runL_out (es := esT Aa na ca Aa na ca) (vs := [la, la]) (ysB_kind (oneL l))
    obtain ⟨a, b⟩ := outL_one (esT Aa na ca Aa na ca) [la, la] (ysB (oneL l)) (fun k hk => one_id hk) (ysB (oneL l)) 0 (fun _ => cnZ) rfl rfl
    rw [← h, List.length_map] at a
  · rw [a, ysOne_len]
  · intro k hk
    obtain ⟨bb, e⟩ := b k (by rw [← a]; exact hk)
    rw [← h, Nat.zero_add] at e
    have e1 : ((runL (esT Aa na ca Aa na ca) [la, la] (ysB (oneL l)) (pmL (ysB (oneL l)) (ysB (oneL l)).length)).es.map En.k).getD k (0, 0, 0, ⟨#[]⟩) = (gEn (runL (esT Aa na ca Aa na ca) [la, la] (ysB (oneL l)) (pmL (ysB (oneL l)) (ysB (oneL l)).length)).es k).k := by
      rw [gEn_at hk, List.getD_eq_getElem?_getD, List.getElem?_map, List.getElem?_eq_getElem hk]; rfl
    rw [e1] at e
    exact ⟨congrArg (fun e => e.2.1) e, congrArg (fun e => e.2.2.1) e⟩
theorem one_inc (h1 : 1 ≤ na) {i k : Nat} (hik : i < k) (hk : k < (ysB (oneL l)).length) (hm : ∀ j, i < j → j < k → lvO Aa na ca l i < lvO Aa na ca l j) (he : lvO Aa na ca l k = lvO Aa na ca l i) (hr : reB (gIm (oneL l) k) = false) :
    nuO Aa na ca la l k = nuO Aa na ca la l i + 1 :=
  inc_num (esT Aa na ca Aa na ca) [la, la] (ysB (oneL l)) i k hik hm (one_lv h1 (by omega)).1 he (by rw [one_re hk, hr]; rfl)
theorem one_ok (hl : la.length = na) (hc : clE la = 0) : ∀ j, j ≤ (ysB (oneL l)).length → CnOk (32767 + (j : Int)) (stI (esT Aa na ca Aa na ca) [la, la] (ysB (oneL l)) j)
  | 0, _ => cnZ_ok (by omega)
  | j + 1, hj => by
    have ih := one_ok hl hc j (by omega)
    have hlv := one_lv (Aa := Aa) (na := na) (ca := ca) (l := l) (by have := clE_len hc; omega) (show j < (ysB (oneL l)).length by omega)
    unfold lvO at hlv
    have hre := one_re (Aa := Aa) (na := na) (ca := ca) (l := l) (show j < (ysB (oneL l)).length by omega)
    rw [stI]
    have := next_ok (n := na) (L := (of2 (esT Aa na ca Aa na ca) (gFi (ysB (oneL l)) j).ps - 1).toNat) (r := of3 (esT Aa na ca Aa na ca) (gFi (ysB (oneL l)) j).ps (gFi (ysB (oneL l)) j).ps) (lvok_of hl hc) (by omega) (by rw [hre]; split <;> omega) (by rw [hre]; split <;> omega) (show (32767 : Int) ≤ 32767 + (j : Int) by omega) ih
    rw [show 32767 + ((j + 1 : Nat) : Int) = 32767 + (j : Int) + 1 by omega]
    exact this
theorem one_num (hl : la.length = na) (hc : clE la = 0) {k : Nat} (hk : k < (ysB (oneL l)).length) : 0 ≤ nuO Aa na ca la l k ∧ nuO Aa na ca la l k ≤ 40000 := by
  have := one_ok (Aa := Aa) (ca := ca) (l := l) hl hc (k + 1) (by omega) (lvO Aa na ca l k - 1).toNat
  have h2 := ysB_len (oneL l)
  unfold nuO
  omega
end
end Go.Proofs.YthbodpjkckminaaGreatDoor

namespace Go.Proofs.YthbodpjkckminaaGreatDoor
open Go.RowKit Go.Sort

section
variable {α : Type} {w : World} {s : Nat} {enc : α → List Value} {A : Option Addr} {n c : Nat} {xs : List α} {B : Nat} {e : TypeId} {P : Program} {t : TypeId} {b : Nat}
/-- append(s, x...): x reads, or is nil. -/
theorem wpList_pushAny2 (T : Elem P t e s b) (henc : ∀ x : α, (enc x).length = s) (hone : ∀ x : α, ∀ u ∈ enc x, u.oneCell' = true) {ops : Array Oper} {rest : List Oper} {o : Oper} {a : Act} {Q : Exit → Act → World → Prop} (hgd : o.guard = none) (sx ox : Operand)
    (ho : o.op = .call { callee := .builtin .append, args := #[sx, ox], argTypes := #[t, t] })
    (hs : a.eval sx = .slice A n c) (A2 : Option Addr) (m cm : Nat) (hx : a.eval ox = .slice A2 m cm) (hc0 : A2 = none → cm = 0) (hown : Own w B e s enc A n c xs) (ys : List α) (hy : Sl w s enc A2 m ys)
    (hn : (n + m) * b ≤ 140737488355328 ∧ n + m ≤ maxLen) (hB : B ≤ w.heap.size)
    (h : ∀ A' c' w', Own w' B e s enc A' (n + m) c' (xs ++ ys) → w.grownBy w' (blk A) → wpList P ops Q rest (a.put o.dst (.slice A' (n + m) c')) w') :
    wpList P ops Q (o :: rest) a w := by
  cases A2 with
  | some ad => exact wpList_pushSl T henc hone hgd sx ox ho hs ad m cm hx hown ys hy hn hB (fun A' c' w' h1 h2 _ => h A' c' w' h1 h2)
  | none =>
    obtain ⟨rfl, rfl⟩ := hy.none_zero
    have := hc0 rfl
    subst this
    obtain ⟨ht, i, z, hi, hz, hsz, hb, hzs, hs0⟩ := T
    refine Lib.wpList_append_run w hgd sx ox t t ho _ _ hs hx _ _ (run_append_owned_none w B t o.type e i s ht hi (.slice A n c) n (xs.flatMap enc) hown.row) ?_
    exact h A c w (by simpa using hown) ⟨rfl, rfl, rfl, Nat.le_refl _, fun _ _ _ => rfl⟩
end
theorem sizeIm : ∀ w, (sizeOf 67).run Tryz.prog w = .ok 3 w := fun w => by kernel_rfl
set_option maxHeartbeats 16000000 in
set_option maxRecDepth 100000 in
theorem inc_law (A : Option Addr) (n c : Nat) (l : List Im) (Aa : Option Addr) (na ca : Nat) (la : List Lv) (w : World) (hg : Gl w) (hl : Sl w 3 imC A n l) (hnc : n ≤ c) (hA0 : A = none → c = 0) (hok : ∀ x, x ∈ l → ImOk x) (ha : Sl w 4 lvC Aa na la) (hca : na ≤ ca) :
    Calls Tryz.prog 6 #[.slice A n c, .slice Aa na ca] w (StPost w) := by
  have HP := Lib.hid (show ∀ e w', (e = .returned (.bool true) ∧ Below w.heap.size w w') → StPost w e w' from fun _ _ h => h)
  have hlen := hl.len
  have cK := Lib.hid (fun W (hb : Below w.heap.size w W) => known_any W (hg.below hb))
  have cB := Lib.hid (fun W AO nO cO (h : Sl W 3 imC AO nO (oneL l)) => built_any AO nO cO (oneL l) Aa na ca Aa na ca W h (oneL_ok hok))
  have HLS := Lib.hid (fun W gl (hb : Below w.heap.size w W) (h : Blk W gl 96 #[.int .i64 1, .slice Aa na ca, .int .i64 2, .slice Aa na ca]) => bt_ls h (ha.below hb) (ha.below hb) hca hca)
  have HG := Lib.hid hg
  have HOKL := Lib.hid (oneL_ok hok)
  have hk1 : min n 40 ≤ n := by omega
  have hmin : min (n : Int) 40 = ((min n 40 : Nat) : Int) := by omega
  have hlk : l.take (min n 40) = l.take 40 := by
    rcases (show min n 40 = 40 ∨ (min n 40 = n ∧ n ≤ 40) by omega) with h | ⟨h, h'⟩
    · rw [h]
    · rw [h, List.take_of_length_le (by omega), List.take_of_length_le (by omega)]
  have hlt := hl.take hk1
  rw [hlk] at hlt
  have hcut := run_cut_h Tryz.underlying53 sizeIm A hk1 hnc
  have o0 : Own (w.alloc (.cells #[] 67)) w.heap.size 67 3 imC (some ⟨w.heap.size, 0, none⟩) 0 0 [] := Own.lit (w := w) (B := w.heap.size) (s := 3) (e := 67) (enc := imC) (xs := []) (Nat.le_refl _) rfl (by simp)
  have hlt' := hlt.below (alloc1 w (.cells #[] 67))
  have hbz := alloc1 w (.cells #[] 67)
  have hk40 : 0 + min n 40 ≤ 40 := by omega
  have hsz : w.heap.size ≤ (w.alloc (.cells #[] 67)).heap.size := by simp
  have hok40 := oneL_len l
  rw [hlen] at hok40
  have HN40 := Lib.hid hok40
  clear hk1 hlk hlt hl hlen hg hok ha hca hok40
  unfold BtPost at cB
  go_enter Tryz.func6, Tryz.ntmps6
  go_upto_region 1 with fail
  go_upto_region 2 with (at_builtin; refine wpList_pushAny2 elemIm imC_len imC_one rfl (.tmp 11) (.tmp 16) rfl rfl A (min n 40) c rfl hA0 o0 (l.take 40) hlt' ⟨by omega, by unfold maxLen; omega⟩ hsz ?_; intro A3 c3 w5 ho5 hg5)
  have hb5 : Below w.heap.size w w5 := hbz.grown hg5 hsz (fun j e => by cases e; exact Nat.le_refl _)
  rw [Nat.zero_add, List.nil_append] at ho5
  have hok40 := HN40.out
  rw [Nat.min_comm] at hok40
  have HN40 := Lib.hid hok40
  have hkm : min n 40 ≤ 40 := by omega
  have hml : (l.take 40).length ≤ min n 40 := by rw [ho5.len]; exact Nat.le_refl _
  have hml2 : min n 40 ≤ (l.take 40).length := by rw [ho5.len]; exact Nat.le_refl _
  clear hg5 o0 hlt' hbz hk40 hsz hcut hA0 hnc hok40 hmin
  generalize min n 40 = k at *
  have HML := Lib.hid hml
  have HML2 := Lib.hid hml2
  clear hml hml2
  go_wp2_with fail
  go_loopw [6] (fun vi wr => ∃ i : Nat, vi = .int .i64 i ∧ i ≤ k ∧ Own wr w.heap.size 67 3 imC A3 k c3 (zL (l.take 40) i) ∧ Below w.heap.size w wr) (fun vi _ => k - (intOf vi).toNat)
  case atStart => exact ⟨0, rfl, Nat.zero_le _, ho5, hb5⟩
  case round =>
    obtain ⟨i, rfl, hi, ho, hbr⟩ := hrel
    clear ho5 hb5
    by_cases hlt : i < k
    · obtain ⟨g, rfl, hgl, _⟩ := ho.form (by omega)
      have hix : i < (l.take 40).length := Nat.lt_of_lt_of_le hlt HML2.out
      obtain ⟨g', x, e1, _, _, hx, hc⟩ := ho.field imC_len hlt
      cases e1
      obtain ⟨cur, hcur⟩ := ho.heap_at rfl
      have f0 := Blk.frozen (w := wr) (g := g) (t := 67) (cs := cur) hcur (i * 3)
      have k0 : wr.cell? ⟨g, i * 3, none⟩ = some (.int .u8 x.li) := hc 0 _ rfl
      have hset := ho.set1 imC_len hlt (zL_at hix) (j := 0) (by omega) (.int .u8 0) (z0 (gIm (l.take 40) i)) rfl
      rw [zL_succ hix] at hset
      have HF := Lib.hid (And.intro (show Own (wr.setCell ⟨g, i * 3, none⟩ (.int .u8 0)) w.heap.size 67 3 imC (some ⟨g, 0, none⟩) k c3 (zL (l.take 40) (i + 1)) from hset) (hbr.setCell (p := ⟨g, i * 3, none⟩) hgl (.int .u8 0)))
      have hlt' : (i : Int) < k := by omega
      clear hset hcur hc ho hx hix
      go_wp2_with fail
      go_roundw
      case rel => exact ⟨i + 1, by simp, hlt, HF.out.1, HF.out.2⟩
      case measure => rw [intOf, intOf]; omega
    · have hik : i = k := by omega
      subst hik
      rw [zL_all _ HML.out] at ho
      have S0 : Sl wr 3 imC A3 i (oneL l) := ho.sl imC_len
      have cB := cB.out wr A3 i c3 S0
      clear ho hlt HML HML2
      go_upto_region 7 with (go_at_call 18; refine cB.mono ?_; rintro e w2 ⟨AI, cI, zs, gl, rfl, hM, hbl, hb2⟩; rw [show (docL AI (ysB (oneL l)).length cI (some ⟨gl, 0, none⟩) 2 2).toArray = #[.slice AI (ysB (oneL l)).length cI, .slice none 0 0, .int .i64 0, .int .i64 0, .slice none 0 0, .slice none 0 0, .slice none 0 0, .slice none 0 0, .slice (some ⟨gl, 0, none⟩) 2 2, .slice none 0 0, .slice none 0 0] from rfl])
      have hal := alloc1 w2 (.cells #[.slice AI (ysB (oneL l)).length cI, .slice none 0 0, .int .i64 0, .int .i64 0, .slice none 0 0, .slice none 0 0, .slice none 0 0, .slice none 0 0, .slice (some ⟨gl, 0, none⟩) 2 2, .slice none 0 0, .slice none 0 0] 63)
      have N7 := Blk.new w2 63 #[.slice AI (ysB (oneL l)).length cI, .slice none 0 0, .int .i64 0, .int .i64 0, .slice none 0 0, .slice none 0 0, .slice none 0 0, .slice none 0 0, .slice (some ⟨gl, 0, none⟩) 2 2, .slice none 0 0, .slice none 0 0]
      have S0 := (S0.below hb2).below hal
      have hM := hM.below hal
      have hls := (HLS.out w2 gl (below_trans' hbr hbr.size hb2) hbl).below hal
      have hb3 := below_trans' (below_trans' hbr hbr.size hb2) (below_trans' hbr hbr.size hb2).size hal
      clear hal hbl hb2 cB hbr
      generalize w2.alloc (.cells #[.slice AI (ysB (oneL l)).length cI, .slice none 0 0, .int .i64 0, .int .i64 0, .slice none 0 0, .slice none 0 0, .slice none 0 0, .slice none 0 0, .slice (some ⟨gl, 0, none⟩) 2 2, .slice none 0 0, .slice none 0 0] 63) = w1 at *
      generalize w2.heap.size = p7 at *
      have HC := Lib.hid (fun W (hb : Below w1.heap.size w1 W) => bt_check cI (hM.below hb) (hls.below hb))
      have HD := Lib.hid (fun W (hb : Below w1.heap.size w1 W) (hcl : ∀ k, k < 2 → clE ([la, la].getD k []) = 0) => nall_any AI (ysB (oneL l)).length cI (some ⟨gl, 0, none⟩) 2 2 zs (ysB (oneL l)) (esT Aa na ca Aa na ca) [la, la] W (HG.out.below (below_trans' hb3 hb3.size hb)) (bt_dr (hM.below hb) (hls.below hb) hcl))
      have HLA := Lib.hid (show la.length = na from ((hls.v 0 (by omega)) : Sl _ 4 lvC Aa na la).len)
      unfold EnPost at HD
      obtain ⟨E, hE, hEl, hEv⟩ := one_E (Aa := Aa) (na := na) (ca := ca) (la := la) (l := l)
      rw [hE] at HD
      have hyl := ysOne_len l
      have HY := Lib.hid (show (ysB (oneL l)).length = E.length by omega)
      have HEI := Lib.hid (show E.length = i by rw [hEl, HN40.out])
      have HEV := Lib.hid hEv
      have HK := Lib.hid (show ∀ W, Below w1.heap.size w1 W → Blk W p7 63 #[.slice AI (ysB (oneL l)).length cI, .slice none 0 0, .int .i64 0, .int .i64 0, .slice none 0 0, .slice none 0 0, .slice none 0 0, .slice none 0 0, .slice (some ⟨gl, 0, none⟩) 2 2, .slice none 0 0, .slice none 0 0] from fun W hb => N7.below hb)
      have HB3 := Lib.hid hb3
      have cK1 := cK.out w1 hb3
      rw [show (docL AI (ysB (oneL l)).length cI (some ⟨gl, 0, none⟩) 2 2).toArray = #[.slice AI (ysB (oneL l)).length cI, .slice none 0 0, .int .i64 0, .int .i64 0, .slice none 0 0, .slice none 0 0, .slice none 0 0, .slice none 0 0, .slice (some ⟨gl, 0, none⟩) 2 2, .slice none 0 0, .slice none 0 0] from rfl] at HC HD
      have HI := Lib.hid (fun (h1 : 1 ≤ na) (a b : Nat) (hab : a < b) (hb : b < E.length) (hm : ∀ j, a < j → j < b → lvO Aa na ca l a < lvO Aa na ca l j) (he : lvO Aa na ca l b = lvO Aa na ca l a) (hr : reB (gIm (oneL l) b) = false) => one_inc (Aa := Aa) (na := na) (ca := ca) (la := la) (l := l) h1 hab (by rw [HY.out]; exact hb) hm he hr)
      have HN := Lib.hid (fun (hc : clE la = 0) (a : Nat) (ha : a < E.length) => one_num (Aa := Aa) (ca := ca) (l := l) HLA.out hc (k := a) (by rw [HY.out]; exact ha))
      clear hM hls N7 hb3 hyl hE hEl hEv HN40
      generalize lvO Aa na ca l = LV at *
      generalize nuO Aa na ca la l = NU at *
      generalize (ysB (oneL l)).length = mi at *
      clear HY HLS
      by_cases h9 : 9 < na
      · have h9' : (9 : Int) < na := by omega
        go_upto_region 8 with (go_at_call 8; refine cK1.mono ?_; rintro e w2 ⟨rfl, hb2⟩)
        have hb2 := below_trans' HB3.out HB3.out.size hb2
        have cK2 := cK.out w2 hb2
        go_wp2_with (go_at_call 8; refine cK2.mono ?_; rintro e w3 ⟨rfl, hb3⟩)
        go_ret
        exact HP.out _ _ ⟨rfl, below_trans' hb2 hb2.size hb3⟩
      have h9' : ¬ (9 : Int) < na := by omega
      clear h9
      go_upto_region 8 with (go_at_call 8; refine cK1.mono ?_; rintro e w2 ⟨rfl, hw⟩; have B7 := HK.out w2 hw; have q0 := B7.cell 0 rfl; have q1 := B7.cell 1 rfl; have q2 := B7.cell 2 rfl; have q3 := B7.cell 3 rfl; have q4 := B7.cell 4 rfl; have q5 := B7.cell 5 rfl; have q6 := B7.cell 6 rfl; have q7 := B7.cell 7 rfl; have q8 := B7.cell 8 rfl; have q9 := B7.cell 9 rfl; have q10 := B7.cell 10 rfl)
      go_at_call 19
      refine (HC.out w2 hw).mono ?_
      rintro e w3 ⟨r, rfl, hq, h3⟩
      have hw3 := below_trans' hw hw.size h3
      have hb := below_trans' HB3.out HB3.out.size hw3
      have HQ := Lib.hid hq
      clear q0 q1 q2 q3 q4 q5 q6 q7 q8 q9 q10 B7 h3 hw hq
      by_cases hr : r = 0
      rotate_left
      · have hrb : (r == 0) = false := beq_eq_false_iff_ne.2 hr
        have hrn : (r != 0) = true := bne_iff_ne.2 hr
        clear HC HD HK HI HN HEV S0
        simp only []
        go_at_K
        go_upto_region 8 with fail
        go_wp2_with (go_at_call 8; refine (cK.out _ hb).mono ?_; rintro e w9 ⟨rfl, hb9⟩)
        go_ret
        exact HP.out _ _ ⟨rfl, below_trans' hb hb.size hb9⟩
        all_goals (exfalso; rename_i hx _ _; have hy := hx.2; rw [hrn] at hy; cases hy)
      have hcl := HQ.out hr
      have hcla : clE la = 0 := hcl 0 (by omega)
      have HI := Lib.hid (HI.out (by have := clE_len hcla; have := HLA.out; omega))
      have HN := Lib.hid (HN.out hcla)
      have cA := HD.out w3 hw3 hcl
      have B7 := HK.out w3 hw3
      have S0 := S0.below hw3
      subst hr
      simp only []
      go_at_K
      go_upto_region 9 with fail
      have q0 := B7.cell 0 rfl
      have q1 := B7.cell 1 rfl
      have q2 := B7.cell 2 rfl
      have q3 := B7.cell 3 rfl
      have q4 := B7.cell 4 rfl
      have q5 := B7.cell 5 rfl
      have q6 := B7.cell 6 rfl
      have q7 := B7.cell 7 rfl
      have q8 := B7.cell 8 rfl
      have q9 := B7.cell 9 rfl
      have q10 := B7.cell 10 rfl
      have hEI := HEI.out
      clear hcl hcla HC HQ cK1 HD HLA
      have bne1 : ((i : Int) != (i : Int)) = false := bne_self_eq_false _
      go_upto_region 10 with (go_at_call 20; refine cA.mono ?_; rintro e w5 ⟨A1, c1, rfl, o1, hb5⟩; rw [hEI])
      have hw5 := below_trans' hb hb.size hb5
      rw [hEI] at o1
      have S0 := S0.below hb5
      have S1 := o1.sl enC_len
      clear q0 q1 q2 q3 q4 q5 q6 q7 q8 q9 q10 B7 HK hb hw3 hb5 cA o1
      go_wp2_with fail
      go_loopw [9] (fun vi wr => ∃ a : Nat, vi = .int .i64 a ∧ a ≤ i ∧ Below w5.heap.size w5 wr) (fun vi _ => i - (intOf vi).toNat)
      case atStart => exact ⟨0, rfl, Nat.zero_le _, Below.refl _ _⟩
      case round =>
        obtain ⟨a, rfl, ha, hb6⟩ := hrel
        by_cases hlt : a < i
        · have hlt' : (a : Int) < i := by omega
          go_wp2_with fail
          go_loopw [10] (fun vk wr => ∃ b : Nat, vk = .int .i64 b ∧ a < b ∧ b ≤ i ∧ (∀ j, a < j → j < b → LV a < LV j) ∧ Below w5.heap.size w5 wr) (fun vk _ => i - (intOf vk).toNat)
          case atStart => exact ⟨a + 1, by simp, Nat.lt_succ_self _, hlt, fun j h1 h2 => absurd h1 (by omega), hb6⟩
          case round =>
            obtain ⟨b, rfl, hab, hbi, hm, hb7⟩ := hrel
            clear hb6
            have HM := Lib.hid hm
            clear hm
            by_cases hlt2 : b < i
            · have hlt2' : (b : Int) < i := by omega
              obtain ⟨ad, eA, hl, f0, f1, f2, f3, f4, f5⟩ := (S1.below hb7).en hlt
              obtain ⟨ad2, eA2, _, g0, g1, g2, g3, g4, g5⟩ := (S1.below hb7).en hlt2
              rw [eA] at eA2
              cases eA2
              subst eA
              obtain ⟨adm, eM, hlm, m0, m1, m2⟩ := (S0.below hb7).im hlt2
              subst eM
              rw [(HEV.out a (by rw [hEI]; exact hlt)).1] at f3
              rw [(HEV.out a (by rw [hEI]; exact hlt)).2] at f4
              rw [(HEV.out b (by rw [hEI]; exact hlt2)).1] at g3
              rw [(HEV.out b (by rw [hEI]; exact hlt2)).2] at g4
              have HIb := Lib.hid (fun hm he hr => HI.out a b hab (by rw [hEI]; exact hlt2) hm he hr)
              have hna := HN.out a (by rw [hEI]; exact hlt)
              clear f0 f1 f2 f5 g0 g1 g2 g5 m0 m1
              by_cases h1 : LV a ≤ LV b
              · have hd1 : decide (LV a ≤ LV b) = true := decide_eq_true h1
                go_upto_region 16 with fail
                go_quiet (fail)
                have hb8 := below_trans' hb7 hb7.size (below_drewN (Below.refl wr.heap.size wr) nq)
                have hdr := below_drewN (Below.refl wr.heap.size wr) nq
                have f3 := keepC hdr f3
                have f4 := keepC hdr f4
                have g3 := keepC hdr g3
                have g4 := keepC hdr g4
                have m2 := keepC hdr m2
                clear hdr hb7
                generalize wr.drewN nq = wq at *
                go_upto_region 18 with fail
                by_cases h2 : LV a < LV b
                · have hd2 : decide (LV a < LV b) = true := decide_eq_true h2
                  go_quiet (fail)
                  have hb9 := below_trans' hb8 hb8.size (below_drewN (Below.refl wq.heap.size wq) nq)
                  clear f3 f4 g3 g4 m2 hb8
                  go_wp2_with fail
                  go_roundw
                  case rel => exact ⟨b + 1, by simp, by omega, hlt2, fun j h1' h2' => by
                    rcases (show j < b ∨ j = b by omega) with h | h
                    · exact HM.out j h1' h
                    · rw [h]; exact h2, hb9⟩
                  case measure => rw [intOf, intOf]; omega
                · have hd2 : decide (LV a < LV b) = false := decide_eq_false h2
                  have hLE : LV b = LV a := by omega
                  go_quiet (fail)
                  have hb9 := below_trans' hb8 hb8.size (below_drewN (Below.refl wq.heap.size wq) nq)
                  have hdr := below_drewN (Below.refl wq.heap.size wq) nq
                  have f4 := keepC hdr f4
                  have g4 := keepC hdr g4
                  have m2 := keepC hdr m2
                  clear hdr hb8 f3 g3 hd1 hd2 h1 h2
                  generalize wq.drewN nq = wp at *
                  have h8 : (gIm (oneL l) b).re.tmod 8 = (gIm (oneL l) b).re % 8 := Int.tmod_eq_emod_of_nonneg (gIm_ok HOKL.out (k := b) (by rw [S0.len]; exact hlt2)).re.1
                  by_cases hre : 4 < (gIm (oneL l) b).re % 8
                  · have hd3 : decide ((gIm (oneL l) b).re % 8 ≤ 4) = false := decide_eq_false (by omega)
                    clear HIb
                    generalize (gIm (oneL l) b).re = xr at *
                    go_upto_region 19 with fail
                    go_quiet (fail)
                    have hbA := below_trans' hb9 hb9.size (below_drewN (Below.refl wp.heap.size wp) nq)
                    clear f4 g4 m2 hb9
                    go_wp2_with fail
                    go_roundw
                    case rel => exact ⟨a + 1, by simp, hlt, hbA⟩
                    case measure => rw [intOf, intOf]; omega
                  · have hd3 : decide ((gIm (oneL l) b).re % 8 ≤ 4) = true := decide_eq_true (by omega)
                    have hnum := HIb.out HM.out hLE (decide_eq_false hre)
                    rw [hnum] at g4
                    clear HIb hnum
                    generalize (gIm (oneL l) b).re = xr at *
                    have hwn : IntKind.i64.wrap (NU a + 1) = NU a + 1 := IntWalk.i64_in _ (by omega)
                    have hbn : (NU a + 1 != NU a + 1) = false := bne_self_eq_false _
                    generalize NU a = nu at *
                    go_upto_region 19 with fail
                    go_quiet (fail)
                    have hbA := below_trans' hb9 hb9.size (below_drewN (Below.refl wp.heap.size wp) nq)
                    clear f4 g4 m2 hb9
                    go_wp2_with fail
                    go_roundw
                    case rel => exact ⟨a + 1, by simp, hlt, hbA⟩
                    case measure => rw [intOf, intOf]; omega
              · have hd1 : decide (LV a ≤ LV b) = false := decide_eq_false h1
                go_upto_region 16 with fail
                go_quiet (fail)
                have hb8 := below_trans' hb7 hb7.size (below_drewN (Below.refl wr.heap.size wr) nq)
                clear f3 f4 g3 g4 m2 hb7
                go_wp2_with fail
                go_roundw
                case rel => exact ⟨a + 1, by simp, hlt, hb8⟩
                case measure => rw [intOf, intOf]; omega
            · have hbe : b = i := by omega
              have hnb : ¬ (b : Int) < i := by omega
              have hd0 : decide ((b : Int) < i) = false := decide_eq_false hnb
              go_upto_region 16 with fail
              go_quiet (fail)
              have hb8 := below_trans' hb7 hb7.size (below_drewN (Below.refl wr.heap.size wr) nq)
              clear hb7
              go_wp2_with fail
              go_roundw
              case rel => exact ⟨a + 1, by simp, hlt, hb8⟩
              case measure => rw [intOf, intOf]; omega
        · have hae : ¬ (a : Int) < i := by omega
          have hb8 := below_trans' hw5 hw5.size hb6
          go_wp2_with fail
          go_ret
          exact HP.out _ _ ⟨rfl, hb8⟩
end Go.Proofs.YthbodpjkckminaaGreatDoor
