/- The walk of the law TotalfitWords. -/
import Derived.Test.YtogbapdioccamaaE47
import Derived.Test.YtogbapdioccamaaE45
import Derived.Deep.CutBlock
namespace Go.Proofs.Ytogbapdioccamaa
open Go.RowKit

def wL (bs : List Int) (k : Nat) : List Int := (List.range k).map (fun i => 1 + gI bs i % 100)
theorem wL_len (bs : List Int) (k : Nat) : (wL bs k).length = k := by simp [wL]
theorem wL_succ (bs : List Int) (k : Nat) : wL bs (k + 1) = wL bs k ++ [1 + gI bs k % 100] := by unfold wL; rw [List.range_succ, List.map_append]; rfl
theorem wL_gI (bs : List Int) {k i : Nat} (h : i < k) : gI (wL bs k) i = 1 + gI bs i % 100 := gI_range (fun i => 1 + gI bs i % 100) h
theorem wL_tot (bs : List Int) {k : Nat} : ∀ i, i ≤ k → tot (wL bs (k + 1)) i = tot (wL bs k) i
  | 0, _ => rfl
  | i + 1, h => by
    unfold tot
    rw [wL_tot bs i (by omega), wL_gI bs (by omega), wL_gI bs (by omega)]
theorem wL_tot_succ (bs : List Int) (k : Nat) : tot (wL bs (k + 1)) (k + 1) = tot (wL bs k) k + 10 + (1 + gI bs k % 100) := by
  show tot (wL bs (k + 1)) k + 10 + gI (wL bs (k + 1)) k = _
  rw [wL_tot bs k (Nat.le_refl _), wL_gI bs (by omega)]
theorem wL_bd (bs : List Int) (k : Nat) : ∀ i, i < (wL bs k).length → 1 ≤ gI (wL bs k) i ∧ gI (wL bs k) i ≤ 100 := fun i hi => by
  rw [wL_len] at hi
  rw [wL_gI bs hi]
  omega
/-- the boxes before line k. -/
def bxAt (xs : List It) (bl : List Nat) (k : Nat) : Nat := cB xs (aAt bl k + 1).toNat
theorem bxAt_succ {xs : List It} {bl : List Nat} {n k : Nat} (h : BrOk xs n bl) (hk : k < bl.length) : bxAt xs bl (k + 1) = cB xs (gN bl k) := by
  unfold bxAt aAt
  rw [if_neg (by omega), Nat.add_sub_cancel, show (((gN bl k : Nat) : Int) + 1).toNat = gN bl k + 1 by omega, cB_pos (posN_mem.1 (h.pos _ (gN_mem hk))).2]
theorem bxAt_from {xs : List It} {ms : List Int} {bl : List Nat} {n k : Nat} (h : BrOk xs n bl) (hk : k < bl.length) : ∃ f : Nat, (lnAt xs ms bl k).fr = (f : Int) ∧ (lnAt xs ms bl k).to = (gN bl k : Nat) ∧ f ≤ gN bl k ∧ cB xs f = bxAt xs bl k := by
  have ha := h.rise.a hk
  exact ⟨fromOf xs (aAt bl k) (gN bl k), rfl, rfl, fromOf_le _ _ _, cB_from xs ha.1 ha.2⟩
theorem bxAt_end {xs : List It} {bl : List Nat} {n : Nat} (h : BrOk xs n bl) (hl : xs.length = n) (h0 : 0 < n) (hf : forcedI (gT xs (n - 1)) = true) : bxAt xs bl bl.length = cB xs n := by
  have hm : n - 1 ∈ posN xs := by
    refine posN_mem.2 ⟨by omega, ?_⟩
    unfold forcedI at hf
    simp only [Bool.and_eq_true, beq_iff_eq] at hf
    unfold posB
    rw [decide_eq_true hf.1, decide_eq_true (by rw [hf.2]; omega)]
    rfl
  have hin := h.all _ hm hf
  obtain ⟨j, hj, e⟩ := gN_of_mem hin
  have hlast : j + 1 = bl.length := by
    rcases Nat.lt_or_ge (j + 1) bl.length with h1 | h1
    · have h2 := h.rise.2 j h1
      have h3 := h.rise.1 (j + 1) h1
      omega
    · omega
  unfold bxAt aAt
  rw [if_neg (by omega), ← hlast, Nat.add_sub_cancel, e]
  congr 1
  omega

set_option maxRecDepth 100000 in
set_option maxHeartbeats 4000000 in
theorem law_words (A : Option Addr) (n c : Nat) (bs : List Int) (mu : Int) (w : World) (ha : Sl w 1 byteC A n bs) (hn : n ≤ c ∧ c ≤ maxLen) (hbs : ∀ x ∈ bs, 0 ≤ x ∧ x ≤ 255) (hmu : 0 ≤ mu ∧ mu ≤ 255) :
    Calls Try.prog 8 #[.slice A n c, .int .u8 mu] w fun e w' => e = .returned (.bool true) ∧ Below w.heap.size w w' := by
  have hT : ∀ k, k ≤ 40 → 0 ≤ tot (wL bs k) k ∧ tot (wL bs k) k ≤ 4400 := fun k hk => by
    have := tot_bd (wL_bd bs k) k (by rw [wL_len]; exact Nat.le_refl _)
    omega
  have HT := Lib.hid hT
  have hnm : n ≤ 9223372036854775807 := by unfold maxLen at hn; omega
  clear hT hn
  have hal := ha.len
  go_enter Try.func8, Try.ntmps8
  go_upto_block 0 with fail
  go_cut [5, 6] (fun vw vt wx => ∃ (k : Nat) (A1 : Option Addr) (c1 : Nat), k ≤ 40 ∧ vw = .slice A1 k c1 ∧ vt = .int .i64 (tot (wL bs k) k) ∧ Own wx w.heap.size 3 1 intC A1 k c1 (wL bs k) ∧ Below w.heap.size w wx)
  case first =>
    go_wp2_with fail
    go_loopw [5, 6, 7] (fun vw vt vi wr => ∃ (k : Nat) (A1 : Option Addr) (c1 : Nat), k ≤ n ∧ k ≤ 40 ∧ vw = .slice A1 k c1 ∧ vt = .int .i64 (tot (wL bs k) k) ∧ vi = .int .i64 k ∧ Own wr w.heap.size 3 1 intC A1 k c1 (wL bs k) ∧ Below w.heap.size w wr) (fun _ _ vi _ => n - (intOf vi).toNat)
    case atStart => exact ⟨0, none, 0, Nat.zero_le _, Nat.zero_le _, rfl, rfl, rfl, Own.nil_ _ _ _ _ _, Below.refl _ _⟩
    case round =>
      obtain ⟨k, A1, c1, hk, hk4, rfl, rfl, rfl, ho, hbw⟩ := hrel
      have hTk := HT.out k hk4
      by_cases hlt : k < n
      · by_cases h40 : k < 40
        · obtain ⟨ad, e, hl, x, hx, hc⟩ := (ha.below hbw).at_ hlt
          subst e
          have cx := hc 0 _ rfl
          rw [Nat.mul_one, Nat.add_zero] at cx
          have hxb := hbs x (List.mem_of_getElem? hx)
          have hgx : gI bs k = x := by unfold gI; rw [List.getD_eq_getElem?_getD, hx]; rfl
          have HS := Lib.hid (wL_succ bs k)
          have HTS := Lib.hid (wL_tot_succ bs k)
          rw [hgx] at HS HTS
          have HLW := Lib.hid (wL_len bs k)
          have hgl : ∀ y, gI (wL bs k ++ [y]) k = y := fun y => by
            have := gI_last (wL bs k) y
            rw [wL_len] at this
            exact this
          have HGL := Lib.hid hgl
          clear hc hx hgx hgl
          generalize wL bs k = P at *
          generalize tot P k = T at *
          have h1 : (0 : Int) ≤ x % 100 ∧ x % 100 < 100 := by omega
          go_wp2_with (at_builtin; refine wpList_push elemI rfl (.tmp 29) (.tmp 37) rfl rfl _ rfl (ho.alloc _) (1 + x % 100) _ rfl (by simp) (intC_one _) rfl (by unfold maxLen; omega) (Nat.le_trans hbw.size (by simp)) ?_; intro A3 c3 w5 ho3 hg3 ha3; obtain ⟨g3, rfl, hg3b, hg3l, r3⟩ := ho3.int (k := k) (by omega); rw [HGL.out] at r3)
          go_roundw
          case rel =>
            refine ⟨k + 1, some ⟨g3, 0, none⟩, c3, by omega, by omega, rfl, ?_, by go_num, ?_, (hbw.alloc hbw.size _).grown hg3 (Nat.le_trans hbw.size (by simp)) (fun g hg => (ho.lt g hg).1)⟩
            · rw [HTS.out]
            · rw [HS.out]
              exact ho3
          case measure => simp [intOf]; omega
        · go_wp2_with fail
          go_meet
          case rel => exact ⟨k, A1, c1, hk4, rfl, rfl, ho, hbw⟩
      · go_wp2_with fail
        go_meet
        case rel => exact ⟨k, A1, c1, hk4, rfl, rfl, ho, hbw⟩
  case rest =>
    obtain ⟨k, A1, c1, hk4, rfl, rfl, ho, hbw⟩ := hcut
    have hs0 := ho.sl intC_len
    have hTk := HT.out k hk4
    have hwl := wL_len bs k
    have hw := wL_bd bs k
    have hN : (wordsF (wL bs k)).length ≤ 4096 := by
      have := wordsP_len (wL bs k) (wL bs k).length
      unfold wordsF
      rw [List.length_append]
      show _ + 2 ≤ _
      omega
    have hno := wf_no hw (m := 100 + mu) (by omega) (by omega) hN
    have hone := wf_one hw (by omega)
    have hbx := wf_boxes (wL bs k)
    rw [hwl] at hone hbx
    have G1 := wf_good hw (m := 100 + mu) (by omega) (by omega) hN
    have z1 := wf_chkB hw (m := 100 + mu) (by omega) (by omega)
    have z2 := wf_chkB hw (m := tot (wL bs k) k + 1) (by omega) (by omega)
    have kw := fun W h => words_any A1 k c1 (wL bs k) W h (by omega)
    have HWL := Lib.hid hwl
    clear hw hwl ha hal hbs ho
    generalize hXS : wordsF (wL bs k) = xs at *
    have hbr := G1.brok rfl
    have hlen := brok_len rfl hbr
    have hbk := brk_ok hbr
    have kb1 := fun A2 c2 M W h1 h2 => Breaks_any prepOk A2 M xs.length 1 c2 1 xs [100 + mu] W h1 h2 hN (by omega)
    have kb2 := fun A2 c2 M W h1 h2 => Breaks_any prepOk A2 M xs.length 1 c2 1 xs [tot (wL bs k) k + 1] W h1 h2 hN (by omega)
    simp only [z1, z2, if_true] at kb1 kb2
    have kc := fun A2 c2 A3 c3 W h1 h2 => mcheckBreaks_any A2 A3 xs.length (breaksL xs [100 + mu]).length c2 c3 xs (ints (breaksL xs [100 + mu])) W h1 h2 hN (by omega)
    rw [hbk] at kc
    have kl := fun A2 c2 M A3 c3 W h1 h2 h3 => mlines_any A2 M A3 xs.length 1 (breaksL xs [100 + mu]).length c2 1 c3 (breaksL xs [100 + mu]) xs [100 + mu] W h1 h2 h3 hbr.rise hN ⟨by omega, by omega⟩ (by omega) G1.R G1.M
    have hfr := fun i (hi : i < (breaksL xs [100 + mu]).length) => bxAt_from (ms := [100 + mu]) hbr hi
    have hbs2 := fun i (hi : i < (breaksL xs [100 + mu]).length) => bxAt_succ hbr hi
    have hbe := bxAt_end hbr rfl G1.n0 G1.F
    rw [hbx] at hbe
    have hgl := fun i (hi : i < (breaksL xs [100 + mu]).length) => gL_lines (xs := xs) (ms := [100 + mu]) (bl := breaksL xs [100 + mu]) hi
    have HFR := Lib.hid hfr
    have HBS := Lib.hid hbs2
    have HBE := Lib.hid hbe
    have HGL := Lib.hid hgl
    have HR := Lib.hid (fun i (hi : i < (breaksL xs [100 + mu]).length) => hbr.rise.1 i hi)
    have HCL := Lib.hid (cB_le xs)
    have hone2 : (breaksL xs [tot (wL bs k) k + 1]).length = 1 := hone
    have hov := fun A2 c2 W h => over_any A2 (breaksL xs [100 + mu]).length c2 (linesN xs [100 + mu] (breaksL xs [100 + mu]) (breaksL xs [100 + mu]).length) W h (by omega)
    rw [hno] at hov
    clear hfr hbs2 hbe hgl hbr hbk hno hone hbx G1 z1 z2 HT hXS
    generalize costN xs [100 + mu] (breaksL xs [100 + mu]) (breaksL xs [100 + mu]).length = ct at *
    generalize hLX : linesN xs [100 + mu] (breaksL xs [100 + mu]) (breaksL xs [100 + mu]).length = LX at *
    generalize breaksL xs [100 + mu] = BL at *
    have hB2 : ∃ b, breaksL xs [tot (wL bs k) k + 1] = [b] := by
      match hq : breaksL xs [tot (wL bs k) k + 1], hone2 with
      | [b], _ => exact ⟨b, rfl⟩
    obtain ⟨b2, hb2⟩ := hB2
    rw [hb2] at kb2
    clear hb2 hone2 hLX
    generalize tot (wL bs k) k = T at *
    generalize wL bs k = ws at *
    generalize hm1 : 100 + mu = m1 at *
    have hl1 := fun w2 => lit_sl (w := w2) (xs := [m1]) (cs := #[.int .i64 m1]) rfl (by unfold maxLen; simp)
    have hl2 := fun w2 => lit_sl (w := w2) (xs := [T + 1]) (cs := #[.int .i64 (T + 1)]) rfl (by unfold maxLen; simp)
    have HL1 := Lib.hid hl1
    have HL2 := Lib.hid hl2
    clear hl1 hl2
    go_upto_region 9 with (first
      | (go_at_call 31; refine (kw _ hs0).mono ?_; rintro e w1 ⟨A2, c2, rfl, ho2, h9⟩; have hbw := below_trans' hbw hbw.size h9; have hx2 := ho2.sl itC_len))
    have hw1 := w1.heap.size
    clear hw1 ho2
    go_upto_region 10 with (first
      | (go_at_call 22; refine (kb1 A2 c2 _ _ (sl_alloc hx2 _) (HL1.out w1)).mono ?_; rintro e w3 ⟨A3, c3, rfl, ho3, h9⟩; have h9' := ((Below.refl w1.heap.size w1).alloc (Nat.le_refl _) (.cells #[.int .i64 m1] 3)).trans (h9.mono (by simp)); have hbw := below_trans' hbw hbw.size h9'; have hx2 := hx2.below h9'; have hs3 := ho3.sl intC_len; clear ho3 h9 h9'))
    go_upto_region 11 with (first
      | (go_at_call 22; refine (kb2 A2 c2 _ _ (sl_alloc hx2 _) (HL2.out w3)).mono ?_; rintro e w4 ⟨A4, c4, rfl, ho4, h9⟩; have h9' := ((Below.refl w3.heap.size w3).alloc (Nat.le_refl _) (.cells #[.int .i64 (T + 1)] 3)).trans (h9.mono (by simp)); have hbw := below_trans' hbw hbw.size h9'; have hx2 := hx2.below h9'; have hs3 := hs3.below h9'; clear ho4 h9 h9'))
    go_upto_region 13 with (first
      | (go_at_call 14; refine (known_of prepOk _).mono ?_; rintro e w5 ⟨rfl, h9⟩; have hbw := below_trans' hbw hbw.size h9; have hx2 := hx2.below h9; have hs3 := hs3.below h9; clear h9)
      | (go_at_call 26; refine (kc A2 c2 A3 c3 _ hx2 hs3).mono ?_; rintro e w6 ⟨rfl, h9⟩; have hbw := below_trans' hbw hbw.size h9; have hx2 := hx2.below h9; have hs3 := hs3.below h9; clear h9))
    clear kb1 kb2 kc HL2 kw hs0
    go_wp2_with (first
      | (go_at_call 27; refine (kl A2 c2 _ A3 c3 _ (sl_alloc hx2 _) (HL1.out w6) (sl_alloc hs3 _)).mono ?_; rintro e w7 ⟨A7, c7, rfl, ho7, h9⟩; have h9' := ((Below.refl w6.heap.size w6).alloc (Nat.le_refl _) (.cells #[.int .i64 m1] 3)).trans (h9.mono (by simp)); have hbw := below_trans' hbw hbw.size h9'; have hx2 := hx2.below h9'; have hs7 := ho7.sl lnC_len; clear ho7 h9 h9' hs3))
    clear kl HL1
    have hlen2 : BL.length ≤ 4096 := by omega
    generalize hBN : BL.length = b at *
    go_loopw [16, 17] (fun vn vi wr => ∃ i : Nat, i ≤ b ∧ vi = .int .i64 i ∧ vn = .int .i64 (bxAt xs BL i : Nat) ∧ Below w7.heap.size w7 wr) (fun _ vi _ => b - (intOf vi).toNat)
    case atStart => exact ⟨0, Nat.zero_le _, rfl, rfl, Below.refl _ _⟩
    case round =>
      obtain ⟨i, hi, rfl, rfl, hb3⟩ := hrel
      have hx3 := hx2.below hb3
      have hs8 := hs7.below hb3
      by_cases hlt : i < b
      · obtain ⟨f, hf1, hf2, hf3, hf4⟩ := HFR.out i hlt
        have hge := HGL.out i hlt
        have hrn := HR.out i hlt
        have hbs3 := HBS.out i hlt
        obtain ⟨ad, rfl, hla, q0, hq⟩ := hs8.ln hlt
        have q1 := hq 1 _ (by omega) rfl
        rw [hge, show (withD (lnAt xs [m1] BL i) (demAt xs [m1] BL i)).fr = (f : Int) from hf1] at q0
        rw [hge, show (withD (lnAt xs [m1] BL i) (demAt xs [m1] BL i)).to = (gN BL i : Nat) from hf2] at q1
        have hq01 : ∀ wx, Below w7.heap.size w7 wx → wx.cell? (ad.add (i * 10)) = some (.int .i64 f) ∧ wx.cell? ⟨(ad.add (i * 10)).block, (ad.add (i * 10)).off + 1, none⟩ = some (.int .i64 (gN BL i : Nat)) := fun wx hwx => by
          obtain ⟨ad', e, _, q0', hq'⟩ := (hs7.below hwx).ln hlt
          injection e with e
          subst e
          have q1' := hq' 1 _ (by omega) rfl
          rw [hge, show (withD (lnAt xs [m1] BL i) (demAt xs [m1] BL i)).fr = (f : Int) from hf1] at q0'
          rw [hge, show (withD (lnAt xs [m1] BL i) (demAt xs [m1] BL i)).to = (gN BL i : Nat) from hf2] at q1'
          exact ⟨q0', q1'⟩
        have HQ := Lib.hid hq01
        have HBX := Lib.hid hbs3
        rw [← hf4]
        clear hf1 hf2 hf4 hge hq hq01 hs8 hbs3
        generalize gN BL i = t at *
        go_wp2_with fail
        go_loopw [16, 18] (fun vn vk wx => ∃ j : Nat, f ≤ j ∧ j ≤ t ∧ vk = .int .i64 j ∧ vn = .int .i64 (cB xs j : Nat) ∧ Below w7.heap.size w7 wx) (fun _ vk _ => t - (intOf vk).toNat)
        case atStart => exact ⟨f, Nat.le_refl _, hf3, rfl, rfl, hb3⟩
        case round =>
          obtain ⟨j, hfj, hjt, rfl, rfl, hb4⟩ := hrel
          clear q0 q1
          obtain ⟨q0, q1⟩ := HQ.out _ hb4
          have hcl := HCL.out j
          by_cases hjl : j < t
          · obtain ⟨ad2, rfl, hl2, k0, k1, k2, k3, k4, k5⟩ := (hx2.below hb4).it (k := j) (by omega)
            have HCS := Lib.hid (show cB xs (j + 1) = cB xs j + (if (gT xs j).kind = 1 then 1 else 0) from rfl)
            have HX2 := Lib.hid hx2
            generalize (gT xs j).kind = kd at *
            clear k1 k2 k3 k4 k5 hx3 hx2
            by_cases hk1 : kd = 1
            · have hk2 : (kd == 1) = true := by simpa using hk1
              have HK := Lib.hid hk1
              clear hk1
              generalize cB xs j = cj at *
              go_wp2_with fail
              go_roundw
              case rel => exact ⟨j + 1, by omega, by omega, by go_num, by rw [HCS.out, if_pos HK.out]; go_num, hb4⟩
              case measure => simp [intOf]; omega
            · have hk2 : (kd == 1) = false := by simpa using hk1
              have HK := Lib.hid hk1
              clear hk1
              generalize cB xs j = cj at *
              go_wp2_with fail
              go_roundw
              case rel => exact ⟨j + 1, by omega, by omega, by go_num, by rw [HCS.out, if_neg HK.out, Nat.add_zero], hb4⟩
              case measure => simp [intOf]; omega
          · have hjt2 : j = t := by omega
            subst hjt2
            go_wp2_with fail
            go_roundw
            case rel => exact ⟨i + 1, by omega, by go_num, by rw [HBX.out], hb4⟩
            case measure => simp [intOf]; omega
      · have hib : i = b := by omega
        subst hib
        rw [HBE.out]
        go_wp2_with (first
          | (go_at_call 29; refine (hov A7 c7 _ hs8).mono ?_; rintro e w8 ⟨rfl, h9⟩; have hbz := below_trans' hb3 hb3.size h9))
        go_ret
        exact ⟨rfl, below_trans' hbw hbw.size hbz⟩
end Go.Proofs.Ytogbapdioccamaa
