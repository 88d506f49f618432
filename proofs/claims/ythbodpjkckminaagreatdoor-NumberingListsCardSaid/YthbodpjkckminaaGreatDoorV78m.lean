/- the law NumberingLists, walked. -/
import Derived.Test.YthbodpjkckminaaGreatDoorm31
import Derived.Test.YthbodpjkckminaaGreatDoorm27
namespace Go.Proofs.YthbodpjkckminaaGreatDoor
open Go.RowKit Go.Sort

set_option maxHeartbeats 16000000 in
set_option maxRecDepth 100000 in
theorem lists_law (A : Option Addr) (n c : Nat) (l : List Im) (Aa : Option Addr) (na ca : Nat) (la : List Lv) (Ab : Option Addr) (nb cb : Nat) (lb : List Lv) (w : World) (hg : Gl w) (hl : Sl w 3 imC A n l) (hok : ∀ x, x ∈ l → ImOk x) (ha : Sl w 4 lvC Aa na la) (hbs : Sl w 4 lvC Ab nb lb) (hca : na ≤ ca) (hcb : nb ≤ cb) :
    Calls Tryz.prog 7 #[.slice A n c, .slice Aa na ca, .slice Ab nb cb] w (StPost w) := by
  have HP := Lib.hid (show ∀ e w', (e = .returned (.bool true) ∧ Below w.heap.size w w') → StPost w e w' from fun _ _ h => h)
  have cK := Lib.hid (fun W (hb : Below w.heap.size w W) => known_any W (hg.below hb))
  have cB := built_any A n c l Aa na ca Ab nb cb w hl hok
  have HLS := Lib.hid (fun W gl (hb : Below w.heap.size w W) (h : Blk W gl 96 #[.int .i64 1, .slice Aa na ca, .int .i64 2, .slice Ab nb cb]) => bt_ls h (ha.below hb) (hbs.below hb) hca hcb)
  have HG := Lib.hid hg
  have HL := Lib.hid (fun W (hb : Below w.heap.size w W) => hl.below hb)
  have HLN := Lib.hid hl.len
  have HOK := Lib.hid hok
  have HSR := Lib.hid (bt_lsr Aa na ca Ab nb cb [la, lb] l)
  have HYL := Lib.hid (ysB_len l)
  have HKI := Lib.hid (ysB_kind l)
  have HFR := Lib.hid (frK_all (ysB_kind l))
  unfold BtPost at cB
  clear hg hl ha hbs hok
  go_enter Tryz.func7, Tryz.ntmps7
  go_upto_region 2 with (go_at_call 18; refine cB.mono ?_; rintro e w2 ⟨AI, cI, zs, gl, rfl, hM, hbl, hb2⟩; rw [show (docL AI (ysB l).length cI (some ⟨gl, 0, none⟩) 2 2).toArray = #[.slice AI (ysB l).length cI, .slice none 0 0, .int .i64 0, .int .i64 0, .slice none 0 0, .slice none 0 0, .slice none 0 0, .slice none 0 0, .slice (some ⟨gl, 0, none⟩) 2 2, .slice none 0 0, .slice none 0 0] from rfl])
  have hal := alloc1 w2 (.cells #[.slice AI (ysB l).length cI, .slice none 0 0, .int .i64 0, .int .i64 0, .slice none 0 0, .slice none 0 0, .slice none 0 0, .slice none 0 0, .slice (some ⟨gl, 0, none⟩) 2 2, .slice none 0 0, .slice none 0 0] 63)
  have N7 := Blk.new w2 63 #[.slice AI (ysB l).length cI, .slice none 0 0, .int .i64 0, .int .i64 0, .slice none 0 0, .slice none 0 0, .slice none 0 0, .slice none 0 0, .slice (some ⟨gl, 0, none⟩) 2 2, .slice none 0 0, .slice none 0 0]
  have hM := hM.below hal
  have hls := HLS.out w2 gl hb2 hbl
  have hls := hls.below hal
  have hb3 := below_trans' hb2 hb2.size hal
  clear hal hbl hb2 cB
  generalize w2.alloc (.cells #[.slice AI (ysB l).length cI, .slice none 0 0, .int .i64 0, .int .i64 0, .slice none 0 0, .slice none 0 0, .slice none 0 0, .slice none 0 0, .slice (some ⟨gl, 0, none⟩) 2 2, .slice none 0 0, .slice none 0 0] 63) = w1 at *
  generalize w2.heap.size = p7 at *
  have HC := Lib.hid (fun W (hb : Below w1.heap.size w1 W) => bt_check cI (hM.below hb) (hls.below hb))
  have HD := Lib.hid (fun W (hb : Below w1.heap.size w1 W) (hcl : ∀ k, k < 2 → clE ([la, lb].getD k []) = 0) => nall_any AI (ysB l).length cI (some ⟨gl, 0, none⟩) 2 2 zs (ysB l) (esT Aa na ca Ab nb cb) [la, lb] W (HG.out.below (below_trans' hb3 hb3.size hb)) (bt_dr (hM.below hb) (hls.below hb) hcl))
  have HEL := Lib.hid (show (runL (esT Aa na ca Ab nb cb) [la, lb] (ysB l) (pmL (ysB l) (ysB l).length)).es.length ≤ 1000000 by
    rw [HSR.out.le]
    have h1 := List.length_filter_le (liP l) (List.range (ysB l).length)
    rw [List.length_range] at h1
    have h2 := ysB_len l
    omega)
  have HF := Lib.hid (fun W (hb : Below w1.heap.size w1 W) (hcl : ∀ k, k < 2 → clE ([la, lb].getD k []) = 0) i (hi : i < (ysB l).length) => nat_any AI (ysB l).length cI (some ⟨gl, 0, none⟩) 2 2 zs (ysB l) (esT Aa na ca Ab nb cb) [la, lb] i i W (HG.out.below (below_trans' hb3 hb3.size hb)) (bt_dr (hM.below hb) (hls.below hb) hcl) hi (HKI.out i hi) (HFR.out i (Nat.le_of_lt hi)) HEL.out)
  have HN := Lib.hid (fun W (hb : Below w1.heap.size w1 W) (hcl : ∀ k, k < 2 → clE ([la, lb].getD k []) = 0) x lb2 => nfind_any AI (ysB l).length cI (some ⟨gl, 0, none⟩) 2 2 zs (ysB l) (esT Aa na ca Ab nb cb) [la, lb] x lb2 W (HG.out.below (below_trans' hb3 hb3.size hb)) (bt_dr (hM.below hb) (hls.below hb) hcl) HEL.out)
  have HE := Lib.hid (fun W (hb : Below w1.heap.size w1 W) (hcl : ∀ k, k < 2 → clE ([la, lb].getD k []) = 0) => lentries_any AI (ysB l).length cI (some ⟨gl, 0, none⟩) 2 2 zs (ysB l) (esT Aa na ca Ab nb cb) [la, lb] W (HG.out.below (below_trans' hb3 hb3.size hb)) (bt_dr (hM.below hb) (hls.below hb) hcl))
  have HK := Lib.hid (show ∀ W, Below w1.heap.size w1 W → Blk W p7 63 #[.slice AI (ysB l).length cI, .slice none 0 0, .int .i64 0, .int .i64 0, .slice none 0 0, .slice none 0 0, .slice none 0 0, .slice none 0 0, .slice (some ⟨gl, 0, none⟩) 2 2, .slice none 0 0, .slice none 0 0] from fun W hb => N7.below hb)
  have HB3 := Lib.hid hb3
  have cK1 := cK.out w1 hb3
  rw [show (docL AI (ysB l).length cI (some ⟨gl, 0, none⟩) 2 2).toArray = #[.slice AI (ysB l).length cI, .slice none 0 0, .int .i64 0, .int .i64 0, .slice none 0 0, .slice none 0 0, .slice none 0 0, .slice none 0 0, .slice (some ⟨gl, 0, none⟩) 2 2, .slice none 0 0, .slice none 0 0] from rfl] at HC HD HF HN HE
  clear hM hls N7 hb3
  clear HKI HFR
  unfold EnPost at HD HE
  unfold FaPost at HF
  unfold FnPost at HN
  generalize (ysB l).length = mi at *
  generalize runL (esT Aa na ca Ab nb cb) [la, lb] (ysB l) (pmL (ysB l) mi) = st at *
  obtain ⟨sf, ps, E⟩ := st
  simp only at HSR HEL HD HE HF HN
  by_cases h9 : 9 < na
  · have h9' : (9 : Int) < na := by omega
    go_upto_region 3 with (go_at_call 8; refine cK1.mono ?_; rintro e w2 ⟨rfl, hb2⟩)
    have hb2 := below_trans' HB3.out HB3.out.size hb2
    have cK2 := cK.out w2 hb2
    go_wp2_with (go_at_call 8; refine cK2.mono ?_; rintro e w3 ⟨rfl, hb3⟩)
    go_ret
    exact HP.out _ _ ⟨rfl, below_trans' hb2 hb2.size hb3⟩
  have h9' : ¬ (9 : Int) < na := by omega
  by_cases h10 : 9 < nb
  · have h10' : (9 : Int) < nb := by omega
    go_upto_region 3 with (go_at_call 8; refine cK1.mono ?_; rintro e w2 ⟨rfl, hb2⟩)
    have hb2 := below_trans' HB3.out HB3.out.size hb2
    have cK2 := cK.out w2 hb2
    go_wp2_with (go_at_call 8; refine cK2.mono ?_; rintro e w3 ⟨rfl, hb3⟩)
    go_ret
    exact HP.out _ _ ⟨rfl, below_trans' hb2 hb2.size hb3⟩
  have h10' : ¬ (9 : Int) < nb := by omega
  clear h9 h10
  go_upto_region 3 with (go_at_call 8; refine cK1.mono ?_; rintro e w2 ⟨rfl, hw⟩; have B7 := HK.out w2 hw; have q0 := B7.cell 0 rfl; have q1 := B7.cell 1 rfl; have q2 := B7.cell 2 rfl; have q3 := B7.cell 3 rfl; have q4 := B7.cell 4 rfl; have q5 := B7.cell 5 rfl; have q6 := B7.cell 6 rfl; have q7 := B7.cell 7 rfl; have q8 := B7.cell 8 rfl; have q9 := B7.cell 9 rfl; have q10 := B7.cell 10 rfl)
  go_at_call 19
  refine (HC.out w2 hw).mono ?_
  rintro e w3 ⟨r, rfl, hq, h3⟩
  have hw3 := below_trans' hw hw.size h3
  have hb := below_trans' HB3.out HB3.out.size hw3
  have HQ := Lib.hid hq
  clear q0 q1 q2 q3 q4 q5 q6 q7 q8 q9 q10 B7 h3 hw hq
  by_cases hr : r = 0
  rotate_left
  · have hrb : (r == 0) = false := beq_eq_false_iff_ne.2 hr
    have hrn : (r != 0) = true := bne_iff_ne.2 hr
    clear HC HD HE HF HN HK HLS HSR HL HOK
    simp only []
    go_at_K
    go_upto_region 3 with fail
    go_wp2_with (go_at_call 8; refine (cK.out _ hb).mono ?_; rintro e w9 ⟨rfl, hb9⟩)
    go_ret
    exact HP.out _ _ ⟨rfl, below_trans' hb hb.size hb9⟩
    all_goals (exfalso; rename_i hx _ _; have hy := hx.2; rw [hrn] at hy; cases hy)
  have hcl := HQ.out hr
  have HCL := Lib.hid hcl
  subst hr
  simp only []
  go_at_K
  go_upto_region 4 with fail
  clear hcl HC HQ cK1
  have B7 := HK.out w3 hw3
  have q0 := B7.cell 0 rfl
  have q1 := B7.cell 1 rfl
  have q2 := B7.cell 2 rfl
  have q3 := B7.cell 3 rfl
  have q4 := B7.cell 4 rfl
  have q5 := B7.cell 5 rfl
  have q6 := B7.cell 6 rfl
  have q7 := B7.cell 7 rfl
  have q8 := B7.cell 8 rfl
  have q9 := B7.cell 9 rfl
  have q10 := B7.cell 10 rfl
  have cA := HD.out w3 hw3 HCL.out
  go_upto_region 5 with (go_at_call 20; refine cA.mono ?_; rintro e w5 ⟨A1, c1, rfl, o1, hb5⟩)
  have hw5 := below_trans' hw3 hw3.size hb5
  have B7 := HK.out w5 hw5
  have cEn := HE.out w5 hw5 HCL.out
  clear q0 q1 q2 q3 q4 q5 q6 q7 q8 q9 q10 cA hb5 hw3 HD HE hb
  have q0 := B7.cell 0 rfl
  have q1 := B7.cell 1 rfl
  have q2 := B7.cell 2 rfl
  have q3 := B7.cell 3 rfl
  have q4 := B7.cell 4 rfl
  have q5 := B7.cell 5 rfl
  have q6 := B7.cell 6 rfl
  have q7 := B7.cell 7 rfl
  have q8 := B7.cell 8 rfl
  have q9 := B7.cell 9 rfl
  have q10 := B7.cell 10 rfl
  have cSE := Lib.hid (fun W A2 c2 (h1 : Sl W 6 enC A1 E.length E) (h2 : Sl W 6 enC A2 E.length E) => sameE_any A1 E.length c1 A2 c2 E W HEL.out h1 h2)
  go_upto_region 7 with (first | (go_at_call 22; refine cEn.mono ?_; rintro e w6 ⟨A2, c2, rfl, o2, hb6⟩; have cSE := cSE.out w6 A2 c2 ((o1.below hb6).sl enC_len) (o2.sl enC_len)) | (go_at_call 21; refine cSE.mono ?_; rintro e w7 ⟨rfl, hb7⟩))
  have hw7 := below_trans' (below_trans' hw5 hw5.size hb6) (below_trans' hw5 hw5.size hb6).size hb7
  have S1 := ((o1.below hb6).below hb7).sl enC_len
  clear q0 q1 q2 q3 q4 q5 q6 q7 q8 q9 q10 cEn cSE o1 o2 hb6 hb7 hw5 B7
  go_wp2_with fail
  go_loopw [9, 10] (fun vk vi wr => ∃ i : Nat, vk = .int .i64 (cnI (liP l) i : Nat) ∧ vi = .int .i64 i ∧ i ≤ n ∧ i ≤ 40 ∧ Below w7.heap.size w7 wr) (fun _ vi _ => n - (intOf vi).toNat)
  case atStart => exact ⟨0, rfl, rfl, Nat.zero_le _, Nat.zero_le _, Below.refl _ _⟩
  case round =>
    obtain ⟨i, rfl, rfl, hi, hi40, hbr⟩ := hrel
    have hwr := below_trans' hw7 hw7.size hbr
    have hbw := below_trans' HB3.out HB3.out.size hwr
    have B7 := HK.out wr hwr
    have q0 := B7.cell 0 rfl
    have q1 := B7.cell 1 rfl
    have q2 := B7.cell 2 rfl
    have q3 := B7.cell 3 rfl
    have q4 := B7.cell 4 rfl
    have q5 := B7.cell 5 rfl
    have q6 := B7.cell 6 rfl
    have q7 := B7.cell 7 rfl
    have q8 := B7.cell 8 rfl
    have q9 := B7.cell 9 rfl
    have q10 := B7.cell 10 rfl
    by_cases hlt : i < n ∧ i < 40
    · obtain ⟨hlt, hlt40⟩ := hlt
      obtain ⟨ad, eA, hadl, k0, k1, k2⟩ := (HL.out wr hbw).im hlt
      subst eA
      have him : i < mi := by rw [HYL.out, HLN.out]; omega
      have hox := gIm_ok HOK.out (l := l) (k := i) (by rw [HLN.out]; exact hlt)
      have hcs := cnI_succ (liP l) i
      have hlp : liP l i = decide ((gIm l i).li % 3 < 2) := rfl
      have cF := HF.out wr hwr HCL.out i him
      have hlt' : (i : Int) < n := by omega
      have hlt4' : (i : Int) < 40 := by omega
      have h3 : (gIm l i).li.tmod 3 = (gIm l i).li % 3 := Int.tmod_eq_emod_of_nonneg hox.li.1
      have hx0 := hox.li.1
      clear hox k1 k2
      generalize (gIm l i).li = xl at *
      go_upto_region 12 with (go_at_call 23; refine cF.mono ?_; rintro e w8 ⟨⟨v1, v2, v3, v4, v5⟩, cc, rfl, hfa, hb8⟩; rw [show enV ⟨v1, v2, v3, v4, v5⟩ = .agg #[.int .i64 0, .int .i64 v1, .int .i64 v2, .int .i64 v3, .int .i64 v4, .string v5] from rfl])
      have hal := alloc1 w8 (.cells #[.int .i64 0, .int .i64 v1, .int .i64 v2, .int .i64 v3, .int .i64 v4, .string v5] 73)
      have N11 := Blk.new w8 73 #[.int .i64 0, .int .i64 v1, .int .i64 v2, .int .i64 v3, .int .i64 v4, .string v5]
      have hb9 := below_trans' hb8 hb8.size hal
      have k0 := keepC hb9 k0
      have hbr := below_trans' hbr hbr.size hb9
      have hwr := below_trans' hwr hwr.size hb9
      clear q0 q1 q2 q3 q4 q5 q6 q7 q8 q9 q10 B7 cF hal hb8 hb9 hbw
      generalize w8.alloc (.cells #[.int .i64 0, .int .i64 v1, .int .i64 v2, .int .i64 v3, .int .i64 v4, .string v5] 73) = w9 at *
      generalize w8.heap.size = p11 at *
      by_cases hp : liP l i = true
      · obtain ⟨rfl, he, hk⟩ := HSR.out.yes him hp hfa
        rw [if_pos hp] at hcs
        have hx2 : ¬ xl % 3 = 2 := by
          rw [hlp] at hp
          have := of_decide_eq_true hp
          omega
        have hb2 : (xl % 3 == 2) = false := beq_eq_false_iff_ne.2 hx2
        obtain ⟨ad2, eE, hl2, g0, g1, g2, g3, g4, g5⟩ := (S1.below hbr).en hk
        subst eE
        rw [← he] at g1 g2 g3 g4 g5
        simp only at g1 g2 g3 g4 g5
        have HFI := Lib.hid (fun f ok (hf : FnR E v2 v5 f ok) => HSR.out.find hk (f := f) (ok := ok) (by rw [← he]; exact hf))
        rw [← he] at HFI
        simp only at HFI
        have HCS := Lib.hid hcs
        clear hcs he hfa hlp hp hx2
        generalize cnI (liP l) i = k at *
        have hk' : (k : Int) < E.length := by omega
        have hkc : decide ((E.length : Int) ≤ (k : Int)) = false := decide_eq_false (by omega)
        have heq := equalEn_self v1 v2 v3 v4 v5
        have n0 := N11.cell 0 rfl
        have n1 := N11.cell 1 rfl
        have n2 := N11.cell 2 rfl
        have n3 := N11.cell 3 rfl
        have n4 := N11.cell 4 rfl
        have n5 := N11.cell 5 rfl
        go_upto_region 15 with fail
        go_quiet (fail)
        have hdr := below_drewN (Below.refl w9.heap.size w9) nq
        have N11 := N11.below hdr
        have hbr := below_trans' hbr hbr.size hdr
        have hwr := below_trans' hwr hwr.size hdr
        clear k0 g0 g1 g2 g3 g4 g5 n0 n1 n2 n3 n4 n5 hdr heq
        generalize w9.drewN nq = wA at *
        have B7 := HK.out wA hwr
        have q0 := B7.cell 0 rfl
        have q1 := B7.cell 1 rfl
        have q2 := B7.cell 2 rfl
        have q3 := B7.cell 3 rfl
        have q4 := B7.cell 4 rfl
        have q5 := B7.cell 5 rfl
        have q6 := B7.cell 6 rfl
        have q7 := B7.cell 7 rfl
        have q8 := B7.cell 8 rfl
        have q9 := B7.cell 9 rfl
        have q10 := B7.cell 10 rfl
        have n2 := N11.cell 2 rfl
        have n5 := N11.cell 5 rfl
        have cN := HN.out wA hwr HCL.out v2 v5
        go_upto_region 18 with (go_at_call 24; refine cN.mono ?_; rintro e wB ⟨⟨u1, u2, u3, u4, u5⟩, ok, rfl, hfn, hbB⟩; rw [show enV ⟨u1, u2, u3, u4, u5⟩ = .agg #[.int .i64 0, .int .i64 u1, .int .i64 u2, .int .i64 u3, .int .i64 u4, .string u5] from rfl])
        obtain ⟨rfl, e2, e5, e1⟩ := HFI.out _ _ hfn
        simp only at e2 e5 e1
        have hal := alloc1 wB (.cells #[.int .i64 0, .int .i64 u1, .int .i64 u2, .int .i64 u3, .int .i64 u4, .string u5] 73)
        have N13 := Blk.new wB 73 #[.int .i64 0, .int .i64 u1, .int .i64 u2, .int .i64 u3, .int .i64 u4, .string u5]
        have hbC := below_trans' hbB hbB.size hal
        have N11 := N11.below hbC
        have hbr := below_trans' hbr hbr.size hbC
        clear q0 q1 q2 q3 q4 q5 q6 q7 q8 q9 q10 n2 n5 cN hal hbB hbC B7 hfn hwr
        generalize wB.alloc (.cells #[.int .i64 0, .int .i64 u1, .int .i64 u2, .int .i64 u3, .int .i64 u4, .string u5] 73) = wC at *
        generalize wB.heap.size = p13 at *
        subst e2
        subst e5
        have n1 := N11.cell 1 rfl
        have n2 := N11.cell 2 rfl
        have n5 := N11.cell 5 rfl
        have m1 := N13.cell 1 rfl
        have m2 := N13.cell 2 rfl
        have m5 := N13.cell 5 rfl
        have b1 : (u5 != u5) = false := bne_self_b u5
        have b2 : (u2 != u2) = false := bne_self_eq_false _
        have b3 : ¬ v1 < u1 := by omega
        have hEl := HEL.out
        have hwk : IntKind.i64.wrap ((k : Int) + 1) = (k : Int) + 1 := IntWalk.i64_in _ (by omega)
        go_wp2_with fail
        go_roundw
        case rel => exact ⟨i + 1, by rw [HCS.out]; rfl, by first | rfl | simp, hlt, hlt40, hbr⟩
        case measure => rw [intOf, intOf]; omega
      · have hp2 : liP l i = false := by simpa using hp
        obtain ⟨rfl, he⟩ := HSR.out.no hp2 hfa
        rw [if_neg hp] at hcs
        cases he
        have hx2 : xl % 3 = 2 := by
          rw [hlp] at hp2
          have := of_decide_eq_false hp2
          omega
        have hb2 : (xl % 3 == 2) = true := by rw [hx2]; rfl
        have HCS := Lib.hid hcs
        have heq := equalEn_self 0 0 0 0 ⟨#[]⟩
        clear hcs hfa hlp hp hp2 hx2
        have n0 := N11.cell 0 rfl
        have n1 := N11.cell 1 rfl
        have n2 := N11.cell 2 rfl
        have n3 := N11.cell 3 rfl
        have n4 := N11.cell 4 rfl
        have n5 := N11.cell 5 rfl
        go_wp2_with fail
        go_roundw
        case rel => exact ⟨i + 1, by rw [HCS.out]; rfl, by first | rfl | simp, hlt, hlt40, hbr⟩
        case measure => rw [intOf, intOf]; omega
    · have him : i = mi := by rw [HYL.out, HLN.out]; omega
      have hend := HSR.out.end_
      rw [← him] at hend
      rw [hend]
      have h2c : ((i : Int) < n ∧ ¬ (i : Int) < 40) ∨ ¬ (i : Int) < n := by omega
      have cN := HN.out wr hwr HCL.out 3 ⟨#[49, 46]⟩
      have be : ((E.length : Int) == (E.length : Int)) = true := beq_self_eq_true _
      clear hlt him hend
      rcases h2c with ⟨h1c, h2c⟩ | h2c
      all_goals
        go_wp2_with (go_at_call 24; refine cN.mono ?_; rintro e wB ⟨⟨u1, u2, u3, u4, u5⟩, ok, rfl, hfn, hbB⟩; obtain rfl := HSR.out.none hfn; rw [show enV ⟨u1, u2, u3, u4, u5⟩ = .agg #[.int .i64 0, .int .i64 u1, .int .i64 u2, .int .i64 u3, .int .i64 u4, .string u5] from rfl])
        go_ret
        exact HP.out _ _ ⟨rfl, below_trans' (below_trans' hbw hbw.size hbB) (below_trans' hbw hbw.size hbB).size (alloc1 wB _)⟩
end Go.Proofs.YthbodpjkckminaaGreatDoor
