/- The walk of the law TotalfitOptimal. -/
import Derived.Test.YtogbapdioccamaaE37
import Derived.Test.YtogbapdioccamaaE33
import Derived.Test.YtogbapdioccamaaE28
import Derived.Test.YtogbapdioccamaaE29
namespace Go.Proofs.Ytogbapdioccamaa
open Go.RowKit

theorem dem_lo {xs : List It} {x : Ln} {b : Nat} {a c : Int} (hx : LnOk x) (hc : -10000 ≤ (gT xs b).cost ∧ (gT xs b).cost ≤ 10000) (ho : 0 < x.over) : 9999000000000 ≤ demF 31680 xs x b a c := by
  rw [demF_eq]
  have h1 := sq_bd hx.bad (costE_bd hc)
  have h2 : 0 ≤ fl3 (flagAt xs a) (flagAt xs b) := by unfold fl3; split <;> omega
  have h3 : 0 ≤ cl3 x.cls c := by unfold cl3; split <;> omega
  have h4 : 10000000000000 ≤ ov x.over := by unfold ov; rw [if_pos ho]; omega
  omega
theorem dem_hi {xs : List It} {x : Ln} {b : Nat} {a c : Int} (hx : LnOk x) (hc : -10000 ≤ (gT xs b).cost ∧ (gT xs b).cost ≤ 10000) (ho : ¬ 0 < x.over) : demF 31680 xs x b a c ≤ 410000000 := by
  rw [demF_eq]
  have h1 := sq_bd hx.bad (costE_bd hc)
  have h2 : fl3 (flagAt xs a) (flagAt xs b) ≤ 3000 := by unfold fl3; split <;> omega
  have h3 : cl3 x.cls c ≤ 3000 := by unfold cl3; split <;> omega
  have h4 : ov x.over = 0 := by unfold ov; rw [if_neg ho]
  omega
section
variable {xs : List It} {ms : List Int} {n m : Nat} {bl : List Nat}
theorem ovC_lines (k : Nat) : ovC (linesN xs ms bl (k + 1)) = ovC (linesN xs ms bl k) + (if 0 < (lnAt xs ms bl k).over then 1 else 0) := by
  rw [linesN_succ, ovC_snoc]
  rfl
theorem cost_none (hok : ∀ k, k < bl.length → LnOk (lnAt xs ms bl k)) (hc : ∀ k, k < bl.length → -10000 ≤ (gT xs (gN bl k)).cost ∧ (gT xs (gN bl k)).cost ≤ 10000) : ∀ k, k ≤ bl.length → ovC (linesN xs ms bl k) = 0 → costN xs ms bl k ≤ 410000000 * (k : Int)
  | 0, _, _ => by simp [costN]
  | k + 1, hk, h => by
    rw [ovC_lines] at h
    have h1 := cost_none hok hc k (by omega) (by omega)
    have h2 : ¬ 0 < (lnAt xs ms bl k).over := fun h3 => by rw [if_pos h3] at h; omega
    have h3 : demAt xs ms bl k ≤ 410000000 := dem_hi (hok k (by omega)) (hc k (by omega)) h2
    unfold costN
    omega
theorem cost_some (hok : ∀ k, k < bl.length → LnOk (lnAt xs ms bl k)) (hc : ∀ k, k < bl.length → -10000 ≤ (gT xs (gN bl k)).cost ∧ (gT xs (gN bl k)).cost ≤ 10000) : ∀ k, k ≤ bl.length → 0 < ovC (linesN xs ms bl k) → 9999000000000 - 200000000 * (k : Int) ≤ costN xs ms bl k
  | 0, _, h => by simp [linesN, ovC] at h
  | k + 1, hk, h => by
    rw [ovC_lines] at h
    have hd : -200000000 ≤ demAt xs ms bl k := (dem_bd (hok k (by omega)) (hc k (by omega))).1
    have hb := costN_bd (xs := xs) (ms := ms) (bl := bl) (fun k hk => dem_bd (hok k hk) (hc k hk)) (k := k) (by omega)
    unfold costN
    by_cases h2 : 0 < (lnAt xs ms bl k).over
    · have h3 : 9999000000000 ≤ demAt xs ms bl k := dem_lo (hok k (by omega)) (hc k (by omega)) h2
      omega
    · rw [if_neg h2] at h
      have h1 := cost_some hok hc k (by omega) (by omega)
      omega
theorem brk_ok (h : BrOk xs n bl) : brk xs (ints bl) = 0 := by
  refine brk_zero (fun j hj => ?_) (fun i hi => ?_)
  · rw [ints_len] at hj
    have hp := h.pos _ (gN_mem hj)
    obtain ⟨h1, h2⟩ := posN_mem.1 hp
    refine badB_no (by rw [gI_ints hj, posI_at h1, h2]) ?_
    by_cases hj0 : j = 0
    · exact .inl hj0
    · refine .inr ?_
      rw [gI_ints hj, gI_ints (by omega)]
      have := h.rise.2 (j - 1) (by omega)
      rw [show j - 1 + 1 = j by omega] at this
      omega
  · unfold missB
    cases hf : forI xs (i : Int)
    · rfl
    · rw [forI_at hi] at hf
      simp only [Bool.and_eq_true, decide_eq_true_eq] at hf
      have hp : i ∈ posN xs := posN_mem.2 ⟨hi, by unfold posB; rw [decide_eq_true hf.1, decide_eq_true (by rw [hf.2]; omega)]; rfl⟩
      have hb := h.all i hp (by unfold forcedI; rw [hf.1, hf.2]; rfl)
      have : (i : Int) ∈ ints bl := List.mem_map.2 ⟨i, hb, rfl⟩
      rw [decide_eq_true this]
      rfl
theorem brok_len (hl : xs.length = n) (h : BrOk xs n bl) : bl.length ≤ n := by

  have h1 := (sub_of _ _ h.rise.pair (posN_sorted xs) h.pos).length_le
  have h2 := posT_len xs xs.length
  unfold posN at h1
  omega
theorem Good.oks (G : Good xs ms n m) (hl : xs.length = n) (hml : ms.length = m) (h : BrOk xs n bl) : (∀ k, k < bl.length → LnOk (lnAt xs ms bl k)) ∧ ∀ k, k < bl.length → -10000 ≤ (gT xs (gN bl k)).cost ∧ (gT xs (gN bl k)).cost ≤ 10000 :=
  ⟨fun k hk => line_ok hl hml G.m0 (h.rise.1 k hk) G.n1 G.R G.M, fun k hk => ⟨(G.R _ (h.rise.1 k hk)).c0, (G.R _ (h.rise.1 k hk)).c1⟩⟩
/-- if some right breaks have no overfull line, the best have none. -/
theorem Good.over (G : Good xs ms n m) (hl : xs.length = n) (hml : ms.length = m) (h60 : n ≤ 60) {t : List Nat} (ht : t ∈ seqM xs (posN xs)) (h0 : ovC (linesN xs ms t t.length) = 0) : ovC (linesN xs ms (breaksL xs ms) (breaksL xs ms).length) = 0 := by
  rcases Nat.eq_zero_or_pos (ovC (linesN xs ms (breaksL xs ms) (breaksL xs ms).length)) with h | h
  · exact h
  · have hb := brok_of_seq hl ht
    obtain ⟨o1, c1⟩ := G.oks hl hml hb
    obtain ⟨o2, c2⟩ := G.oks hl hml (G.brok hl)
    have h1 := cost_none o1 c1 t.length (Nat.le_refl _) h0
    have h2 := cost_some o2 c2 _ (Nat.le_refl _) h
    have h3 := G.le hl ht
    rw [← costN_cos] at h3
    have h4 := (G.seq hl).2
    rw [← costN_cos] at h4
    have l1 := brok_len hl hb
    have l2 := brok_len hl (G.brok hl)
    omega
end

set_option maxRecDepth 100000 in
set_option maxHeartbeats 2000000 in
theorem law_optimal (A B C : Option Addr) (n c m d k e0 : Nat) (xs : List It) (ms ch : List Int) (w : World) (ha : Sl w 6 itC A n xs) (hb : Sl w 1 intC B m ms) (hC : Sl w 1 byteC C k ch) (hn : n ≤ c ∧ c ≤ maxLen) (hm : m ≤ d ∧ d ≤ maxLen) (hk : k ≤ e0 ∧ e0 ≤ maxLen) (hch : ∀ x ∈ ch, 0 ≤ x ∧ x ≤ 255) :
    Calls Try.prog 6 #[.slice A n c, .slice B m d, .slice C k e0] w fun e w' => e = .returned (.bool true) ∧ Below w.heap.size w w' := by
  have c1 := fun W => cut_any A n c W hn.1 hn.2
  have c2 := fun W => few_any B m d W hm.1 hm.2
  have ha' := ha.take (k := min n 60) (Nat.min_le_left _ _)
  have hb' := hb.take (k := min m 10) (Nat.min_le_left _ _)
  have h60 : min n 60 ≤ 60 := Nat.min_le_right _ _
  have h10 : min m 10 ≤ 10 := Nat.min_le_right _ _
  have hkm : k ≤ maxLen := by omega
  generalize xs.take (min n 60) = xs' at *
  generalize ms.take (min m 10) = ms' at *
  generalize min n 60 = n' at *
  generalize min m 10 = m' at *
  have hxl := ha'.len
  have hml := hb'.len
  have kb := fun W h1 h2 => both_any A B n' m' c d xs' ms' W h1 h2 (by omega) (by omega)
  have k1 := fun W h1 h2 => Breaks_any prepOk A B n' m' c d xs' ms' W h1 h2 (by omega) (by omega)
  have k2 := fun W h1 h2 => Best_any prepOk A B n' m' c d xs' ms' W h1 h2 (by omega) (by omega)
  clear ha hb hn hm hk
  by_cases h0 : chkB xs' ms' = 0
  · have G := chkB_good hxl hml (by omega) h0
    have hbr := G.brok hxl
    have hlen := brok_len hxl hbr
    have hbk := brk_ok hbr
    have hcs : costN xs' ms' (breaksL xs' ms') (breaksL xs' ms').length = bestV xs' ms' := by rw [costN_cos]; exact (G.seq hxl).2
    have k3 := fun A2 c3 W h1 h2 => mcheckBreaks_any A A2 n' (breaksL xs' ms').length c c3 xs' (ints (breaksL xs' ms')) W h1 h2 (by omega) (by omega)
    have k4 := fun A2 c3 W h1 h2 h3 => mlines_any A B A2 n' m' (breaksL xs' ms').length c d c3 (breaksL xs' ms') xs' ms' W h1 h2 h3 hbr.rise (by omega) ⟨G.m0, by omega⟩ (by omega) G.R G.M
    have k5 := fun W h1 h2 => chosen_any A C n' c k e0 xs' ch W h1 h2 (by omega) hch hkm
    have k6 := fun t (ht : t ∈ seqM xs' (posN xs')) A2 c3 W h1 h2 h3 => mlines_any A B A2 n' m' t.length c d c3 t xs' ms' W h1 h2 h3 (brok_of_seq hxl ht).rise (by omega) ⟨G.m0, by omega⟩ (by have := brok_len hxl (brok_of_seq hxl ht); omega) G.R G.M
    have hle := fun t (ht : t ∈ seqM xs' (posN xs')) => G.le hxl ht
    have hov := fun t (ht : t ∈ seqM xs' (posN xs')) => G.over hxl hml h60 ht
    have hlt := fun t (ht : t ∈ seqM xs' (posN xs')) => brok_len hxl (brok_of_seq hxl ht)
    rw [hbk] at k3
    rw [hcs] at k4
    simp only [h0, if_true] at kb k1 k2
    have HLE := Lib.hid hle
    have HOV := Lib.hid hov
    have HLT := Lib.hid hlt
    have HK6 := Lib.hid k6
    clear hle hov hlt k6 hcs hbk hbr G h0
    generalize hBL : breaksL xs' ms' = BL at *
    generalize hLX : linesN xs' ms' BL BL.length = LX at *
    generalize hBE : bestV xs' ms' = be at *
    clear hBL hLX hBE
    have hbw := Below.refl w.heap.size w
    go_enter Try.func6, Try.ntmps6
    go_upto_region 10 with (first
      | (go_at_call 12; refine (c1 _).mono ?_; rintro e w1 ⟨rfl, rfl⟩)
      | (go_at_call 13; refine (c2 _).mono ?_; rintro e w1 ⟨rfl, rfl⟩)
      | (go_at_call 14; refine (known_of prepOk _).mono ?_; rintro e w2 ⟨rfl, h9⟩; have hbw := below_trans' hbw hbw.size h9)
      | (go_at_call 24; refine (kb _ (ha'.below hbw) (hb'.below hbw)).mono ?_; rintro e w3 ⟨rfl, h9⟩; have hbw := below_trans' hbw hbw.size h9)
      | (go_at_call 22; refine (k1 _ (ha'.below hbw) (hb'.below hbw)).mono ?_; rintro e w4 ⟨A4, c4, rfl, ho4, h9⟩; have hbw := below_trans' hbw hbw.size h9; have hs4 := ho4.sl intC_len)
      | (go_at_call 23; refine (k2 _ (ha'.below hbw) (hb'.below hbw)).mono ?_; rintro e w5 ⟨rfl, h9⟩; have hbw := below_trans' hbw hbw.size h9; have hs4 := hs4.below h9)
      | (go_at_call 26; refine (k3 A4 c4 _ (ha'.below hbw) hs4).mono ?_; rintro e w6 ⟨rfl, h9⟩; have hbw := below_trans' hbw hbw.size h9; have hs4 := hs4.below h9)
      | (go_at_call 27; refine (k4 A4 c4 _ (ha'.below hbw) (hb'.below hbw) hs4).mono ?_; rintro e w7 ⟨A7, c7, rfl, ho7, h9⟩; have hbw := below_trans' hbw hbw.size h9; have hs7 := ho7.sl lnC_len; clear hs4)
      | (go_at_call 28; refine (k5 _ (ha'.below hbw) (hC.below hbw)).mono ?_; rintro e w8 ⟨t, A8, c8, rfl, ho8, ht, h9⟩; have hbw := below_trans' hbw hbw.size h9; have hs7 := hs7.below h9; have hs8 := ho8.sl intC_len)
      | (go_at_call 27; refine (HK6.out t ht A8 c8 _ (ha'.below hbw) (hb'.below hbw) hs8).mono ?_; rintro e w9 ⟨A9, c9, rfl, ho9, h9⟩; have hbw := below_trans' hbw hbw.size h9; have hs7 := hs7.below h9; have hs9 := ho9.sl lnC_len))
    have hge := HLE.out t ht
    rw [← costN_cos] at hge
    have hovt := HOV.out t ht
    have htl := HLT.out t ht
    have o1 := fun W h => over_any A9 t.length c9 (linesN xs' ms' t t.length) W h (by omega)
    have o2 := fun W h => over_any A7 BL.length c7 LX W h (by omega)
    generalize costN xs' ms' t t.length = ct at *
    generalize linesN xs' ms' t t.length = LY at *
    have hge1 : decide (be ≤ ct) = true := decide_eq_true hge
    clear hge ho4 ho7 ho8 ho9 k1 k2 k3 k4 k5 kb HLE HOV HLT HK6
    by_cases hy : ovC LY = 0
    · rw [hy] at o1
      rw [hovt hy] at o2
      clear hy hovt
      go_wp2_with (first
        | (go_at_call 29; refine (o1 _ hs9).mono ?_; rintro e w10 ⟨rfl, h9⟩; have hbw := below_trans' hbw hbw.size h9; have hs7 := hs7.below h9; clear hs9)
        | (go_at_call 29; refine (o2 _ hs7).mono ?_; rintro e w11 ⟨rfl, h9⟩; have hbw := below_trans' hbw hbw.size h9))
      go_ret
      exact ⟨rfl, hbw⟩
    · have hy1 : 0 < ovC LY := by omega
      have hy2 : decide (0 < ovC LY) = true := decide_eq_true hy1
      clear hovt hy
      go_wp2_with (first
        | (go_at_call 29; refine (o1 _ hs9).mono ?_; rintro e w10 ⟨rfl, h9⟩; have hbw := below_trans' hbw hbw.size h9; clear hs9))
      go_ret
      exact ⟨rfl, hbw⟩
  · have h1 : (chkB xs' ms' != 0) = true := by simpa using h0
    clear k1 k2 h0
    generalize chkB xs' ms' = v at *
    have hbw := Below.refl w.heap.size w
    go_enter Try.func6, Try.ntmps6
    go_wp2_with (first
      | (go_at_call 12; refine (c1 _).mono ?_; rintro e w1 ⟨rfl, rfl⟩)
      | (go_at_call 13; refine (c2 _).mono ?_; rintro e w1 ⟨rfl, rfl⟩)
      | (go_at_call 14; refine (known_of prepOk _).mono ?_; rintro e w2 ⟨rfl, h9⟩; have hbw := below_trans' hbw hbw.size h9)
      | (go_at_call 24; refine (kb _ (ha'.below hbw) (hb'.below hbw)).mono ?_; rintro e w3 ⟨rfl, h9⟩; have hbw := below_trans' hbw hbw.size h9))
    go_ret
    exact ⟨rfl, hbw⟩
end Go.Proofs.Ytogbapdioccamaa
