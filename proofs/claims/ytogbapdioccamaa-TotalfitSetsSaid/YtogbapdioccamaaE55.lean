/- The walk of the law TotalfitSets. -/
import Derived.Test.YtogbapdioccamaaE54
import Derived.Test.YtogbapdioccamaaE38
namespace Go.Proofs.Ytogbapdioccamaa
open Go.RowKit

theorem Set_r (A : Option Addr) (n c : Nat) (xs : List It) (l0 l1 : Int) (w : World) (ha : Sl w 6 itC A n xs) (hnc : n ≤ c) (hn : n ≤ 4096) (h0 : chk xs = 0) (h : 0 ≤ l0 ∧ l0 ≤ l1 ∧ l1 ≤ n) :
    Calls Try.prog 35 #[.slice A n c, lnV ⟨l0, l1, 0, 1, 0, 0, 0, 0, 0, 0⟩] w fun e w' => ∃ A' c' k, ((k : Nat) : Int) = l1 - l0 ∧ e = .returned (.tuple #[.slice A' k c', .int .i64 0]) ∧ Below w.heap.size w w' := by
  obtain ⟨f, rfl⟩ : ∃ f : Nat, l0 = f := ⟨l0.toNat, by omega⟩
  obtain ⟨k, rfl⟩ : ∃ k : Nat, l1 = (f + k : Nat) := ⟨(l1 - f).toNat, by omega⟩
  by_cases hc : f < c
  · refine (Set_any A n c f k xs ⟨f, (f + k : Nat), 0, 1, 0, 0, 0, 0, 0, 0⟩ w ha hnc hn h0 rfl rfl (by omega) hc (show (-1000000000 : Int) ≤ 1 - 0 ∧ (1 : Int) - 0 ≤ 31680 from by omega)).mono fun e w' h => ?_
    obtain ⟨A', c', h1, _, h3⟩ := h
    exact ⟨A', c', k, by omega, h1, h3⟩
  · obtain rfl : f = n := by omega
    obtain rfl : c = f := by omega
    obtain rfl : k = 0 := by omega
    refine (Set_end A c xs ⟨c, (c + 0 : Nat), 0, 1, 0, 0, 0, 0, 0, 0⟩ w ha hn h0 rfl rfl (show (-1000000000 : Int) ≤ 1 - 0 ∧ (1 : Int) - 0 ≤ 31680 from by omega)).mono fun e w' h => ?_
    exact ⟨none, 0, 0, by omega, h.1, h.2⟩

theorem line_D {xs : List It} {ms : List Int} {n m b k : Nat} {a : Int} (G : Good xs ms n m) (hl : xs.length = n) (hml : ms.length = m) (hb : b < n) :
    -1000000000 ≤ (lineF xs ms a b k).meas - (lineF xs ms a b k).width ∧ (lineF xs ms a b k).meas - (lineF xs ms a b k).width ≤ 31680 := by
  have h1 := meas_bd (k := k) hml G.m0 G.M
  have hf := fromOf_le xs a b
  have h2 := sumW_bd (xs := xs) (fr := fromOf xs a b) G.R (b - fromOf xs a b) (by omega)
  rw [show fromOf xs a b + (b - fromOf xs a b) = b by omega] at h2
  have hw0 := (G.R b hb).w0
  have hw1 := (G.R b hb).w1
  have := G.n1
  show -1000000000 ≤ measOf ms k - widthOf xs (fromOf xs a b) b ∧ measOf ms k - widthOf xs (fromOf xs a b) b ≤ 31680
  unfold widthOf
  split <;> omega

set_option maxRecDepth 100000 in
set_option maxHeartbeats 4000000 in
theorem law_sets (A B : Option Addr) (n c m d : Nat) (l0 l1 : Int) (xs : List It) (ms : List Int) (w : World) (ha : Sl w 6 itC A n xs) (hb : Sl w 1 intC B m ms) (hn : n ≤ c ∧ c ≤ maxLen) (hm : m ≤ d ∧ d ≤ maxLen) (hl0 : -9223372036854775808 ≤ l0 ∧ l0 ≤ 9223372036854775807) (hl1 : -9223372036854775808 ≤ l1 ∧ l1 ≤ 9223372036854775807) :
    Calls Try.prog 11 #[.slice A n c, .slice B m d, .agg #[.int .i64 l0, .int .i64 l1]] w fun e w' => e = .returned (.bool true) ∧ Below w.heap.size w w' := by
  have c1 := fun W => cut_any A n c W hn.1 hn.2
  have c2 := fun W => few_any B m d W hm.1 hm.2
  have ha' := ha.take (k := min n 60) (Nat.min_le_left _ _)
  have hb' := hb.take (k := min m 10) (Nat.min_le_left _ _)
  have h60 : min n 60 ≤ 60 := Nat.min_le_right _ _
  have h10 : min m 10 ≤ 10 := Nat.min_le_right _ _
  have hnc : min n 60 ≤ c := by omega
  generalize xs.take (min n 60) = xs' at *
  generalize ms.take (min m 10) = ms' at *
  generalize min n 60 = n' at *
  generalize min m 10 = m' at *
  have hxl := ha'.len
  have hml := hb'.len
  have kb := fun W h1 h2 => both_any A B n' m' c d xs' ms' W h1 h2 (by omega) (by omega)
  clear ha hb hn hm
  have hs := Blk.new w 63 #[.int .i64 l0, .int .i64 l1]
  have hbw := (Below.refl w.heap.size w).alloc (Nat.le_refl _) (.cells #[.int .i64 l0, .int .i64 l1] 63)
  by_cases h0 : chkB xs' ms' = 0
  · have G := chkB_good hxl hml (by omega) h0
    have hc0 : chk xs' = 0 := by
      rcases Classical.em (chk xs' = 0) with e | e
      · exact e
      · unfold chkB at h0
        rw [if_pos e] at h0
        exact absurd h0 e
    have hbr := G.brok hxl
    have hlen := brok_len hxl hbr
    have hbk := brk_ok hbr
    rw [h0] at kb
    have k1 := fun W h1 h2 => Breaks_any prepOk A B n' m' c d xs' ms' W h1 h2 (by omega) (by omega)
    simp only [h0, if_true] at k1
    have k3 := fun A2 c3 W h1 h2 => mcheckBreaks_any A A2 n' (breaksL xs' ms').length c c3 xs' (ints (breaksL xs' ms')) W h1 h2 (by omega) (by omega)
    rw [hbk] at k3
    have k4 := fun A2 c3 W h1 h2 h3 => mlines_any A B A2 n' m' (breaksL xs' ms').length c d c3 (breaksL xs' ms') xs' ms' W h1 h2 h3 hbr.rise (by omega) ⟨G.m0, by omega⟩ (by omega) G.R G.M
    have kS : ∀ i, i < (breaksL xs' ms').length → ∃ k, ∀ W, Sl W 6 itC A n' xs' → Calls Try.prog 35 #[.slice A n' c, lnV (gL (linesN xs' ms' (breaksL xs' ms') (breaksL xs' ms').length) i)] W fun e w' => ∃ A' c', e = .returned (.tuple #[.slice A' k c', .int .i64 0]) ∧ (∀ W2, Below w'.heap.size w' W2 → Sl W2 6 itC A n' xs' → Calls Try.prog 36 #[.slice A n' c, lnV (gL (linesN xs' ms' (breaksL xs' ms') (breaksL xs' ms').length) i), .slice A' k c'] W2 fun e w' => e = .returned (.bool true) ∧ Below W2.heap.size W2 w') ∧ Below W.heap.size W w' := fun i hi => by
      rw [gL_lines hi]
      have hbi := hbr.rise.1 i hi
      have hai := hbr.rise.a hi
      have hf := fromOf_le xs' (aAt (breaksL xs' ms') i) (gN (breaksL xs' ms') i)
      have hD := line_D (a := aAt (breaksL xs' ms') i) (k := i) G hxl hml hbi
      have hfin := fin_ok (xs := xs') (ms := ms') (a := aAt (breaksL xs' ms') i) (k0 := i) (k := gN (breaksL xs' ms') i - fromOf xs' (aAt (breaksL xs' ms') i) (gN (breaksL xs' ms') i)) G.R hbi (by omega)
      refine ⟨gN (breaksL xs' ms') i - fromOf xs' (aAt (breaksL xs' ms') i) (gN (breaksL xs' ms') i), fun W hW => ?_⟩
      have e2 : (withD (lnAt xs' ms' (breaksL xs' ms') i) (demAt xs' ms' (breaksL xs' ms') i)).to = ((fromOf xs' (aAt (breaksL xs' ms') i) (gN (breaksL xs' ms') i) + (gN (breaksL xs' ms') i - fromOf xs' (aAt (breaksL xs' ms') i) (gN (breaksL xs' ms') i)) : Nat) : Int) := by
        rw [show fromOf xs' (aAt (breaksL xs' ms') i) (gN (breaksL xs' ms') i) + (gN (breaksL xs' ms') i - fromOf xs' (aAt (breaksL xs' ms') i) (gN (breaksL xs' ms') i)) = gN (breaksL xs' ms') i by omega]
        rfl
      refine (Set_any A n' c (fromOf xs' (aAt (breaksL xs' ms') i) (gN (breaksL xs' ms') i)) _ xs' (withD (lnAt xs' ms' (breaksL xs' ms') i) (demAt xs' ms' (breaksL xs' ms') i)) W hW hnc (by omega) hc0 rfl e2 (by omega) (by omega) hD).mono fun e w' h => ?_
      obtain ⟨A', c', h1, h2, h3⟩ := h
      refine ⟨A', c', h1, fun W2 hb2 hW2 => ?_, h3⟩
      exact mset_any A A' n' c (fromOf xs' (aAt (breaksL xs' ms') i) (gN (breaksL xs' ms') i)) _ (gN (breaksL xs' ms') i) (gN (breaksL xs' ms') i) c' xs' (withD (lnAt xs' ms' (breaksL xs' ms') i) (demAt xs' ms' (breaksL xs' ms') i)) W2 hW2 ((h2.below hb2).sl intC_len) (by omega) G.R rfl rfl rfl (by omega) (by omega) hbi hD hfin
    have kR := fun W h (hr : 0 ≤ l0 ∧ l0 ≤ l1 ∧ l1 ≤ n') => Set_r A n' c xs' l0 l1 W h hnc (by omega) hc0 hr
    have kB := fun W h (hr : ¬ (0 ≤ l0 ∧ l0 ≤ l1 ∧ l1 ≤ n')) => Set_bad A n' c xs' ⟨l0, l1, 0, 1, 0, 0, 0, 0, 0, 0⟩ W h (by omega) hc0 hr
    have KS := Lib.hid kS
    have KR := Lib.hid kR
    have KB := Lib.hid kB
    clear kS kR kB hbr hbk G h0 hc0
    generalize costN xs' ms' (breaksL xs' ms') (breaksL xs' ms').length = ct at *
    generalize linesN xs' ms' (breaksL xs' ms') (breaksL xs' ms').length = LX at *
    generalize breaksL xs' ms' = BL at *
    go_enter Try.func11, Try.ntmps11
    go_upto_region 1 with fail
    generalize (w.alloc (.cells #[.int .i64 l0, .int .i64 l1] 63)) = W0 at *
    have B1 := hs
    go_wp2_with (first
      | (go_at_call 12; refine (c1 _).mono ?_; rintro e w1 ⟨rfl, rfl⟩)
      | (go_at_call 13; refine (c2 _).mono ?_; rintro e w1 ⟨rfl, rfl⟩)
      | (go_at_call 14; refine (known_of prepOk _).mono ?_; rintro e w2 ⟨rfl, h9⟩; have hbw := below_trans' hbw hbw.size h9; have B1 := B1.below h9; clear h9)
      | (go_at_call 24; refine (kb _ (ha'.below hbw) (hb'.below hbw)).mono ?_; rintro e w3 ⟨rfl, h9⟩; have hbw := below_trans' hbw hbw.size h9; have B1 := B1.below h9; clear h9)
      | (go_at_call 22; refine (k1 _ (ha'.below hbw) (hb'.below hbw)).mono ?_; rintro e w4 ⟨A4, c4, rfl, ho4, h9⟩; have hbw := below_trans' hbw hbw.size h9; have hs4 := ho4.sl intC_len; have B1 := B1.below h9; clear h9 ho4)
      | (go_at_call 26; refine (k3 A4 c4 _ (ha'.below hbw) hs4).mono ?_; rintro e w6 ⟨rfl, h9⟩; have hbw := below_trans' hbw hbw.size h9; have hs4 := hs4.below h9; have B1 := B1.below h9; clear h9)
      | (go_at_call 27; refine (k4 A4 c4 _ (ha'.below hbw) (hb'.below hbw) hs4).mono ?_; rintro e w7 ⟨A7, c7, rfl, ho7, h9⟩; have hbw := below_trans' hbw hbw.size h9; have hs7 := ho7.sl lnC_len; have B1 := B1.below h9; clear h9 hs4 ho7))
    clear kb k1 k3 k4 c1 c2 hs
    go_loopw [11] (fun vi wr => ∃ i : Nat, i ≤ BL.length ∧ vi = .int .i64 i ∧ Below w7.heap.size w7 wr) (fun vi _ => BL.length - (intOf vi).toNat)
    case atStart => exact ⟨0, Nat.zero_le _, rfl, Below.refl _ _⟩
    case round =>
      obtain ⟨i, hi, rfl, hbr⟩ := hrel
      have hx := hs7.below hbr
      have hbz := below_trans' hbw hbw.size hbr
      by_cases hil : i < BL.length
      · obtain ⟨k, kS⟩ := KS.out i hil
        have hln : ∀ W, Below w7.heap.size w7 W → ∃ ad, A7 = some ad ∧ ad.block < W.heap.size ∧ W.cell? (ad.add (i * 10)) = some (.int .i64 (gL LX i).fr) ∧ (∀ j u, 0 < j → (lnC (gL LX i))[j]? = some u → W.cell? ⟨(ad.add (i * 10)).block, (ad.add (i * 10)).off + j, none⟩ = some u) := fun W hW => (hs7.below hW).ln hil
        have HLN := Lib.hid hln
        clear hln
        generalize gL LX i = x at *
        obtain ⟨xf, xt, xb, xm, xw, xr, xc, xbad, xo, xd⟩ := x
        unfold lnV at kS
        unfold lnC at HLN
        simp only at kS
        obtain ⟨ad, rfl, hla, q0, hq⟩ := HLN.out _ hbr
        have q1 := hq 1 _ (by omega) rfl
        have q2 := hq 2 _ (by omega) rfl
        have q3 := hq 3 _ (by omega) rfl
        have q4 := hq 4 _ (by omega) rfl
        have q5 := hq 5 _ (by omega) rfl
        have q6 := hq 6 _ (by omega) rfl
        have q7 := hq 7 _ (by omega) rfl
        have q8 := hq 8 _ (by omega) rfl
        have q9 := hq 9 _ (by omega) rfl
        have KK := Lib.hid kS
        clear hq kS
        go_upto_region 12 with (first
          | (go_at_call 35; refine (KK.out _ (ha'.below hbz)).mono ?_; rintro e w8 ⟨A8, c8, rfl, kT, h8⟩))
        have hbr8 := below_trans' hbr hbr.size h8
        have kU := kT w8 (Below.refl _ _) ((ha'.below hbz).below h8)
        obtain ⟨ad', e', -, p0, hp⟩ := HLN.out _ hbr8
        injection e' with e'
        subst e'
        have p1 := hp 1 _ (by omega) rfl
        have p2 := hp 2 _ (by omega) rfl
        have p3 := hp 3 _ (by omega) rfl
        have p4 := hp 4 _ (by omega) rfl
        have p5 := hp 5 _ (by omega) rfl
        have p6 := hp 6 _ (by omega) rfl
        have p7 := hp 7 _ (by omega) rfl
        have p8 := hp 8 _ (by omega) rfl
        have p9 := hp 9 _ (by omega) rfl
        clear q0 q1 q2 q3 q4 q5 q6 q7 q8 q9 hp kT
        go_wp2_with (first
          | (go_at_call 36; refine kU.mono ?_; rintro e w9 ⟨rfl, h9⟩))
        go_roundw
        case rel => exact ⟨i + 1, by omega, by go_num, below_trans' hbr8 hbr8.size h9⟩
        case measure => simp [intOf]; omega
      · have hib : i = BL.length := by omega
        subst hib
        have B2 := B1.below hbr
        have q0 : wr.cell? ⟨w.heap.size, 0, none⟩ = some (.int .i64 l0) := B2.cell 0 rfl
        have q1 : wr.cell? ⟨w.heap.size, 1, none⟩ = some (.int .i64 l1) := B2.cell 1 rfl
        by_cases hr : 0 ≤ l0 ∧ l0 ≤ l1 ∧ l1 ≤ n'
        · have kR := KR.out wr (ha'.below hbz) hr
          have e1 : decide (0 ≤ l0) = true := decide_eq_true hr.1
          have e2 : decide (l0 ≤ l1) = true := decide_eq_true hr.2.1
          have e3 : decide (l1 ≤ (n' : Int)) = true := decide_eq_true hr.2.2
          unfold lnV at kR
          simp only at kR
          go_upto_region 15 with (first
            | (go_at_call 35; refine kR.mono ?_; rintro e w8 ⟨A8, c8, k8, hk8, rfl, h8⟩))
          have B3 := B2.below h8
          have p0 : w8.cell? ⟨w.heap.size, 0, none⟩ = some (.int .i64 l0) := B3.cell 0 rfl
          have p1 : w8.cell? ⟨w.heap.size, 1, none⟩ = some (.int .i64 l1) := B3.cell 1 rfl
          have e4 : ((k8 : Int) == l1 - l0) = true := by rw [hk8]; simp
          clear q0 q1 hk8
          go_wp2_with fail
          go_ret
          exact ⟨rfl, below_trans' hbz hbz.size h8⟩
        · have kB := KB.out wr (ha'.below hbz) hr
          unfold lnV at kB
          simp only at kB
          have hfin : (decide (0 ≤ l0) = false) ∨ (decide (0 ≤ l0) = true ∧ decide (l0 ≤ l1) = false) ∨ (decide (0 ≤ l0) = true ∧ decide (l0 ≤ l1) = true ∧ decide (l1 ≤ (n' : Int)) = false) := by
            by_cases h1 : 0 ≤ l0
            · by_cases h2 : l0 ≤ l1
              · exact .inr (.inr ⟨decide_eq_true h1, decide_eq_true h2, decide_eq_false (fun h3 => hr ⟨h1, h2, h3⟩)⟩)
              · exact .inr (.inl ⟨decide_eq_true h1, decide_eq_false h2⟩)
            · exact .inl (decide_eq_false h1)
          clear hr
          go_upto_region 15 with (first
            | (go_at_call 35; refine kB.mono ?_; rintro e w8 ⟨rfl, h8⟩))
          have B3 := B2.below h8
          have p0 : w8.cell? ⟨w.heap.size, 0, none⟩ = some (.int .i64 l0) := B3.cell 0 rfl
          have p1 : w8.cell? ⟨w.heap.size, 1, none⟩ = some (.int .i64 l1) := B3.cell 1 rfl
          clear q0 q1
          rcases hfin with e1 | ⟨e1, e2⟩ | ⟨e1, e2, e3⟩
          · go_wp2_with fail
            go_ret
            exact ⟨rfl, below_trans' hbz hbz.size h8⟩
          · go_wp2_with fail
            go_ret
            exact ⟨rfl, below_trans' hbz hbz.size h8⟩
          · go_wp2_with fail
            go_ret
            exact ⟨rfl, below_trans' hbz hbz.size h8⟩
  · have h1 : (chkB xs' ms' != 0) = true := by simpa using h0
    clear h0
    generalize chkB xs' ms' = v at *
    go_enter Try.func11, Try.ntmps11
    go_wp2_with (first
      | (go_at_call 12; refine (c1 _).mono ?_; rintro e w1 ⟨rfl, rfl⟩)
      | (go_at_call 13; refine (c2 _).mono ?_; rintro e w1 ⟨rfl, rfl⟩)
      | (go_at_call 14; refine (known_of prepOk _).mono ?_; rintro e w2 ⟨rfl, h9⟩; have hbw := below_trans' hbw hbw.size h9)
      | (go_at_call 24; refine (kb _ (ha'.below hbw) (hb'.below hbw)).mono ?_; rintro e w3 ⟨rfl, h9⟩; have hbw := below_trans' hbw hbw.size h9))
    go_ret
    exact ⟨rfl, hbw⟩
end Go.Proofs.Ytogbapdioccamaa
