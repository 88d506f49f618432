/- The walk of the law TotalfitBest. -/
import Derived.Test.YtogbapdioccamaaE58
namespace Go.Proofs.Ytogbapdioccamaa
open Go.RowKit

theorem sl_apart {α : Type} {w : World} {s n g : Nat} {enc : α → List Value} {A : Option Addr} {xs : List α} (h : Sl w s enc A n xs) (hn : 0 < n) (hg : w.heap.size ≤ g) : ∀ ad, A = some ad → ad.block ≠ g := fun ad e => by
  obtain ⟨ad', e', hl, _⟩ := h.rd hn
  rw [e] at e'
  injection e' with e'
  subst e'
  omega

set_option maxRecDepth 100000 in
set_option maxHeartbeats 4000000 in
theorem law_best (A B : Option Addr) (n c m d : Nat) (xs : List It) (ms : List Int) (w : World) (ha : Sl w 6 itC A n xs) (hb : Sl w 1 intC B m ms) (hn : n ≤ c ∧ c ≤ maxLen) (hm : m ≤ d ∧ d ≤ maxLen) :
    Calls Try.prog 5 #[.slice A n c, .slice B m d] w fun e w' => e = .returned (.bool true) ∧ Below w.heap.size w w' := by
  have c1 := fun W => cut_any A n c W hn.1 hn.2
  have c2 := fun W => few_any B m d W hm.1 hm.2
  have ha' := ha.take (k := min n 60) (Nat.min_le_left _ _)
  have hb' := hb.take (k := min m 10) (Nat.min_le_left _ _)
  have h60 : min n 60 ≤ 60 := Nat.min_le_right _ _
  have h10 : min m 10 ≤ 10 := Nat.min_le_right _ _
  generalize xs.take (min n 60) = xs' at *
  generalize ms.take (min m 10) = ms' at *
  generalize min n 60 = n' at *
  generalize min m 10 = m' at *
  have hxl := ha'.len
  have hml := hb'.len
  have kb := fun W h1 h2 => both_any A B n' m' c d xs' ms' W h1 h2 (by omega) (by omega)
  have k1 := fun W h1 h2 => Breaks_any prepOk A B n' m' c d xs' ms' W h1 h2 (by omega) (by omega)
  have k2 := fun W h1 h2 => Best_any prepOk A B n' m' c d xs' ms' W h1 h2 (by omega) (by omega)
  have kp := fun W h => mpositions_any A n' c xs' W h (by omega)
  clear ha hb hn hm
  have hbw := Below.refl w.heap.size w
  by_cases h12 : 12 < (posN xs').length
  · have e1 : decide ((12 : Int) < ((posN xs').length : Int)) = true := decide_eq_true (by omega)
    clear h12 k1 k2 kb
    generalize (posN xs').length = pl at *
    go_enter Try.func5, Try.ntmps5
    go_wp2_with (first
      | (go_at_call 12; refine (c1 _).mono ?_; rintro e w1 ⟨rfl, rfl⟩)
      | (go_at_call 13; refine (c2 _).mono ?_; rintro e w1 ⟨rfl, rfl⟩)
      | (go_at_call 21; refine (kp _ (ha'.below hbw)).mono ?_; rintro e w2 ⟨A2, c2', rfl, ho2, h9⟩; have hbw := below_trans' hbw hbw.size h9; clear ho2)
      | (go_at_call 14; refine (known_of prepOk _).mono ?_; rintro e w2 ⟨rfl, h9⟩; have hbw := below_trans' hbw hbw.size h9))
    go_ret
    exact ⟨rfl, hbw⟩
  · have e1 : decide ((12 : Int) < ((posN xs').length : Int)) = false := decide_eq_false (by omega)
    clear h12
    by_cases h0 : chkB xs' ms' = 0
    · have G := chkB_good hxl hml (by omega) h0
      obtain ⟨hL0, -⟩ := posN_last hxl G.n0 G.F
      have hlen := brok_len hxl (G.brok hxl)
      have kt := fun g e0 A0 => try_any g n' m' (posN xs').length c d e0 A B A0 xs' ms' G hxl rfl
      have hall := fmQ_all xs' ms' G hxl
      have hst := Fits.start xs' ms' G hxl
      have k5 := fun A3 B3 c3 d3 W h1 h2 => same_c A3 B3 (breaksL xs' ms').length c3 d3 (ints (breaksL xs' ms')) W h1 h2 (by omega)
      simp only [h0, if_true] at kb k1 k2
      have HALL := Lib.hid hall
      have HST := Lib.hid hst
      have KT := Lib.hid kt
      have hn0 := G.n0
      have hm0 := G.m0
      clear hall hst kt G h0 hxl hml
      go_enter Try.func5, Try.ntmps5
      go_upto_region 12 with (first
        | (go_at_call 12; refine (c1 _).mono ?_; rintro e w1 ⟨rfl, rfl⟩)
        | (go_at_call 13; refine (c2 _).mono ?_; rintro e w1 ⟨rfl, rfl⟩)
        | (go_at_call 21; refine (kp _ (ha'.below hbw)).mono ?_; rintro e w2 ⟨A2, c2', rfl, ho2, h9⟩; have hbw := below_trans' hbw hbw.size h9; first | have hs4 := hs4.below h9 | skip)
        | (go_at_call 22; refine (k1 _ (ha'.below hbw) (hb'.below hbw)).mono ?_; rintro e w4 ⟨A4, c4, rfl, ho4, h9⟩; have hbw := below_trans' hbw hbw.size h9; have hs4 := ho4.sl intC_len; clear ho4 ho2)
        | (go_at_call 23; refine (k2 _ (ha'.below hbw) (hb'.below hbw)).mono ?_; rintro e w5 ⟨rfl, h9⟩; have hbw := below_trans' hbw hbw.size h9; have hs4 := hs4.below h9)
        | (go_at_call 14; refine (known_of prepOk _).mono ?_; rintro e w2 ⟨rfl, h9⟩; have hbw := below_trans' hbw hbw.size h9; have hs4 := hs4.below h9)
        | (go_at_call 24; refine (kb _ (ha'.below hbw) (hb'.below hbw)).mono ?_; rintro e w3 ⟨rfl, h9⟩; have hbw := below_trans' hbw hbw.size h9; have hs4 := hs4.below h9))
      have ha2 := ha'.below hbw
      have hb2 := hb'.below hbw
      have hl2 := ho2.sl intC_len
      have nA := sl_apart ha2 hn0 (Nat.le_refl _)
      have nM := sl_apart hb2 hm0 (Nat.le_refl _)
      have nL := sl_apart hl2 hL0 (Nat.le_refl _)
      have KK := Lib.hid (KT.out w2.heap.size c2' A2 nA nM nL _ 0 rfl (Nat.zero_le _) [] none 0 0 none (.slice none 0 0) 0 _ (Blk.new w2 42 #[.slice A n' c, .slice B m' d, .slice A2 (posN xs').length c2', .slice none 0 0, .int .i64 0]) ⟨rfl, rfl⟩ (sl_alloc ha2 _) (sl_alloc hb2 _) (sl_alloc hl2 _) Sl.nil (fun ad h => by cases h) (fun _ => ⟨rfl, rfl⟩) (Nat.le_refl _) ⟨Nat.le_refl _, Nat.zero_le _⟩ (by rw [List.drop_zero]; exact HST.out))
      clear KT HST ha2 hb2 hl2 nA nM nL kb k1 k2 kp c1 c2
      go_upto_region 13 with (go_at_call 25; refine KK.out.mono ?_; rintro e w6 ⟨rfl, hg6, V6, v6, b6, hacc6⟩)
      rw [List.drop_zero, HALL.out] at hacc6
      obtain ⟨g2, c2, rfl, hgg, hne, rfl, hs6⟩ := hacc6
      simp only at b6 hs6
      have hbw6 := (hbw.alloc hbw.size _).grown hg6 (Nat.le_trans hbw.size (by simp)) (fun k hk => by injection hk with hk; subst hk; exact hbw.size)
      have hs5 := (sl_alloc hs4 (.cells #[.slice A n' c, .slice B m' d, .slice A2 (posN xs').length c2', .slice none 0 0, .int .i64 0] 42)).grown hg6 (fun ad e => by
        obtain ⟨ad', e', hl', _⟩ := hs4.rd (List.length_pos_iff.2 hne)
        rw [e] at e'
        injection e' with e'
        subst e'
        omega)
      have t3 : w6.cell? ⟨w2.heap.size, 3, none⟩ = some (.slice (some ⟨g2, 0, none⟩) (breaksL xs' ms').length c2) := b6.cell 3 rfl
      have t4 : w6.cell? ⟨w2.heap.size, 4, none⟩ = some (.int .i64 (bestV xs' ms')) := b6.cell 4 rfl
      clear hg6 hs4 HALL KK b6 hne ho2
      go_wp2_with (first
        | (go_at_call 20; refine (k5 A4 (some ⟨g2, 0, none⟩) c4 c2 _ hs5 hs6).mono ?_; rintro e w7 ⟨rfl, h9⟩; have hbw7 := below_trans' hbw6 hbw6.size h9; have t4 := (h9.cell (World.block_lt_of_cell? _ _ t4)).trans t4))
      go_ret
      exact ⟨rfl, hbw7⟩
    · have h1 : (chkB xs' ms' != 0) = true := by simpa using h0
      simp only [h0, if_false] at k1 k2
      clear h0
      generalize chkB xs' ms' = v at *
      generalize (posN xs').length = pl at *
      go_enter Try.func5, Try.ntmps5
      go_wp2_with (first
        | (go_at_call 12; refine (c1 _).mono ?_; rintro e w1 ⟨rfl, rfl⟩)
        | (go_at_call 13; refine (c2 _).mono ?_; rintro e w1 ⟨rfl, rfl⟩)
        | (go_at_call 21; refine (kp _ (ha'.below hbw)).mono ?_; rintro e w2 ⟨A2, c2', rfl, ho2, h9⟩; have hbw := below_trans' hbw hbw.size h9; clear ho2)
        | (go_at_call 22; refine (k1 _ (ha'.below hbw) (hb'.below hbw)).mono ?_; rintro e w4 ⟨A4, c4, rfl, ho4, h9⟩; have hbw := below_trans' hbw hbw.size h9; clear ho4)
        | (go_at_call 23; refine (k2 _ (ha'.below hbw) (hb'.below hbw)).mono ?_; rintro e w5 ⟨rfl, h9⟩; have hbw := below_trans' hbw hbw.size h9)
        | (go_at_call 14; refine (known_of prepOk _).mono ?_; rintro e w2 ⟨rfl, h9⟩; have hbw := below_trans' hbw hbw.size h9)
        | (go_at_call 24; refine (kb _ (ha'.below hbw) (hb'.below hbw)).mono ?_; rintro e w3 ⟨rfl, h9⟩; have hbw := below_trans' hbw hbw.size h9))
      go_ret
      exact ⟨rfl, hbw⟩
end Go.Proofs.Ytogbapdioccamaa
