/- The walk of the law TotalfitLines. -/
import Derived.Test.YtogbapdioccamaaE45
import Derived.Test.YtogbapdioccamaaE38
import Derived.Deep.QuietTactic
import Derived.BigQuiet
namespace Go.Proofs.Ytogbapdioccamaa
open Go.RowKit

theorem Sl.cut3 {w : World} {C : Option Addr} {k : Nat} {bs : List Int} (h : Sl w 1 intC C k bs) : Sl w 1 intC C (min k 60) (bs.take (min k 60)) := h.take (Nat.min_le_left _ _)
def tn (bs : List Int) : List Nat := bs.map Int.toNat
theorem tn_ints (bl : List Nat) : tn (ints bl) = bl := by
  unfold tn ints
  rw [List.map_map]
  exact (List.map_congr_left (fun x _ => rfl)).trans (List.map_id bl)
theorem LnRes.ls0 {xs : List It} {ms bs : List Int} {n K : Nat} {w w' : World} {e : Ending} (h : LnRes xs ms bs n K w e w') (hb : brk xs bs ≠ 0) : LsRes (brk xs bs) (· = []) w e w' := by
  rcases h with ⟨_, h2, h3⟩ | ⟨h1, _⟩
  · exact ⟨[], 0, none, 0, rfl, h2, Sl.nil, h3⟩
  · exact absurd h1 hb
def LsP (xs : List It) (ms bs : List Int) (n K : Nat) (ls : List Ln) : Prop := BrOk xs n (tn bs) ∧ bs = ints (tn bs) ∧ ls = linesN xs ms (tn bs) K
theorem LnRes.ls1 {xs : List It} {ms bs : List Int} {n K : Nat} {w w' : World} {e : Ending} (h : LnRes xs ms bs n K w e w') (hb : brk xs bs = 0) : LsRes 0 (LsP xs ms bs n K) w e w' := by
  rcases h with ⟨h1, _⟩ | ⟨_, bl, A, c, h2, h3, h4, h5, h6⟩
  · exact absurd hb h1
  · have e1 : tn bs = bl := by rw [h2, tn_ints]
    exact ⟨linesN xs ms bl K, K, A, c, ⟨by rw [e1]; exact h3, by rw [e1]; exact h2, by rw [e1]⟩, h4, h5.sl lnC_len, h6⟩

set_option maxRecDepth 100000 in
set_option maxHeartbeats 4000000 in
theorem law_lines (A B C : Option Addr) (n c m d k e0 : Nat) (xs : List It) (ms bs : List Int) (w : World) (ha : Sl w 6 itC A n xs) (hb : Sl w 1 intC B m ms) (hC : Sl w 1 intC C k bs) (hn : n ≤ c ∧ c ≤ maxLen) (hm : m ≤ d ∧ d ≤ maxLen) (hk : k ≤ e0 ∧ e0 ≤ maxLen) :
    Calls Try.prog 9 #[.slice A n c, .slice B m d, .slice C k e0] w fun e w' => e = .returned (.bool true) ∧ Below w.heap.size w w' := by
  have c1 := fun W => (cut_any A n c W hn.1 hn.2).mono fun _ _ h => (⟨h.1, h.2.symm⟩ : _ ∧ _)
  have c2 := fun W => (few_any B m d W hm.1 hm.2).mono fun _ _ h => (⟨h.1, h.2.symm⟩ : _ ∧ _)
  have ha' := ha.take (k := min n 60) (Nat.min_le_left _ _)
  have hb' := hb.take (k := min m 10) (Nat.min_le_left _ _)
  have hC' := hC.cut3
  have h60 : min n 60 ≤ 60 := Nat.min_le_right _ _
  have h10 : min m 10 ≤ 10 := Nat.min_le_right _ _
  have hk60 : min k 60 ≤ 60 := Nat.min_le_right _ _
  generalize xs.take (min n 60) = xs' at *
  generalize ms.take (min m 10) = ms' at *
  generalize bs.take (min k 60) = bs' at *
  generalize min n 60 = n' at *
  generalize min m 10 = m' at *
  unfold maxLen at hk
  have hxl := ha'.len
  have hml := hb'.len
  have hbl := hC'.len
  go_enter Try.func9, Try.ntmps9
  go_wp2_with fail
  go_quiet ((first | (go_at_call 12; exact Calls.quiet_of_same (c1 _)) | (go_at_call 13; exact Calls.quiet_of_same (c2 _))))
  go_upto_region 2 with fail
  rw [show (min (k : Int) 60).toNat = min k 60 by omega]
  generalize (min (k : Int) 60) = kI at *
  generalize min k 60 = k' at *
  have hbw := below_drewN (Below.refl w.heap.size w) nq
  generalize w.drewN nq = w0 at *
  clear ha hb hC hn hm c1 c2
  have kb := fun W h1 h2 => both_any A B n' m' c d xs' ms' W h1 h2 (by omega) (by omega)
  by_cases h0 : chkB xs' ms' = 0
  · have G := chkB_good hxl hml (by omega) h0
    have kl := fun W h1 h2 h3 => Lines_any prepOk A B C n' m' k' c d e0 bs' xs' ms' W h1 h2 h3 (by omega) (by omega) (by omega) h0
    have kk := fun W h1 h2 => mcheckBreaks_any A C n' k' c e0 xs' bs' W h1 h2 (by omega) (by omega)
    rw [h0] at kb
    by_cases h1 : brk xs' bs' = 0
    · have kl1 := fun W h1' h2 h3 => (kl W h1' h2 h3).mono fun _ _ h => h.ls1 h1
      have kc := fun W h1' h2 h3 => Cost_of A B C n' m' k' c d e0 0 (LsP xs' ms' bs' n' k') (fun ls h => by rw [h.2.2]; exact demOk_lines G hxl hml h.1 (by have := congrArg List.length h.2.1; rw [ints_len] at this; omega) (by omega)) W (kl1 W h1' h2 h3)
      have km := fun W (hb : BrOk xs' n' (tn bs')) h1 h2 h3 => mlines_any A B C n' m' k' c d e0 (tn bs') xs' ms' W h1 h2 h3 hb.rise (by omega) ⟨G.m0, by omega⟩ (by omega) G.R G.M
      rw [h1] at kk
      clear kl h1
      have kc' := fun W h1' h2 h3 => (kc W h1' h2 h3).mono fun e w' h => (show e = .returned (.tuple #[.int .i64 (costN xs' ms' (tn bs') k'), .int .i64 0]) ∧ Below W.heap.size W w' from by
        obtain ⟨ls, hp, he, hb⟩ := h
        exact ⟨by rw [he, hp.2.2, demS_lines], hb⟩)
      clear kc
      have HLL := Lib.hid (show (linesN xs' ms' (tn bs') k').length = k' from linesN_len)
      have hC2 : ∀ W, Sl W 1 intC C k' bs' → bs' = ints (tn bs') → Sl W 1 intC C k' (ints (tn bs')) := fun W h e => by rw [← e]; exact h
      have HC2 := Lib.hid hC2
      have kl2 := fun W h1' h2 h3 => (kl1 W h1' h2 h3).mono fun e w' h => (show ∃ A' c', e = .returned (.tuple #[.slice A' k' c', .int .i64 0]) ∧ BrOk xs' n' (tn bs') ∧ Hid (bs' = ints (tn bs')) ∧ Sl w' 10 lnC A' k' (linesN xs' ms' (tn bs') k') ∧ Below W.heap.size W w' from by
        obtain ⟨ls, k2, A', c', hp, he, hs, hb⟩ := h
        have h5 := hs.len
        rw [hp.2.2] at hs h5
        rw [HLL.out] at h5
        subst h5
        exact ⟨A', c', he, hp.1, Lib.hid hp.2.1, hs, hb⟩)
      clear kl1 hC2 G
      generalize costN xs' ms' (tn bs') k' = cost at *
      generalize linesN xs' ms' (tn bs') k' = LX at *
      go_wp2_with (first
        | (go_at_call 30; refine (kl2 _ (ha'.below hbw) (hb'.below hbw) (hC'.below hbw)).mono ?_; rintro e w2 ⟨A2, c2, rfl, hbo, HBI, hs2, h9⟩; have hbw := below_trans' hbw hbw.size h9)
        | (go_at_call 32; refine (kc' _ (ha'.below hbw) (hb'.below hbw) (hC'.below hbw)).mono ?_; rintro e w3 ⟨rfl, h9⟩; have hbw := below_trans' hbw hbw.size h9; have hs2 := hs2.below h9)
        | (go_at_call 14; refine (known_of prepOk _).mono ?_; rintro e w4 ⟨rfl, h9⟩; have hbw := below_trans' hbw hbw.size h9; have hs2 := hs2.below h9)
        | (go_at_call 24; refine (kb _ (ha'.below hbw) (hb'.below hbw)).mono ?_; rintro e w5 ⟨rfl, h9⟩; have hbw := below_trans' hbw hbw.size h9; have hs2 := hs2.below h9)
        | (go_at_call 26; refine (kk _ (ha'.below hbw) (hC'.below hbw)).mono ?_; rintro e w6 ⟨rfl, h9⟩; have hbw := below_trans' hbw hbw.size h9; have hs2 := hs2.below h9)
        | (go_at_call 27; refine (km _ hbo (ha'.below hbw) (hb'.below hbw) (HC2.out _ (hC'.below hbw) HBI.out)).mono ?_; rintro e w7 ⟨A7, c7, rfl, ho7, h9⟩; have hbw := below_trans' hbw hbw.size h9; have hs2 := hs2.below h9; have hs7 := ho7.sl lnC_len))
      clear ho7 km kk kc' kl2 kb hbo HC2
      go_loopw [14] (fun vi wr => ∃ i : Nat, i ≤ k' ∧ vi = .int .i64 i ∧ Below w.heap.size w wr ∧ Sl wr 10 lnC A2 k' LX ∧ Sl wr 10 lnC A7 k' LX) (fun vi _ => k' - (intOf vi).toNat)
      case atStart => exact ⟨0, Nat.zero_le _, rfl, hbw, hs2, hs7⟩
      case round =>
        obtain ⟨i, hi, rfl, hbx, hx, hy⟩ := hrel
        by_cases hlt : i < k'
        · obtain ⟨ad, rfl, hla, q0, hq⟩ := hx.ln hlt
          obtain ⟨ae, rfl, hlb, p0, hp⟩ := hy.ln hlt
          have q1 := hq 1 _ (by omega) rfl
          have q2 := hq 2 _ (by omega) rfl
          have q3 := hq 3 _ (by omega) rfl
          have q4 := hq 4 _ (by omega) rfl
          have q5 := hq 5 _ (by omega) rfl
          have q6 := hq 6 _ (by omega) rfl
          have q7 := hq 7 _ (by omega) rfl
          have q8 := hq 8 _ (by omega) rfl
          have q9 := hq 9 _ (by omega) rfl
          have p1 := hp 1 _ (by omega) rfl
          have p2 := hp 2 _ (by omega) rfl
          have p3 := hp 3 _ (by omega) rfl
          have p4 := hp 4 _ (by omega) rfl
          have p5 := hp 5 _ (by omega) rfl
          have p6 := hp 6 _ (by omega) rfl
          have p7 := hp 7 _ (by omega) rfl
          have p8 := hp 8 _ (by omega) rfl
          have p9 := hp 9 _ (by omega) rfl
          have HX := Lib.hid hx
          have HY := Lib.hid hy
          clear hq hp hx hy
          generalize gL LX i = x at *
          obtain ⟨xf, xt, xb, xm, xw, xr, xc, xbad, xo, xd⟩ := x
          simp only at *
          go_wp2_with fail
          go_quiet (fail)
          go_wp2_with fail
          go_roundw
          case rel => exact ⟨i + 1, by omega, by go_num, below_drewN hbx _, HX.out.drewN _, HY.out.drewN _⟩
          case measure => simp [intOf]; omega
        · have hik : i = k' := by omega
          subst hik
          go_wp2_with fail
          go_ret
          exact ⟨rfl, hbx⟩
    · have kl1 := fun W h1' h2 h3 => (kl W h1' h2 h3).mono fun _ _ h => h.ls0 h1
      have kc := fun W h1' h2 h3 => Cost_of A B C n' m' k' c d e0 (brk xs' bs') (· = []) (fun ls h => by rw [h]; exact demOk_nil) W (kl1 W h1' h2 h3)
      have h2 : (brk xs' bs' != 0) = true := by simpa using h1
      have h3 : (brk xs' bs' == 0) = false := by simpa using h1
      clear kl h1 G
      generalize brk xs' bs' = v at *
      go_wp2_with (first
        | (go_at_call 30; refine (kl1 _ (ha'.below hbw) (hb'.below hbw) (hC'.below hbw)).mono ?_; rintro e w2 ⟨ls2, k2, A2, c2, rfl, rfl, hs2, h9⟩; have hbw := below_trans' hbw hbw.size h9; have hk2 := hs2.len; obtain rfl : 0 = k2 := hk2)
        | (go_at_call 32; refine (kc _ (ha'.below hbw) (hb'.below hbw) (hC'.below hbw)).mono ?_; rintro e w3 ⟨ls3, rfl, rfl, h9⟩; have hbw := below_trans' hbw hbw.size h9)
        | (go_at_call 14; refine (known_of prepOk _).mono ?_; rintro e w4 ⟨rfl, h9⟩; have hbw := below_trans' hbw hbw.size h9)
        | (go_at_call 24; refine (kb _ (ha'.below hbw) (hb'.below hbw)).mono ?_; rintro e w5 ⟨rfl, h9⟩; have hbw := below_trans' hbw hbw.size h9)
        | (go_at_call 26; refine (kk _ (ha'.below hbw) (hC'.below hbw)).mono ?_; rintro e w6 ⟨rfl, h9⟩; have hbw := below_trans' hbw hbw.size h9))
      go_ret
      exact ⟨rfl, hbw⟩
  · have kl1 := fun W h1 h2 => Lines_bad A B C n' m' k' c d e0 xs' ms' W h1 h2 (by omega) (by omega) h0
    have kc := fun W h1' h2 => Cost_of A B C n' m' k' c d e0 (chkB xs' ms') (· = []) (fun ls h => by rw [h]; exact demOk_nil) W (kl1 W h1' h2)
    have h2 : (chkB xs' ms' != 0) = true := by simpa using h0
    have h3 : (chkB xs' ms' == 0) = false := by simpa using h0
    clear h0
    generalize chkB xs' ms' = v at *
    go_wp2_with (first
      | (go_at_call 30; refine (kl1 _ (ha'.below hbw) (hb'.below hbw)).mono ?_; rintro e w2 ⟨ls2, k2, A2, c2, rfl, rfl, hs2, h9⟩; have hbw := below_trans' hbw hbw.size h9; have hk2 := hs2.len; obtain rfl : 0 = k2 := hk2)
      | (go_at_call 32; refine (kc _ (ha'.below hbw) (hb'.below hbw)).mono ?_; rintro e w3 ⟨ls3, rfl, rfl, h9⟩; have hbw := below_trans' hbw hbw.size h9)
      | (go_at_call 14; refine (known_of prepOk _).mono ?_; rintro e w4 ⟨rfl, h9⟩; have hbw := below_trans' hbw hbw.size h9)
      | (go_at_call 24; refine (kb _ (ha'.below hbw) (hb'.below hbw)).mono ?_; rintro e w5 ⟨rfl, h9⟩; have hbw := below_trans' hbw hbw.size h9))
    go_ret
    exact ⟨rfl, hbw⟩
end Go.Proofs.Ytogbapdioccamaa
