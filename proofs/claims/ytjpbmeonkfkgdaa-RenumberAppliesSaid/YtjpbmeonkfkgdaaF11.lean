/- IndexFunc, ContainsFunc of parts with Check$1; Check. -/
import Derived.Test.YtjpbmeonkfkgdaaF10
namespace Go.Proofs.Ytjpbmeonkfkgdaa
open Go.RowKit

def gP (ps : List Pt) (k : Nat) : Pt := ps.getD k ⟨[], 0, false⟩
theorem gP_get (ps : List Pt) {k : Nat} (h : k < ps.length) : gP ps k = ps[k] := by
  unfold gP
  rw [List.getD_eq_getElem?_getD, List.getElem?_eq_getElem h]
  rfl
theorem Sl.pt {w : World} {A : Option Addr} {n : Nat} {xs : List Pt} (h : Sl w 3 ptC A n xs) {k : Nat} (hk : k < n) :
    ∃ ad, A = some ad ∧ ad.block < w.heap.size ∧ w.cell? (ad.add (k * 3)) = some (.string ⟨(gP xs k).lit.toArray⟩) ∧ w.cell? ⟨(ad.add (k * 3)).block, (ad.add (k * 3)).off + 1, none⟩ = some (.int .i64 (gP xs k).lev) ∧ w.cell? ⟨(ad.add (k * 3)).block, (ad.add (k * 3)).off + 2, none⟩ = some (.bool (gP xs k).plain) := by
  obtain ⟨ad, e, hl, x, hx, hc⟩ := h.at_ hk
  have hg : gP xs k = x := by unfold gP; rw [List.getD_eq_getElem?_getD, hx]; rfl
  rw [hg]
  have f : ∀ j u, 0 < j → (ptC x)[j]? = some u → w.cell? ⟨(ad.add (k * 3)).block, (ad.add (k * 3)).off + j, none⟩ = some u := fun j u hj hu => by
    have : w.cell? ((ad.add (k * 3)).add j) = w.cell? ⟨(ad.add (k * 3)).block, (ad.add (k * 3)).off + j, none⟩ := by
      unfold Addr.add; simp [Nat.ne_of_gt hj]
    rw [← this, add_add_]; exact hc j u hu
  exact ⟨ad, e, hl, hc 0 _ rfl, f 1 _ (by omega) rfl, f 2 _ (by omega) rfl⟩
set_option maxHeartbeats 2000000 in
theorem over_any (p : Pt) (g : Nat) (level : Int) (w : World) (hb : Blk w g 3 #[.int .i64 level]) :
    Calls Try.prog 28 #[.agg #[.string ⟨p.lit.toArray⟩, .int .i64 p.lev, .bool p.plain], .pointer (some ⟨g, 0, none⟩)] w fun e w' => e = .returned (.bool (decide (level < p.lev))) ∧ Below w.heap.size w w' := by
  obtain ⟨l, k, b⟩ := p
  simp only
  have hb1 := hb.alloc (.cells #[.string ⟨l.toArray⟩, .int .i64 k, .bool b] 93)
  have k0 : (w.alloc (.cells #[.string ⟨l.toArray⟩, .int .i64 k, .bool b] 93)).cell? ⟨g, 0, none⟩ = some (.int .i64 level) := hb1.cell 0 rfl
  have N := Blk.new w 93 #[.string ⟨l.toArray⟩, .int .i64 k, .bool b]
  have k1 : (w.alloc (.cells #[.string ⟨l.toArray⟩, .int .i64 k, .bool b] 93)).cell? ⟨w.heap.size, 1, none⟩ = some (.int .i64 k) := N.cell 1 rfl
  generalize l.toArray = la at *
  go_enter Try.func28, Try.ntmps28
  go_wp2_with fail
  go_ret
  exact ⟨ret_bool rfl, (Below.refl _ w).alloc (Nat.le_refl _) _⟩
set_option maxHeartbeats 4000000 in
set_option maxRecDepth 100000 in
theorem index_parts (A : Option Addr) (n c : Nat) (l : List Pt) (g : Nat) (level : Int) (w : World) (ha : Sl w 3 ptC A n l) (hb : Blk w g 3 #[.int .i64 level]) (hn : n ≤ maxLen) :
    Calls Try.prog 33 #[.slice A n c, .func (Fn.func 28) #[] #[.pointer (some ⟨g, 0, none⟩)]] w fun e w' => ∃ i : Int, e = .returned (.int .i64 i) ∧ decide (0 ≤ i) = l.any (fun p => decide (level < p.lev)) ∧ Below w.heap.size w w' := by
  have hl := ha.len
  unfold maxLen at hn
  go_enter Try.func33, Try.ntmps33
  go_wp2_with fail
  go_loopw [8] (fun vi wr => ∃ i : Nat, vi = .int .i64 i ∧ i ≤ n ∧ (l.take i).any (fun p => decide (level < p.lev)) = false ∧ Below w.heap.size w wr) (fun vi _ => n - (intOf vi).toNat)
  case atStart => exact ⟨0, rfl, Nat.zero_le _, rfl, Below.refl _ _⟩
  case round =>
    obtain ⟨i, rfl, hi, ht, hbw⟩ := hrel
    by_cases hlt : i < n
    · obtain ⟨ad, e, hl2, k0, k1, k2⟩ := (ha.below hbw).pt hlt
      subst e
      have ov := over_any (gP l i) g level wr (hb.below hbw)
      have T := Lib.hid (any_take_succ (fun p : Pt => decide (level < p.lev)) l (i := i) (by omega))
      have AT := Lib.hid (any_at (fun p : Pt => decide (level < p.lev)) l (i := i) (by omega))
      rw [← gP_get l (by omega)] at T AT
      have HT := Lib.hid ht
      clear ht
      generalize gP l i = x at *
      obtain ⟨xl, xk, xb⟩ := x
      simp only at ov k0 k1 k2 T AT
      generalize xl.toArray = la at *
      by_cases hp : level < xk
      · rw [decide_eq_true hp] at ov T AT
        go_wp2_with (go_at_call 28; refine ov.mono ?_; rintro e w' ⟨rfl, hb2⟩)
        go_ret
        exact ⟨_, rfl, by rw [AT.out trivial]; simp, below_trans' hbw hbw.size hb2⟩
      · rw [decide_eq_false hp] at ov T AT
        go_wp2_with (go_at_call 28; refine ov.mono ?_; rintro e w' ⟨rfl, hb2⟩)
        go_roundw
        case measure => rw [intOf, intOf]; omega
        case rel => exact ⟨i + 1, by simp, by omega, by rw [T.out, HT.out]; rfl, below_trans' hbw hbw.size hb2⟩
    · have : i = n := by omega
      subst this
      have HT := Lib.hid (show l.any (fun p => decide (level < p.lev)) = false by rw [List.take_of_length_le (by omega)] at ht; exact ht)
      clear ht
      go_wp2_with fail
      go_ret
      exact ⟨_, rfl, by rw [HT.out]; rfl, hbw⟩
set_option maxHeartbeats 1000000 in
theorem contains_parts (A : Option Addr) (n c : Nat) (l : List Pt) (g : Nat) (level : Int) (w : World) (ha : Sl w 3 ptC A n l) (hb : Blk w g 3 #[.int .i64 level]) (hn : n ≤ maxLen) :
    Calls Try.prog 27 #[.slice A n c, .func (Fn.func 28) #[] #[.pointer (some ⟨g, 0, none⟩)]] w fun e w' => e = .returned (.bool (l.any (fun p => decide (level < p.lev)))) ∧ Below w.heap.size w w' := by
  go_enter Try.func27, Try.ntmps27
  go_wp2_with (go_at_call 33; refine (index_parts A n c l g level w ha hb hn).mono ?_; rintro e w' ⟨i, rfl, hi, hbw⟩; have HI := Lib.hid hi; clear hi)
  go_ret
  exact ⟨ret_bool (by rw [← HI.out]), hbw⟩
set_option maxHeartbeats 4000000 in
set_option maxRecDepth 100000 in
theorem check_any (s : ByteArray) (level : Int) (w : World) :
    Calls Try.prog 25 #[.string s, .int .i64 level] w fun e w' => e = .returned (.int .i64 (checkE s level)) ∧ Below w.heap.size w w' := by
  have N := Blk.new w 3 #[.int .i64 level]
  have k0 : (w.alloc (.cells #[.int .i64 level] 3)).cell? ⟨w.heap.size, 0, none⟩ = some (.int .i64 level) := N.cell 0 rfl
  have hBa := (Below.refl _ w).alloc (Nat.le_refl _) (.cells #[.int .i64 level] 3)
  have HC := Lib.hid (show checkE s level = if level < 1 ∨ 9 < level then 2 else if parseE s = 0 ∧ (parseP s).any (fun p => decide (level < p.lev)) = true then 6 else parseE s from rfl)
  have PA := Lib.hid (parse_any s (w.alloc (.cells #[.int .i64 level] 3)))
  have CP := Lib.hid (fun A n c w1 (ha : Sl w1 3 ptC A n (parseP s)) (hb : Blk w1 w.heap.size 3 #[.int .i64 level]) (hn : n ≤ maxLen) => contains_parts A n c (parseP s) w.heap.size level w1 ha hb hn)
  by_cases h1 : level < 1
  · go_enter Try.func25, Try.ntmps25
    go_wp2_with fail
    go_ret
    exact ⟨ret_int (by rw [HC.out, if_pos (.inl h1)]), hBa⟩
  · by_cases h9 : 9 < level
    · go_enter Try.func25, Try.ntmps25
      go_wp2_with fail
      go_ret
      exact ⟨ret_int (by rw [HC.out, if_pos (.inr h9)]), hBa⟩
    · have HC2 := Lib.hid (HC.out.trans (if_neg (by omega)))
      clear HC
      have HP0 := Lib.hid (fun (h : parseE s ≠ 0) => (HC2.out.trans (if_neg (fun k => h k.1))))
      by_cases he : parseE s = 0
      · cases ha : (parseP s).any (fun p => decide (level < p.lev))
        · have HF := Lib.hid (show checkE s level = 0 by rw [HC2.out, if_neg (by rw [ha]; simp), he])
          go_enter Try.func25, Try.ntmps25
          go_wp2_with (first | (go_at_call 26; refine PA.out.mono ?_; rintro er w1 ⟨A, c, rfl, ho, hb1⟩; have hbN := N.below hb1; have CPP := CP.out A _ c w1 (ho.sl ptC_len) hbN (Nat.le_trans ho.cap.1 ho.cap.2); rw [ha] at CPP; rw [he]) | (go_at_call 27; refine CPP.mono ?_; rintro er w2 ⟨rfl, hb2⟩))
          go_ret
          exact ⟨ret_int (by rw [HF.out]), below_trans' (below_trans' hBa hBa.size hb1) (below_trans' hBa hBa.size hb1).size hb2⟩
        · have HF := Lib.hid (show checkE s level = 6 by rw [HC2.out, if_pos ⟨he, ha⟩])
          go_enter Try.func25, Try.ntmps25
          go_wp2_with (first | (go_at_call 26; refine PA.out.mono ?_; rintro er w1 ⟨A, c, rfl, ho, hb1⟩; have hbN := N.below hb1; have CPP := CP.out A _ c w1 (ho.sl ptC_len) hbN (Nat.le_trans ho.cap.1 ho.cap.2); rw [ha] at CPP; rw [he]) | (go_at_call 27; refine CPP.mono ?_; rintro er w2 ⟨rfl, hb2⟩))
          go_ret
          exact ⟨ret_int (by rw [HF.out]), below_trans' (below_trans' hBa hBa.size hb1) (below_trans' hBa hBa.size hb1).size hb2⟩
      · have HF := Lib.hid (HP0.out he)
        go_enter Try.func25, Try.ntmps25
        go_wp2_with (go_at_call 26; refine PA.out.mono ?_; rintro er w1 ⟨A, c, rfl, ho, hb1⟩)
        go_ret
        exact ⟨ret_int (by rw [HF.out]), below_trans' hBa hBa.size hb1⟩
end Go.Proofs.Ytjpbmeonkfkgdaa
