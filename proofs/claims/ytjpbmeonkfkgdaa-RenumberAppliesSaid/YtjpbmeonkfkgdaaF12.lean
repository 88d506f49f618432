/- leveltext.CheckLevels. -/
import Derived.Test.YtjpbmeonkfkgdaaF11
import Derived.Deep.DeepCutAuto
namespace Go.Proofs.Ytjpbmeonkfkgdaa
open Go.RowKit

structure Lv where
  format : Int
  start : Int
  text : ByteArray
  restart : Int
def lvC (l : Lv) : List Value := [.int .i64 l.format, .int .i64 l.start, .string l.text, .int .i64 l.restart]
theorem lvC_len (l : Lv) : (lvC l).length = 4 := rfl
theorem lvC_one (l : Lv) : ∀ u ∈ lvC l, u.oneCell' = true := by intro u hu; simp [lvC] at hu; rcases hu with rfl | rfl | rfl | rfl <;> rfl
def gL (ls : List Lv) (k : Nat) : Lv := ls.getD k ⟨0, 0, ⟨#[]⟩, 0⟩
def lvE (i : Nat) (l : Lv) : Int :=
  if l.format < 1 ∨ 7 < l.format then 3 else if l.start < 0 ∨ 32767 < l.start then 2 else if checkE l.text ((i : Int) + 1) ≠ 0 then checkE l.text ((i : Int) + 1) else if l.restart < 0 ∨ (i : Int) < l.restart then 5 else 0
def clF : Nat → List Lv → Int
  | _, [] => 0
  | i, l :: r => if lvE i l ≠ 0 then lvE i l else clF (i + 1) r
def clE (ls : List Lv) : Int := if ls.length = 0 then 11 else if 9 < ls.length then 9 else clF 0 ls
theorem Sl.lv {w : World} {A : Option Addr} {n : Nat} {xs : List Lv} (h : Sl w 4 lvC A n xs) {k : Nat} (hk : k < n) :
    ∃ ad, A = some ad ∧ ad.block < w.heap.size ∧ w.cell? (ad.add (k * 4)) = some (.int .i64 (gL xs k).format) ∧ w.cell? ⟨(ad.add (k * 4)).block, (ad.add (k * 4)).off + 1, none⟩ = some (.int .i64 (gL xs k).start) ∧ w.cell? ⟨(ad.add (k * 4)).block, (ad.add (k * 4)).off + 2, none⟩ = some (.string (gL xs k).text) ∧ w.cell? ⟨(ad.add (k * 4)).block, (ad.add (k * 4)).off + 3, none⟩ = some (.int .i64 (gL xs k).restart) := by
  obtain ⟨ad, e, hl, x, hx, hc⟩ := h.at_ hk
  have hg : gL xs k = x := by unfold gL; rw [List.getD_eq_getElem?_getD, hx]; rfl
  rw [hg]
  have f : ∀ j u, 0 < j → (lvC x)[j]? = some u → w.cell? ⟨(ad.add (k * 4)).block, (ad.add (k * 4)).off + j, none⟩ = some u := fun j u hj hu => by
    have : w.cell? ((ad.add (k * 4)).add j) = w.cell? ⟨(ad.add (k * 4)).block, (ad.add (k * 4)).off + j, none⟩ := by
      unfold Addr.add; simp [Nat.ne_of_gt hj]
    rw [← this, add_add_]; exact hc j u hu
  exact ⟨ad, e, hl, hc 0 _ rfl, f 1 _ (by omega) rfl, f 2 _ (by omega) rfl, f 3 _ (by omega) rfl⟩
theorem clF_drop (ls : List Lv) {i : Nat} (h : i < ls.length) : clF i (ls.drop i) = if lvE i (gL ls i) ≠ 0 then lvE i (gL ls i) else clF (i + 1) (ls.drop (i + 1)) := by
  rw [List.drop_eq_getElem_cons h, clF]
  have : gL ls i = ls[i] := by unfold gL; rw [List.getD_eq_getElem?_getD, List.getElem?_eq_getElem h]; rfl
  rw [this]
set_option maxHeartbeats 8000000 in
set_option maxRecDepth 100000 in
theorem checkLevels_any (A : Option Addr) (n c : Nat) (ls : List Lv) (w : World) (ha : Sl w 4 lvC A n ls) :
    Calls Try.prog 20 #[.slice A n c] w fun e w' => e = .returned (.int .i64 (clE ls)) ∧ Below w.heap.size w w' := by
  have hl := ha.len
  have HC := Lib.hid (show clE ls = if n = 0 then 11 else if 9 < n then 9 else clF 0 ls by unfold clE; rw [hl])
  by_cases h0 : n = 0
  · subst h0
    go_enter Try.func20, Try.ntmps20
    go_wp2_with fail
    go_ret
    exact ⟨ret_int (by rw [HC.out, if_pos trivial]), Below.refl _ _⟩
  by_cases h9 : 9 < n
  · have h9' : (9 : Int) < (n : Int) := by omega
    have hz : ((n : Int) == 0) = false := beq_eq_false_iff_ne.2 (by omega)
    go_enter Try.func20, Try.ntmps20
    go_wp2_with fail
    go_ret
    exact ⟨ret_int (by rw [HC.out, if_neg h0, if_pos h9]), Below.refl _ _⟩
  have HX := Lib.hid (HC.out.trans ((if_neg h0).trans (if_neg h9)))
  clear HC
  have hz : ((n : Int) == 0) = false := beq_eq_false_iff_ne.2 (by omega)
  have h9' : ¬ (9 : Int) < (n : Int) := by omega
  go_enter Try.func20, Try.ntmps20
  go_wp2_with fail
  go_loopw [16] (fun vi wr => ∃ i : Nat, vi = .int .i64 i ∧ i ≤ n ∧ clF i (ls.drop i) = clF 0 ls ∧ Below w.heap.size w wr) (fun vi _ => n - (intOf vi).toNat)
  case atStart => exact ⟨0, rfl, Nat.zero_le _, rfl, Below.refl _ _⟩
  case round =>
    obtain ⟨i, rfl, hi, ht, hbw⟩ := hrel
    by_cases hlt : i < n
    · obtain ⟨ad, e, hl2, k0, k1, k2, k3⟩ := (ha.below hbw).lv hlt
      subst e
      rw [clF_drop ls (by omega)] at ht
      have HT := Lib.hid ht
      have HE := Lib.hid (show lvE i (gL ls i) = if (gL ls i).format < 1 ∨ 7 < (gL ls i).format then 3 else if (gL ls i).start < 0 ∨ 32767 < (gL ls i).start then 2 else if checkE (gL ls i).text ((i : Int) + 1) ≠ 0 then checkE (gL ls i).text ((i : Int) + 1) else if (gL ls i).restart < 0 ∨ (i : Int) < (gL ls i).restart then 5 else 0 from rfl)
      clear ht
      have ca := Lib.hid (fun w1 => check_any (gL ls i).text ((i : Int) + 1) w1)
      generalize lvE i (gL ls i) = E at *
      generalize gL ls i = x at *
      obtain ⟨xf, xs, xt, xr⟩ := x
      simp only at k0 k1 k2 k3 ca HE
      generalize checkE xt ((i : Int) + 1) = ce at *
      go_upto_region 7 with fail
      go_cut [3, 4] (fun vi v wx => ∃ p, vi = .int .i64 i ∧ v = .pointer (some ⟨p, 0, none⟩) ∧ Blk wx p 59 #[.int .i64 xf, .int .i64 xs, .string xt, .int .i64 xr] ∧ Below wr.heap.size wr wx)
      case first =>
        go_wp2_with fail
        go_meet
        case rel => exact ⟨_, rfl, rfl, Blk.new _ _ _, (Below.refl _ _).alloc (Nat.le_refl _) _⟩
      case rest =>
      obtain ⟨p, rfl, rfl, Bx, hb4⟩ := hcut
      clear k0 k1 k2 k3
      have hbc := below_trans' hbw hbw.size hb4
      have k0 : wc.cell? ⟨p, 0, none⟩ = some (.int .i64 xf) := Bx.cell 0 rfl
      have k1 : wc.cell? ⟨p, 1, none⟩ = some (.int .i64 xs) := Bx.cell 1 rfl
      have k2 : wc.cell? ⟨p, 2, none⟩ = some (.string xt) := Bx.cell 2 rfl
      have k3 : wc.cell? ⟨p, 3, none⟩ = some (.int .i64 xr) := Bx.cell 3 rfl
      have hi1 : IntKind.i64.wrap ((i : Int) + 1) = (i : Int) + 1 := IntWalk.i64_in _ (by omega)
      have HS := Lib.hid (fun (V : Int) (h : E = V) (hv : V ≠ 0) => show clE ls = V by rw [HX.out, ← HT.out, if_pos (by rw [h]; exact hv), h])
      have HG := Lib.hid (fun (h : E = 0) => show clF (i + 1) (ls.drop (i + 1)) = clF 0 ls by rw [← HT.out, if_neg (by rw [h]; simp)])
      by_cases f1 : xf < 1
      · have V := Lib.hid (HS.out 3 (by rw [HE.out, if_pos (.inl f1)]) (by omega))
        go_wp2_with fail
        go_ret
        exact ⟨ret_int (by rw [V.out]), hbc⟩
      by_cases f2 : 7 < xf
      · have V := Lib.hid (HS.out 3 (by rw [HE.out, if_pos (.inr f2)]) (by omega))
        go_wp2_with fail
        go_ret
        exact ⟨ret_int (by rw [V.out]), hbc⟩
      have HE2 := Lib.hid (HE.out.trans (if_neg (by omega)))
      by_cases s1 : xs < 0
      · have V := Lib.hid (HS.out 2 (by rw [HE2.out, if_pos (.inl s1)]) (by omega))
        go_wp2_with fail
        go_ret
        exact ⟨ret_int (by rw [V.out]), hbc⟩
      by_cases s2 : 32767 < xs
      · have V := Lib.hid (HS.out 2 (by rw [HE2.out, if_pos (.inr s2)]) (by omega))
        go_wp2_with fail
        go_ret
        exact ⟨ret_int (by rw [V.out]), hbc⟩
      have HE3 := Lib.hid (HE2.out.trans (if_neg (by omega)))
      by_cases c1 : ce = 0
      · have HE4 := Lib.hid (HE3.out.trans (if_neg (by rw [c1]; simp)))
        subst c1
        by_cases r1 : xr < 0
        · have V := Lib.hid (HS.out 5 (by rw [HE4.out, if_pos (.inl r1)]) (by omega))
          go_wp2_with (go_at_call 25; refine (ca.out _).mono ?_; rintro er w5 ⟨rfl, hb5⟩; have t3 : w5.cell? ⟨p, 3, none⟩ = some (.int .i64 xr) := (Bx.below hb5).cell 3 rfl)
          go_ret
          exact ⟨ret_int (by rw [V.out]), below_trans' hbc hbc.size hb5⟩
        by_cases r2 : (i : Int) < xr
        · have V := Lib.hid (HS.out 5 (by rw [HE4.out, if_pos (.inr r2)]) (by omega))
          go_wp2_with (go_at_call 25; refine (ca.out _).mono ?_; rintro er w5 ⟨rfl, hb5⟩; have t3 : w5.cell? ⟨p, 3, none⟩ = some (.int .i64 xr) := (Bx.below hb5).cell 3 rfl)
          go_ret
          exact ⟨ret_int (by rw [V.out]), below_trans' hbc hbc.size hb5⟩
        have V := Lib.hid (HG.out (by rw [HE4.out, if_neg (by omega)]))
        go_wp2_with (go_at_call 25; refine (ca.out _).mono ?_; rintro er w5 ⟨rfl, hb5⟩; have t3 : w5.cell? ⟨p, 3, none⟩ = some (.int .i64 xr) := (Bx.below hb5).cell 3 rfl)
        go_roundw
        case measure => rw [intOf, intOf]; omega
        case rel => exact ⟨i + 1, by simp, by omega, V.out, below_trans' hbc hbc.size hb5⟩
      · have V := Lib.hid (HS.out ce (by rw [HE3.out, if_pos c1]) c1)
        go_wp2_with (go_at_call 25; refine (ca.out _).mono ?_; rintro er w5 ⟨rfl, hb5⟩)
        go_ret
        exact ⟨ret_int (by rw [V.out]), below_trans' hbc hbc.size hb5⟩
    · have : i = n := by omega
      subst this
      have HT := Lib.hid (show clE ls = 0 by rw [HX.out, ← ht, List.drop_eq_nil_of_le (by omega), clF])
      clear ht
      go_wp2_with fail
      go_ret
      exact ⟨ret_int (by rw [HT.out]), hbw⟩
end Go.Proofs.Ytjpbmeonkfkgdaa
