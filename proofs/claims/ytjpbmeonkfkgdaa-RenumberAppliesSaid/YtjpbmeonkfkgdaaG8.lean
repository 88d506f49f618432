/- The law's marks. -/
import Derived.Test.YtjpbmeonkfkgdaaG6
namespace Go.Proofs.Ytjpbmeonkfkgdaa
open Go.RowKit

structure Tw where
  a : Int
  b : Int
def twC (p : Tw) : List Value := [.int .u8 p.a, .int .u8 p.b]
def TwOk (p : Tw) : Prop := 0 ≤ p.a ∧ p.a ≤ 255 ∧ 0 ≤ p.b ∧ p.b ≤ 255
def gW (xs : List Tw) (k : Nat) : Tw := xs.getD k ⟨0, 0⟩
def mkOf (n : Nat) (p : Tw) : Mk := ⟨1, 1 + p.a % n, if p.b % 4 = 3 then p.b else 0⟩
def marksP (n : Nat) (l : List Tw) (k : Nat) : List Mk := (l.take k).map (mkOf n)
theorem marksP_succ (n : Nat) (l : List Tw) {k : Nat} (h : k < l.length) : marksP n l (k + 1) = marksP n l k ++ [mkOf n (gW l k)] := by
  have : gW l k = l[k] := by unfold gW; rw [List.getD_eq_getElem?_getD, List.getElem?_eq_getElem h]; rfl
  unfold marksP
  rw [List.take_succ_eq_append_getElem h, List.map_append, this]
  rfl
theorem elemK : Elem Try.prog 28 61 3 24 := Elem.mk Try.underlying28 (z := .agg #[.int .i64 0, .int .i64 0, .int .i64 0]) (by kernel_rfl) rfl (by omega)
theorem Sl.tw {w : World} {A : Option Addr} {n : Nat} {xs : List Tw} (h : Sl w 2 twC A n xs) {k : Nat} (hk : k < n) :
    ∃ ad, A = some ad ∧ ad.block < w.heap.size ∧ w.cell? (ad.add (k * 2)) = some (.int .u8 (gW xs k).a) ∧ w.cell? ⟨(ad.add (k * 2)).block, (ad.add (k * 2)).off + 1, none⟩ = some (.int .u8 (gW xs k).b) := by
  obtain ⟨ad, e, hl, x, hx, hc⟩ := h.at_ hk
  have hg : gW xs k = x := by unfold gW; rw [List.getD_eq_getElem?_getD, hx]; rfl
  rw [hg]
  have f : ∀ j u, 0 < j → (twC x)[j]? = some u → w.cell? ⟨(ad.add (k * 2)).block, (ad.add (k * 2)).off + j, none⟩ = some u := fun j u hj hu => by
    have : w.cell? ((ad.add (k * 2)).add j) = w.cell? ⟨(ad.add (k * 2)).block, (ad.add (k * 2)).off + j, none⟩ := by
      unfold Addr.add; simp [Nat.ne_of_gt hj]
    rw [← this, add_add_]; exact hc j u hu
  exact ⟨ad, e, hl, hc 0 _ rfl, f 1 _ (by omega) rfl⟩
set_option maxHeartbeats 4000000 in
set_option maxRecDepth 100000 in
theorem marks_any (A : Option Addr) (n c : Nat) (AW : Option Addr) (m cm : Nat) (l : List Tw) (w : World) (hm : Sl w 2 twC AW m l) (hn : 0 < n) (hn9 : n ≤ 9) (hl : ∀ i, i < m → TwOk (gW l i)) :
    Calls Try.prog 8 #[.slice A n c, .slice AW m cm] w fun e w' => ∃ B k cB, e = .returned (.slice B k cB) ∧ k = min m 20 ∧ Own w' w.heap.size 61 3 mkC B k cB (marksP n l 20) ∧ Below w.heap.size w w' := by
  have hlm := hm.len
  have HLW := Lib.hid hl
  clear hl
  go_enter Try.func8, Try.ntmps8
  go_wp2_with fail
  go_loopw [5, 6] (fun vo vi wr => ∃ (i : Nat) (B : Option Addr) (cB : Nat), vo = .slice B i cB ∧ vi = .int .i64 i ∧ i ≤ m ∧ i ≤ 20 ∧ Own wr w.heap.size 61 3 mkC B i cB (marksP n l i) ∧ Below w.heap.size w wr) (fun _ vi _ => m - (intOf vi).toNat)
  case atStart => exact ⟨0, none, 0, rfl, rfl, Nat.zero_le _, Nat.zero_le _, Own.nil_ _ _ _ _ _, Below.refl _ _⟩
  case round =>
    obtain ⟨i, B, cB, rfl, rfl, hi, hi20, ho, hbw⟩ := hrel
    by_cases hlt : i < m ∧ i < 20
    · have hlt1 := hlt.1
      have h20 : (i : Int) < 20 := by omega
      obtain ⟨ad, e, hl2, k0, k1⟩ := (hm.below hbw).tw hlt.1
      subst e
      have HS := Lib.hid (marksP_succ n l (k := i) (by omega))
      have tok := HLW.out i hlt.1
      generalize gW l i = x at *
      obtain ⟨a, b⟩ := x
      unfold TwOk at tok
      simp only at k0 k1 tok
      have hw : IntKind.i64.wrap (1 + a % (n : Int)) = 1 + a % (n : Int) := IntWalk.i64_in _ (by have := Int.emod_nonneg a (show (n : Int) ≠ 0 by omega); have := Int.emod_lt_of_pos a (show (0 : Int) < n by omega); omega)
      have hw2 : wrap64 (1 + a % (n : Int)) = 1 + a % (n : Int) := by have := Int.emod_nonneg a (show (n : Int) ≠ 0 by omega); have := Int.emod_lt_of_pos a (show (0 : Int) < n by omega); unfold wrap64; omega
      go_upto_region 5 with fail
      go_cut [7] (fun v7 wx => ∃ p, v7 = .pointer (some ⟨p, 0, none⟩) ∧ wr.heap.size ≤ p ∧ Blk wx p 61 #[.int .i64 1, .int .i64 (1 + a % (n : Int)), .int .i64 0] ∧ Below wr.heap.size wr wx)
      case first =>
        go_wp2_with fail
        go_meet
        case rel => exact ⟨_, rfl, Nat.le_refl _, Blk.new _ _ _, (Below.refl _ _).alloc (Nat.le_refl _) _⟩
      case rest =>
      obtain ⟨p, rfl, hp, Bx, hb4⟩ := hcut
      have j1 := keep1 hb4 k1
      have ho4 := ho.below hb4
      have hbc := below_trans' hbw hbw.size hb4
      have hpB : ∀ g, blk B = some g → g ≠ p := fun g hg => by have := (ho.lt g hg).2; omega
      have q1 : wc.cell? ⟨p, 1, none⟩ = some (.int .i64 (1 + a % (n : Int))) := Bx.cell 1 rfl
      have q2 : wc.cell? ⟨p, 2, none⟩ = some (.int .i64 0) := Bx.cell 2 rfl
      have f2 := Bx.frozen 2
      clear k0 k1
      by_cases hb3 : b % 4 = 3
      · have HM := Lib.hid (show mkOf n ⟨a, b⟩ = ⟨1, 1 + a % n, b⟩ by unfold mkOf; simp [hb3])
        have By := Bx.set_ 2 (.int .i64 b)
        have HB := hbc.setCell (p := ⟨p, 2, none⟩) (Nat.le_trans hbw.size hp) (.int .i64 b)
        have HO := ho4.keep (gset wc p 2 (.int .i64 b)) (fun k hk e => hpB k e (by injection hk with hk; exact hk.symm))
        have r0 : (wc.setCell ⟨p, 2, none⟩ (.int .i64 b)).cell? ⟨p, 0, none⟩ = some (.int .i64 1) := By.cell 0 rfl
        have r1 : (wc.setCell ⟨p, 2, none⟩ (.int .i64 b)).cell? ⟨p, 1, none⟩ = some (.int .i64 (1 + a % (n : Int))) := By.cell 1 rfl
        have r2 : (wc.setCell ⟨p, 2, none⟩ (.int .i64 b)).cell? ⟨p, 2, none⟩ = some (.int .i64 b) := By.cell 2 rfl
        go_wp2_with (at_builtin; refine wpList_push elemK rfl (.tmp 43) (.tmp 45) rfl rfl _ rfl (HO.alloc _) (⟨1, 1 + a % n, b⟩ : Mk) _ rfl (by simp) (mkC_one _) rfl (by unfold maxLen; omega) (Nat.le_trans HB.size (by simp)) ?_; intro A3 c3 w3 ho3 hg3 ha3)
        go_roundw
        case measure => rw [intOf, intOf]; omega
        case rel => exact ⟨i + 1, A3, c3, rfl, by simp, by omega, by omega, by rw [HS.out, HM.out]; exact ho3, (HB.alloc HB.size _).grown hg3 (Nat.le_trans HB.size (by simp)) (fun k hk => (HO.lt k hk).1)⟩
      · have HM := Lib.hid (show mkOf n ⟨a, b⟩ = ⟨1, 1 + a % n, 0⟩ by unfold mkOf; simp [hb3])
        have HB := hbc
        have HO := ho4
        have q0 : wc.cell? ⟨p, 0, none⟩ = some (.int .i64 1) := Bx.cell 0 rfl
        go_wp2_with (at_builtin; refine wpList_push elemK rfl (.tmp 43) (.tmp 45) rfl rfl _ rfl (HO.alloc _) (⟨1, 1 + a % n, 0⟩ : Mk) _ rfl (by simp) (mkC_one _) rfl (by unfold maxLen; omega) (Nat.le_trans HB.size (by simp)) ?_; intro A3 c3 w3 ho3 hg3 ha3)
        go_roundw
        case measure => rw [intOf, intOf]; omega
        case rel => exact ⟨i + 1, A3, c3, rfl, by simp, by omega, by omega, by rw [HS.out, HM.out]; exact ho3, (HB.alloc HB.size _).grown hg3 (Nat.le_trans HB.size (by simp)) (fun k hk => (HO.lt k hk).1)⟩
    · have hk : i = min m 20 := by omega
      have HK := Lib.hid hk
      clear hk
      have HT := Lib.hid (show marksP n l i = marksP n l 20 by
        unfold marksP
        rcases (show (i = m ∧ m ≤ 20) ∨ i = 20 by have := HK.out; omega) with ⟨h1, h2⟩ | h1
        · rw [List.take_of_length_le (by omega), List.take_of_length_le (by omega)]
        · rw [h1])
      by_cases h3 : i < m
      · have h2 : i = 20 := by omega
        subst h2
        go_wp2_with fail
        go_ret
        first | exact ⟨_, _, _, rfl, HK.out, ho, hbw⟩ | exact ⟨_, _, _, rfl, rfl, ho, hbw⟩
      · have : i = m := by omega
        subst this
        go_wp2_with fail
        go_ret
        exact ⟨_, _, _, rfl, HK.out, by rw [← HT.out]; exact ho, hbw⟩
end Go.Proofs.Ytjpbmeonkfkgdaa
