/- search.try. -/
import Derived.Test.YtogbapdioccamaaE56
import Derived.Deep.RegionHeld3
import Derived.Deep.QuietTactic
import Derived.BigQuiet
namespace Go.Proofs.Ytogbapdioccamaa
open Go.RowKit

theorem keep2 {w w' : World} {p0 p1 : Addr} {v0 v1 : Value} (hb : Below w.heap.size w w') (h : w.cell? p0 = some v0 ∧ w.cell? p1 = some v1) : w'.cell? p0 = some v0 ∧ w'.cell? p1 = some v1 := by
  have k : ∀ p v, w.cell? p = some v → w'.cell? p = some v := fun p v h => (hb.cell (World.block_lt_of_cell? _ _ h)).trans h
  exact ⟨k _ _ h.1, k _ _ h.2⟩
def TryP (g : Nat) (A M L0 : Option Addr) (n m l c d e0 : Nat) (acc : Acc) (w : World) (e : Ending) (w' : World) : Prop :=
  e = .returned (.tuple #[]) ∧ w.grownBy w' (some g) ∧ ∃ V v, Blk w' g 42 #[.slice A n c, .slice M m d, .slice L0 l e0, V, .int .i64 v] ∧ AccV w' g acc V v
theorem try_store {g n m l c d e0 k g5 c5 : Nat} {A M L0 : Option Addr} {pre : List Nat} {ct v : Int} {V : Value} {w wc w5 : World} {o : Obj} {B : Nat} (hz : Below w.heap.size w wc) (b5 : Blk w5 g 42 #[.slice A n c, .slice M m d, .slice L0 l e0, V, .int .i64 v])
    (hg5 : (wc.alloc o).grownBy w5 none) (ho5 : Own w5 B 3 1 intC (some ⟨g5, 0, none⟩) k c5 (ints pre)) (hgg : g5 ≠ g) (hne : pre ≠ []) (hpl : pre.length = k) :
    TryP g A M L0 n m l c d e0 (some (pre, ct)) w (.returned (.tuple #[])) ((w5.setCell ⟨g, 3, none⟩ (.slice (some ⟨g5, 0, none⟩) k c5)).setCell ⟨g, 4, none⟩ (.int .i64 ct)) := by
  have h1 : w5.grownBy ((w5.setCell ⟨g, 3, none⟩ (.slice (some ⟨g5, 0, none⟩) k c5)).setCell ⟨g, 4, none⟩ (.int .i64 ct)) (some g) :=
    only_set (only_set (⟨rfl, rfl, rfl, Nat.le_refl _, fun _ _ _ => rfl⟩ : w5.grownBy w5 (some g)) 3 _) 4 _
  refine ⟨rfl, (grown_of_below hz).trans ((grown_of_below ((Below.refl _ _).alloc (Nat.le_refl _) o)).trans ((grown_some hg5).trans h1)), .slice (some ⟨g5, 0, none⟩) k c5, ct, (b5.set_ 3 _).set_ 4 _, g5, c5, by rw [hpl], hgg, hne, rfl, ?_⟩
  show Sl _ 1 intC (some ⟨g5, 0, none⟩) pre.length (ints pre)
  rw [hpl]
  exact (ho5.sl intC_len).grown h1 (fun ad e => by injection e with e; subst e; exact hgg)

set_option maxRecDepth 100000 in
set_option maxHeartbeats 4000000 in
theorem try_leaf (g n m l c d e0 : Nat) (A M L0 : Option Addr) (xs : List It) (ms : List Int) (G : Good xs ms n m) (hln : l ≤ 4096) (pre : List Nat) (B : Option Addr) (k e1 : Nat) (acc : Acc) (V : Value) (v : Int) (w : World)
    (hb : Blk w g 42 #[.slice A n c, .slice M m d, .slice L0 l e0, V, .int .i64 v]) (hacc : AccV w g acc V v) (ha : Sl w 6 itC A n xs) (hm : Sl w 1 intC M m ms) (hB : Sl w 1 intC B k (ints pre)) (hnB : ∀ ad, B = some ad → ad.block ≠ g)
    (hne : pre ≠ []) (hbr : BrOk xs n pre) (hk : k ≤ l) :
    Calls Try.prog 25 #[.pointer (some ⟨g, 0, none⟩), .int .i64 l, .slice B k e1] w fun e w' => TryP g A M L0 n m l c d e0 (better acc (pre, costF xs ms pre)) w e w' := by
  have hpl : pre.length = k := by have := hB.len; rw [ints_len] at this; exact this
  have hk0 : 0 < k := by rw [← hpl]; exact List.length_pos_iff.2 hne
  obtain ⟨ad, rfl, hal, -⟩ := hB.rd hk0
  have kl := fun W h1 h2 h3 => mlines_any A M (some ad) n m k c d e1 pre xs ms W h1 h2 h3 hbr.rise G.n1 ⟨G.m0, by have := G.m1; omega⟩ (by omega) G.R G.M
  have s2 : w.cell? ⟨g, 2, none⟩ = some (.slice L0 l e0) := hb.cell 2 rfl
  have s0 : w.cell? ⟨g, 0, none⟩ = some (.slice A n c) := hb.cell 0 rfl
  have s1 : w.cell? ⟨g, 1, none⟩ = some (.slice M m d) := hb.cell 1 rfl
  have HC := Lib.hid (show costF xs ms pre = costN xs ms pre k by unfold costF; rw [hpl])
  have HPL := Lib.hid hpl
  clear hpl
  generalize costN xs ms pre k = ct at *
  go_enter Try.func25, Try.ntmps25
  go_upto_region 1 with fail
  have hz := Below.refl w.heap.size w
  go_cut [7] (fun v7 wx => v7 = .int .i64 ct ∧ Below w.heap.size w wx)
  case first =>
    go_region_held3 (fun w' => w'.cell? ⟨g, 0, none⟩ = some (.slice A n c) ∧ w'.cell? ⟨g, 1, none⟩ = some (.slice M m d))
      (first | go_keep | (refine keep2 hb9 ?_; assumption))
      (first | (go_at_call 27; refine (kl _ (ha.below hz.drew) (hm.below hz.drew) (hB.below hz.drew)).mono ?_; rintro e w' ⟨A7, c7, rfl, ho7, hb9⟩; have hz := below_trans' hz.drew hz.size hb9))
    all_goals go_wp2_with fail
    all_goals go_meet
    case rel => exact ⟨rfl, hz⟩
  case rest =>
    obtain ⟨rfl, hz⟩ := hcut
    have hb2 := hb.below hz
    have hB2 := hB.below hz
    have t3 : wc.cell? ⟨g, 3, none⟩ = some V := hb2.cell 3 rfl
    have t4 : wc.cell? ⟨g, 4, none⟩ = some (.int .i64 v) := hb2.cell 4 rfl
    have f3 := hb2.frozen 3
    have f4 := hb2.frozen 4
    clear s0 s1 s2 kl hB ha hm hal
    cases acc with
    | none =>
      obtain ⟨rfl, rfl⟩ := hacc
      have hB3 := sl_alloc hB2 (.cells #[] 3)
      have hb3 := hb2.alloc (.cells #[] 3)
      go_wp2_with (at_builtin; refine wpList_grow elemI (by omega) rfl (.tmp 44) (.tmp 45) rfl (some ⟨wc.heap.size, 0, none⟩) 0 0 [] rfl (fun h => by cases h) ⟨rfl, fun h => absurd h (by omega)⟩ ad k e1 (ints pre) rfl hB3 (by omega) (by omega) ?_; intro A5 c5 w5 ho5 hg5; obtain ⟨g5, rfl, hg5b, hg5l⟩ := ho5.form (by omega); have b5 := hb3.keep hg5 (by simp); have u3 : w5.cell? ⟨g, 3, none⟩ = some (.slice none 0 0) := b5.cell 3 rfl; have u3f := b5.frozen 3; have b6 := b5.set_ 3 (.slice (some ⟨g5, 0, none⟩) (0 + k) c5); have u4 : (w5.setCell ⟨g, 3, none⟩ (.slice (some ⟨g5, 0, none⟩) (0 + k) c5)).cell? ⟨g, 4, none⟩ = some (.int .i64 0) := b6.cell 4 rfl; have u4f := b6.frozen 4; rw [Nat.zero_add] at u4 u4f)
      go_end0
      rw [Nat.zero_add, List.nil_append] at ho5
      rw [show better none (pre, costF xs ms pre) = some (pre, ct) by rw [HC.out]; rfl]
      exact try_store hz b5 hg5 ho5 (by have := hb2.lt; simp at hg5b; omega) hne HPL.out
    | some y =>
      obtain ⟨s0, y0⟩ := y
      obtain ⟨g2, c2, rfl, hg2, hne2, rfl, hs2⟩ := hacc
      simp only at t3 t4 hb hb2 hs2 hne2
      have hl2 : ((s0.length : Int) == 0) = false := by
        have := List.length_pos_iff.2 hne2
        simp
        omega
      have HS2 := Lib.hid hs2
      have HNE := Lib.hid hne2
      clear hs2 hne2
      generalize hsl : s0.length = sl at *
      have HSL := Lib.hid hsl
      clear hsl
      by_cases hlt : ct < v
      · have e1' : decide (ct < v) = true := decide_eq_true hlt
        have HLT := Lib.hid hlt
        clear hlt
        have hB3 := sl_alloc hB2 (.cells #[] 3)
        have hb3 := hb2.alloc (.cells #[] 3)
        go_wp2_with (at_builtin; refine wpList_grow elemI (by omega) rfl (.tmp 44) (.tmp 45) rfl (some ⟨wc.heap.size, 0, none⟩) 0 0 [] rfl (fun h => by cases h) ⟨rfl, fun h => absurd h (by omega)⟩ ad k e1 (ints pre) rfl hB3 (by omega) (by omega) ?_; intro A5 c5 w5 ho5 hg5; obtain ⟨g5, rfl, hg5b, hg5l⟩ := ho5.form (by omega); have b5 := hb3.keep hg5 (by simp); have u3 : w5.cell? ⟨g, 3, none⟩ = some (.slice (some ⟨g2, 0, none⟩) sl c2) := b5.cell 3 rfl; have u3f := b5.frozen 3; have b6 := b5.set_ 3 (.slice (some ⟨g5, 0, none⟩) (0 + k) c5); have u4 : (w5.setCell ⟨g, 3, none⟩ (.slice (some ⟨g5, 0, none⟩) (0 + k) c5)).cell? ⟨g, 4, none⟩ = some (.int .i64 v) := b6.cell 4 rfl; have u4f := b6.frozen 4; rw [Nat.zero_add] at u4 u4f)
        go_end0
        rw [Nat.zero_add, List.nil_append] at ho5
        rw [show better (some (s0, v)) (pre, costF xs ms pre) = some (pre, ct) by rw [HC.out]; exact if_pos HLT.out]
        exact try_store hz b5 hg5 ho5 (by have := hb2.lt; simp at hg5b; omega) hne HPL.out
      · have e1' : decide (ct < v) = false := decide_eq_false hlt
        have HLT := Lib.hid hlt
        clear hlt
        go_wp2_with fail
        go_end0
        rw [show better (some (s0, v)) (pre, costF xs ms pre) = some (s0, v) by rw [HC.out]; exact if_neg (Int.not_lt.2 HLT.out)]
        exact ⟨rfl, grown_of_below hz, _, _, hb2, g2, c2, by rw [HSL.out], hg2, HNE.out, rfl, by have := HS2.out.below hz; rw [← HSL.out] at this; exact this⟩

end Go.Proofs.Ytogbapdioccamaa
