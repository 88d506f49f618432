/- search.try, whole. -/
import Derived.Test.YtogbapdioccamaaE57
namespace Go.Proofs.Ytogbapdioccamaa
open Go.RowKit

theorem cell_grown {w w' : World} {g : Nat} {p : Addr} {u : Value} (hg : w.grownBy w' (some g)) (hp : p.block ≠ g) (h : w.cell? p = some u) : w'.cell? p = some u :=
  (World.cell?_of_block (hg.block _ (World.block_lt_of_cell? _ _ h) (by intro e; injection e with e; exact hp e))).trans h

set_option maxRecDepth 100000 in
set_option maxHeartbeats 4000000 in
theorem try_any (g n m l c d e0 : Nat) (A M L0 : Option Addr) (xs : List It) (ms : List Int) (G : Good xs ms n m) (hxl : xs.length = n) (hpl : (posN xs).length = l)
    (hnA : ∀ ad, A = some ad → ad.block ≠ g) (hnM : ∀ ad, M = some ad → ad.block ≠ g) (hnL : ∀ ad, L0 = some ad → ad.block ≠ g) :
    ∀ (dd at0 : Nat), l - at0 = dd → at0 ≤ l → ∀ (pre : List Nat) (B : Option Addr) (k e1 : Nat) (acc : Acc) (V : Value) (v : Int) (w : World),
      Blk w g 42 #[.slice A n c, .slice M m d, .slice L0 l e0, V, .int .i64 v] → AccV w g acc V v → Sl w 6 itC A n xs → Sl w 1 intC M m ms → Sl w 1 intC L0 l (ints (posN xs)) → Sl w 1 intC B k (ints pre) → (∀ ad, B = some ad → ad.block ≠ g) →
      (B = none → k = 0 ∧ e1 = 0) → k ≤ at0 → k ≤ e1 ∧ e1 ≤ maxLen → Fits xs (posN xs) pre ((posN xs).drop at0) →
      Calls Try.prog 25 #[.pointer (some ⟨g, 0, none⟩), .int .i64 at0, .slice B k e1] w fun e w' => TryP g A M L0 n m l c d e0 (fmQ xs ms pre ((posN xs).drop at0) acc) w e w' := by
  have hln : l ≤ 4096 := by
    have h1 := posT_len xs xs.length
    have h2 := G.n1
    unfold posN at hpl
    omega
  intro dd
  induction dd with
  | zero =>
    intro at0 hdd hat pre B k e1 acc V v w hb hacc ha hm hl hB hnB hBn hk hke hf
    obtain rfl : at0 = l := by omega
    rw [List.drop_eq_nil_of_le (by omega)] at hf ⊢
    rw [fmQ_nil]
    obtain ⟨h1, h2⟩ := hf.leaf
    exact try_leaf g n m at0 c d e0 A M L0 xs ms G hln pre B k e1 acc V v w hb hacc ha hm hB hnB h2 (brok_of_seq hxl h1) hk
  | succ dd ih =>
    intro at0 hdd hat pre B k e1 acc V v w hb hacc ha hm hl hB hnB hBn hk hke hf
    have hlt : at0 < l := by omega
    have IH := Lib.hid (ih (at0 + 1) (by omega) (by omega))
    clear ih
    rw [drop_at (by omega : at0 < (posN xs).length)] at hf ⊢
    rw [fmQ_cons]
    have hbn := posN_lt (xs := xs) (j := at0) (by omega)
    rw [hxl] at hbn
    obtain ⟨adL, rfl, hadl, r⟩ := hl.int hlt
    rw [gI_ints (by omega)] at r
    have HF1 := Lib.hid hf.take
    have HF2 := Lib.hid (fun h => hf.skip (xs := xs) h)
    have cf := fun W h => mforced_any A n c xs (gN (posN xs) at0 : Int) W h
    rw [forI_at (by omega), show (decide ((gT xs (gN (posN xs) at0)).kind = 3) && decide ((gT xs (gN (posN xs) at0)).cost = -10000)) = fbm xs (gN (posN xs) at0) by unfold fbm forcedI; rfl] at cf
    have hs2 : w.cell? ⟨g, 2, none⟩ = some (.slice (some adL) l e0) := hb.cell 2 rfl
    have hadg : (adL.add at0).block ≠ g := by rw [block_add]; exact hnL adL rfl
    have h1 : ((at0 : Int) == (l : Int)) = false := by simp; omega
    have i0 : (0 : Int) ≤ (at0 : Int) := by omega
    have i1 : (at0 : Int) < (l : Int) := by omega
    have i2 : IntKind.i64.wrap ((at0 : Int) + 1) = (at0 : Int) + 1 := IntWalk.i64_in _ (by omega)
    have HLIT := Lib.hid (fun w2 b => lit_sl (w := w2) (xs := [(b : Int)]) (cs := #[.int .i64 b]) rfl (by unfold maxLen; simp))
    have HPL := Lib.hid hpl
    have hke1 : k ≤ e1 := hke.1
    have hke2 := hke.2
    unfold maxLen at hke2
    clear hf hpl hke
    generalize gN (posN xs) at0 = b at *
    generalize (posN xs).drop (at0 + 1) = R at *
    have hm1 : k + 1 ≤ 8192 := by omega
    obtain ⟨T, hT⟩ : ∃ T, T = if fbm xs b = true then fmQ xs ms (pre ++ [b]) R acc else fmQ xs ms pre R (fmQ xs ms (pre ++ [b]) R acc) := ⟨_, rfl⟩
    rw [← hT]
    have HT := Lib.hid hT
    clear hT
    go_enter Try.func25, Try.ntmps25
    go_upto_region 4 with fail
    go_region_held3 (fun w' => w'.cell? ⟨g, 2, none⟩ = some (.slice (some adL) l e0) ∧ w'.cell? (adL.add at0) = some (.int .i64 b))
      (first | go_keep | (refine keep2 hb9 ?_; assumption) | exact ⟨s9, r9⟩)
      (first
        | (refine step_grow elemI (by omega) (by rfl) (.tmp 60) (.tmp 68) (by rfl) B k k (ints pre) (by rfl) (fun h => ⟨(hBn h).1, (hBn h).1⟩) (hB.below (((Below.refl _ _).alloc (Nat.le_refl _) _).drew)) ⟨w.heap.size, 0, none⟩ 1 1 [(b : Int)] (by rfl) ((HLIT.out w b).drewN 1) (by omega) hm1 ?_; intro A5 c5 w5 ho5 hg5; have H5 : w.grownBy w5 none := (gb_below (((Below.refl w.heap.size w).alloc (Nat.le_refl _) (.cells #[.int .i64 b] 3)).drew) none).trans hg5; have G5 : w.grownBy w5 (some g) := grown_some H5; have b5 := hb.keep H5 (by simp); have s9 : w5.cell? ⟨g, 2, none⟩ = some (.slice (some adL) l e0) := b5.cell 2 rfl; have r9 := cell_grown G5 hadg r; obtain ⟨g5, rfl, hg5b, hg5l⟩ := ho5.form (by omega); have hc5 := ho5.cap; have hgg5 : g5 ≠ g := by have := hb.lt; simp at hg5b; omega)
        | (go_at_call 25; refine (IH.out (pre ++ [b]) (some ⟨g5, 0, none⟩) (k + 1) c5 acc V v w5 b5 (hacc.grown G5) (ha.grown G5 hnA) (hm.grown G5 hnM) (hl.grown G5 hnL) (by rw [ints_snoc]; exact ho5.sl intC_len) (fun ad e => by injection e with e; subst e; exact hgg5) (fun h => by cases h) (by omega) hc5 HF1.out).mono ?_; rintro e w6 ⟨rfl, hg6, V6, v6, b6, hacc6⟩; have G6 : w.grownBy w6 (some g) := G5.trans hg6; have s9 : w6.cell? ⟨g, 2, none⟩ = some (.slice (some adL) l e0) := b6.cell 2 rfl; have r9 := cell_grown hg6 hadg r9))
    have s0 : w6.cell? ⟨g, 0, none⟩ = some (.slice A n c) := b6.cell 0 rfl
    have ha6 := ha.grown G6 hnA
    have cf6 := fun q => cf (w6.drewN q) (ha6.drewN q)
    cases hfm : fbm xs b
    · rw [hfm] at cf6
      have hT2 := HT.out
      rw [if_neg (by rw [hfm]; simp)] at hT2
      have HT2 := Lib.hid hT2
      clear hT2
      have HF3 := Lib.hid (HF2.out hfm)
      have G7 : ∀ q, w6.grownBy (w6.drewN q) (some g) := fun q => ⟨rfl, rfl, rfl, Nat.le_refl _, fun _ _ _ => rfl⟩
      have HIH := Lib.hid (fun q => IH.out pre B k e1 (fmQ xs ms (pre ++ [b]) R acc) V6 v6 (w6.drewN q) (b6.drewN q) (hacc6.grown (G7 q)) (ha6.drewN q) ((hm.grown G6 hnM).drewN q) ((hl.grown G6 hnL).drewN q) ((hB.grown G6 hnB).drewN q) hnB hBn (by omega) ⟨hke1, by unfold maxLen; exact hke2⟩ HF3.out)
      clear hfm cf
      go_wp2_with fail
      go_quiet ((go_at_call 47; exact Calls.quiet_of_same (cf6 _)))
      go_wp2_with (first
        | (go_at_call 25; refine (HIH.out _).mono ?_; rintro e w8 ⟨rfl, hg8, V8, v8, b8, hacc8⟩))
      go_end0
      rw [HT2.out]
      exact ⟨rfl, (G6.trans (G7 _)).trans hg8, V8, v8, b8, hacc8⟩
    · rw [hfm] at cf6
      have hT2 := HT.out
      rw [if_pos hfm] at hT2
      have HT2 := Lib.hid hT2
      clear hT2
      have G7 : ∀ q, w6.grownBy (w6.drewN q) (some g) := fun q => ⟨rfl, rfl, rfl, Nat.le_refl _, fun _ _ _ => rfl⟩
      clear hfm cf
      go_wp2_with fail
      go_quiet ((go_at_call 47; exact Calls.quiet_of_same (cf6 _)))
      go_wp2_with fail
      go_end0
      rw [HT2.out]
      exact ⟨rfl, G6.trans (G7 _), V6, v6, b6.drewN _, hacc6.grown (G7 _)⟩
end Go.Proofs.Ytogbapdioccamaa
