/- known: the chapter's examples. -/
import Derived.Test.YtbeollddmglkcaaA1
import Derived.Test.YtbeollddmglkcaaA8
import Derived.Test.YtbeollddmglkcaaC3
namespace Go.Proofs.Ytbeollddmglkcaa
open Go.RowKit

def exH : List Hd := [1, 2, 4, 2, 1, 3].map hdL
theorem ex_path : pathOf (lvs exH) 2 = [1, 1, 1] := by decide
theorem ex_scope : scopeEnd (lvs exH) 6 0 = 4 := by decide
theorem ex_par : (List.range 6).map (par (lvs exH)) = [-1, 0, 1, 0, -1, 4] := by decide
theorem ex_kept : (exH.filter (keptB 2 4)) = [2, 4, 2, 3].map hdL := by kernel_rfl
theorem ex_len : (exH.filter (keptB 2 4)).length = 4 := by rw [ex_kept]; rfl
theorem ex_dep1 : (pathOf (lvs (exH.filter (keptB 2 4))) 1).length = 2 := by rw [ex_kept]; decide
theorem ex_dep2 : (pathOf (lvs (exH.filter (keptB 2 4))) 2).length = 1 := by rw [ex_kept]; decide
theorem ex_title : mkS (titleB (byts ⟨#[32, 65, 9, 32, 110, 111, 116, 101, 239, 191, 188, 10]⟩)) = ⟨#[65, 32, 110, 111, 116, 101]⟩ := by kernel_rfl

theorem ex_path_c (A : Option Addr) (c : Nat) (w : World) (ha : Sl w 5 hdC A 6 exH) :
    Calls Try.prog 20 #[.slice A 6 c, .int .i64 2] w fun e w' => ∃ A' c', e = .returned (.tuple #[.slice A' 3 c', .int .i64 0]) ∧ Own w' w.heap.size 3 1 intC A' 3 c' [1, 1, 1] ∧ Below w.heap.size w w' := by
  have h := path_any A 6 c exH 2 w ha (by omega) (by omega)
  rw [ex_path] at h
  exact h
theorem ex_scope_c (A : Option Addr) (c : Nat) (w : World) (ha : Sl w 5 hdC A 6 exH) :
    Calls Try.prog 10 #[.slice A 6 c, .int .i64 0] w fun e w' => e = .returned (.tuple #[.int .i64 4, .int .i64 0]) ∧ Below w.heap.size w w' := by
  have h := scope_any A 6 c exH 0 w ha (by unfold maxLen; omega) (by omega)
  rw [ex_scope] at h
  exact h
theorem ex_contents_c (A : Option Addr) (c : Nat) (w : World) (ha : Sl w 5 hdC A 6 exH) :
    Calls Try.prog 13 #[.slice A 6 c, .int .i64 2, .int .i64 4] w fun e w' => ∃ g c', e = .returned (.tuple #[.slice (some ⟨g, 0, none⟩) 4 c', .int .i64 0]) ∧ g < w'.heap.size ∧ w'.cell? ⟨g, 11, none⟩ = some (.int .i64 2) ∧ w'.cell? ⟨g, 17, none⟩ = some (.int .i64 1) ∧ Below w.heap.size w w' := by
  have h := contents_any A 6 c exH 2 4 w ha (by omega) (by omega) (by omega) (by omega)
  rw [ex_len] at h
  refine h.mono ?_
  rintro e w' ⟨A', c', he, ho, hb⟩
  obtain ⟨g, x, hA, _, hg, hx, hc⟩ := ho.field enC_len (k := 1) (by omega)
  subst hA
  obtain ⟨g', y, hA, _, _, hy, hc2⟩ := ho.field enC_len (k := 2) (by omega)
  cases hA
  unfold entries at hx hy
  rw [List.getElem?_map, List.getElem?_range (by rw [ex_len]; omega)] at hx hy
  have e1 : x.depth = 2 := by injection hx with hx; rw [← hx]; show ((pathOf _ 1).length : Int) = 2; rw [ex_dep1]; rfl
  have e2 : y.depth = 1 := by injection hy with hy; rw [← hy]; show ((pathOf _ 2).length : Int) = 1; rw [ex_dep2]; rfl
  have c1 := hc 5 _ rfl
  have c2 := hc2 5 _ rfl
  rw [e1] at c1
  rw [e2] at c2
  exact ⟨g, c', he, hg, c1, c2, hb⟩
theorem ex_parents_c (A : Option Addr) (c : Nat) (w : World) (ha : Sl w 5 hdC A 6 exH) :
    Calls Try.prog 15 #[.slice A 6 c] w fun e w' => ∃ A' c', e = .returned (.slice A' 6 c') ∧ Own w' w.heap.size 3 1 intC A' 6 c' [-1, 0, 1, 0, -1, 4] ∧ Below w.heap.size w w' := by
  have h := parents_any A 6 c exH w ha (by omega)
  rw [ex_par] at h
  exact h
theorem ex_same_c (A B : Option Addr) (n m c d : Nat) (xs : List Int) (w : World) (ha : Sl w 1 intC A n xs) (hb : Sl w 1 intC B m xs) (hn : n ≤ 65536) :
    Calls Try.prog 19 #[.slice A n c, .slice B m d] w fun e w' => e = .returned (.bool true) ∧ Below w.heap.size w w' := by
  have h := same_any A B n m c d xs xs w ha hb (by unfold maxLen; omega) (by have := ha.len; have := hb.len; unfold maxLen; omega)
  rw [decide_eq_true rfl] at h
  exact h
theorem ex_title_c (w : World) :
    Calls Try.prog 24 #[.string ⟨#[32, 65, 9, 32, 110, 111, 116, 101, 239, 191, 188, 10]⟩] w fun e w' => e = .returned (.string ⟨#[65, 32, 110, 111, 116, 101]⟩) ∧ Below w.heap.size w w' := by
  have h := title_any ⟨#[32, 65, 9, 32, 110, 111, 116, 101, 239, 191, 188, 10]⟩ w (by show 12 ≤ 65536; omega)
  rw [ex_title] at h
  exact h
theorem lit_sl {w : World} {xs : List Int} {cs : Array Value} (h : (xs.map (Value.int .i64)).toArray = cs) (hm : xs.length ≤ maxLen) : Sl (w.alloc (.cells cs 3)) 1 intC (some ⟨w.heap.size, 0, none⟩) xs.length xs := by
  subst h
  have := (Own.lit (w := w) (B := 0) (e := 3) (s := 1) (enc := intC) (xs := xs) (Nat.zero_le _) (by rw [flat_int]; simp) hm).sl intC_len
  rw [flat_int] at this
  exact this

set_option maxHeartbeats 4000000 in
theorem known_any (w : World) : Calls Try.prog 11 #[] w fun e w' => e = .returned (.bool true) ∧ Below w.heap.size w w' := by
  have hl := lit_sl (w := w) (xs := [1, 2, 4, 2, 1, 3]) (cs := #[.int .i64 1, .int .i64 2, .int .i64 4, .int .i64 2, .int .i64 1, .int .i64 3]) rfl (by unfold maxLen; simp)
  go_enter Try.func11, Try.ntmps11
  go_wp2_with (first
    | (go_at_call 26; refine (levels_any _ 6 6 _ _ hl (by omega)).mono ?_; rintro e w1 ⟨A1, c1, rfl, ho1, hb1⟩; have hs1 := ho1.sl hdC_len; have hbw1 := ((Below.refl w.heap.size w).alloc (Nat.le_refl _) (.cells #[.int .i64 1, .int .i64 2, .int .i64 4, .int .i64 2, .int .i64 1, .int .i64 3] 3)).trans (hb1.mono (by simp)))
    | (go_at_call 20; refine (ex_path_c A1 c1 _ hs1).mono ?_; rintro e w2 ⟨A2, c2, rfl, ho2, hb2⟩; have hs2 := hs1.below hb2; have hbw2 := below_trans' hbw1 hbw1.size hb2)
    | (go_at_call 10; refine (ex_scope_c A1 c1 _ hs2).mono ?_; rintro e w3 ⟨rfl, hb3⟩; have hs3 := hs2.below hb3; have hbw3 := below_trans' hbw2 hbw2.size hb3; have ho3 := ho2.below hb3)
    | (go_at_call 13; refine (ex_contents_c A1 c1 _ hs3).mono ?_; rintro e w4 ⟨g4, c4, rfl, hg4, hq1, hq2, hb4⟩; have hs4 := hs3.below hb4; have hbw4 := below_trans' hbw3 hbw3.size hb4; have ho4 := ho3.below hb4)
    | (go_at_call 15; refine (ex_parents_c A1 c1 _ hs4).mono ?_; rintro e w5 ⟨A5, c5, rfl, ho5, hb5⟩; have hbw5 := below_trans' hbw4 hbw4.size hb5; have ho6 := ho4.below hb5))
  have hl5 := lit_sl (w := w5) (xs := [-1, 0, 1, 0, -1, 4]) (cs := #[.int .i64 (-1), .int .i64 0, .int .i64 1, .int .i64 0, .int .i64 (-1), .int .i64 4]) rfl (by unfold maxLen; simp)
  refine (ex_same_c A5 _ 6 6 c5 6 [-1, 0, 1, 0, -1, 4] _ ((ho5.alloc _).sl intC_len) hl5 (by omega)).mono ?_
  rintro e w6 ⟨rfl, hb6⟩
  have hb46 : Below w4.heap.size w4 w6 := (hb5.alloc hb5.size _).trans (hb6.mono (Nat.le_trans hb5.size (by simp)))
  have ho7 := (ho6.alloc (.cells #[.int .i64 (-1), .int .i64 0, .int .i64 1, .int .i64 0, .int .i64 (-1), .int .i64 4] 3)).below hb6
  clear ho6 hl5 ho5 hs4 hs3 hs2 hs1 hl
  have hl6 := lit_sl (w := w6) (xs := [1, 1, 1]) (cs := #[.int .i64 1, .int .i64 1, .int .i64 1]) rfl (by unfold maxLen; simp)
  go_wp2_with (first
    | (go_at_call 19; refine (ex_same_c A2 _ 3 3 c2 3 [1, 1, 1] _ ((ho7.alloc _).sl intC_len) hl6 (by omega)).mono ?_; rintro e w7 ⟨rfl, hb7⟩; have hb47 : Below w4.heap.size w4 w7 := (hb46.alloc hb46.size _).trans (hb7.mono (Nat.le_trans hb46.size (by simp))); have hr1 := (hb47.cell (p := ⟨g4, 11, none⟩) hg4).trans hq1; have hr2 := (hb47.cell (p := ⟨g4, 17, none⟩) hg4).trans hq2)
    | (go_at_call 24; refine (ex_title_c w7).mono ?_; rintro e w8 ⟨rfl, hb8⟩))
  go_ret
  exact ⟨rfl, below_trans' hbw4 hbw4.size (below_trans' hb47 hb47.size hb8)⟩
end Go.Proofs.Ytbeollddmglkcaa
