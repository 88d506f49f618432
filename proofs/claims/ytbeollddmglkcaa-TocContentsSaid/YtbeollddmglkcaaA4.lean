/- Reverse, Path, Find. -/
import Derived.Test.YtbeollddmglkcaaA3
import Derived.Test.YtbeollddmglkcaaShelf
import Derived.Sort.OwnSortedInts
namespace Go.Proofs.Ytbeollddmglkcaa
open Go.RowKit

theorem reverse_own (A : Option Addr) (n c B : Nat) (xs : List Int) (w : World) (h : Own w B 3 1 intC A n c xs) :
    Calls Try.prog 27 #[.slice A n c] w fun e w' => e = .returned (.tuple #[]) ∧ Own w' B 3 1 intC A n c xs.reverse ∧ w.grownBy w' (blk A) := by
  have hfl : ∀ ys : List Int, ys.flatMap intC = ys.map (Value.int .i64) := fun ys => by
    induction ys with
    | nil => rfl
    | cons y ys ih => rw [List.flatMap_cons, ih]; rfl
  have hlen := h.len
  rcases h.row.2 with ⟨hv, hn⟩ | ⟨g, cap, cur, hv, hg, hh, h1, h2, h3, h4⟩
  · subst hn
    have hx : xs = [] := List.eq_nil_of_length_eq_zero hlen
    subst hx
    refine (Try.slices_Reverse_int_empty A c w).mono ?_
    rintro e w' ⟨rfl, rfl⟩
    exact ⟨rfl, h, World.grownBy.refl _ _⟩
  · cases hv
    subst hlen
    rw [Nat.mul_one, hfl] at h4
    have hc : xs.length ≤ 9223372036854775807 := by have := h.cap; unfold maxLen at this; omega
    refine (Try.slices_Reverse_int g 0 c xs w (Go.holds_of_blockI hh h4) hc).mono ?_
    rintro e w' ⟨rfl, k, rfl⟩
    have e1 := Go.ownsRow_sortedI (n := k) (os := #[]) (ts := xs.reverse) (by simp) hg hh h1 h2 h3
    have e2 := Go.grownBy_sortedI (w := w) (g := g) (n := k) (os := #[]) xs.reverse.toArray
    rw [Sort.grow_empty] at e1 e2
    exact ⟨rfl, ⟨by simp, by rw [hfl]; exact e1⟩, e2⟩
theorem path_none (A : Option Addr) (n c : Nat) (p : Int) (w : World) (hn : n ≤ maxLen) (h : p < 0 ∨ (n : Int) ≤ p) :
    Calls Try.prog 20 #[.slice A n c, .int .i64 p] w fun e w' => e = .returned (.tuple #[.slice none 0 0, .int .i64 2]) ∧ Below w.heap.size w w' := by
  unfold maxLen at hn
  rcases h with h | h
  · go_enter Try.func20, Try.ntmps20
    go_wp2_with fail
    go_ret2
    exact ⟨rfl, Below.refl _ _⟩
  · have h0 : ¬ p < 0 := by omega
    go_enter Try.func20, Try.ntmps20
    go_wp2_with fail
    go_ret2
    exact ⟨rfl, Below.refl _ _⟩

set_option maxHeartbeats 400000 in
theorem path_any (A : Option Addr) (n c : Nat) (hs : List Hd) (p : Nat) (w : World) (ha : Sl w 5 hdC A n hs) (hn : n ≤ 65536) (h : p < n) :
    Calls Try.prog 20 #[.slice A n c, .int .i64 p] w fun e w' => ∃ A' c', e = .returned (.tuple #[.slice A' (pathOf (lvs hs) p).length c', .int .i64 0]) ∧
      Own w' w.heap.size 3 1 intC A' (pathOf (lvs hs) p).length c' (pathOf (lvs hs) p) ∧ Below w.heap.size w w' := by
  go_enter Try.func20, Try.ntmps20
  go_wp2_with (go_at_call 15; refine (parents_any A n c hs w ha hn).mono ?_; rintro e w1 ⟨Ap, cp, rfl, hop, hb1⟩)
  go_loopw [1, 7] (fun vi vo wr => ∃ (i : Int) (acc : List Int) (A1 : Option Addr) (c1 : Nat), -1 ≤ i ∧ i ≤ p ∧ vi = .int .i64 i ∧ vo = .slice A1 acc.length c1 ∧ (acc.length : Int) + i ≤ p ∧ pathI (lvs hs) i ++ acc.reverse = pathOf (lvs hs) p ∧
     Own wr w1.heap.size 3 1 intC A1 acc.length c1 acc ∧ Below w1.heap.size w1 wr) (fun i _ _ => (intOf i + 1).toNat)
  case atStart => exact ⟨p, [], none, 0, by omega, by omega, rfl, rfl, by simp, by rw [pathI_nat]; simp, Own.nil_ _ _ _ _ _, Below.refl _ _⟩
  case round =>
    obtain ⟨i, acc, A1, c1, hi0, hip, rfl, rfl, hal, hpa, ho, hbw⟩ := hrel
    have HPA := Lib.hid hpa
    clear hpa
    by_cases hi : 0 ≤ i
    · obtain ⟨j, rfl⟩ := Int.eq_ofNat_of_zero_le hi
      clear hi hi0
      obtain ⟨gp, rfl, _, _, hcj⟩ := (hop.below hbw).int (k := j) (by omega)
      rw [gI_range _ (by omega)] at hcj
      have hpl := par_lt (lvs hs) j
      go_wp2_with fail
      obtain ⟨wo, rfl⟩ : ∃ wo : World, wo = wr := ⟨_, rfl⟩
      go_loopw [8, 9] (fun vn vk wi => ∃ (k : Nat), k ≤ j + 1 ∧ vk = .int .i64 k ∧ vn = .int .i64 (cntTo (lvs hs) (par (lvs hs) j) k) ∧ Below wo.heap.size wo wi) (fun _ k _ => j + 1 - (intOf k).toNat)
      case atStart => exact ⟨0, by omega, rfl, rfl, Below.refl _ _⟩
      case round =>
        obtain ⟨k, hk, rfl, rfl, hbi⟩ := hrel
        have hcb := cntTo_le (lvs hs) (par (lvs hs) j) k
        have hb3 := below_trans' hbw hbw.size hbi
        by_cases hlt : k ≤ j
        · obtain ⟨gq, e, _, _, hck⟩ := (hop.below hb3).int (k := k) (by omega)
          cases e
          obtain ⟨gq, e, _, _, hcj2⟩ := (hop.below hb3).int (k := j) (by omega)
          cases e
          rw [gI_range _ (by omega)] at hck hcj2
          by_cases hq : par (lvs hs) k = par (lvs hs) j
          · have hqb : (par (lvs hs) k == par (lvs hs) j) = true := by simpa using hq
            have HQ := Lib.hid hq
            clear hq
            go_wp2_with fail
            go_quiet (fail)
            go_wp2_with fail
            go_roundw
            case rel => exact ⟨k + 1, by omega, by go_num, by rw [cntTo, if_pos HQ.out], below_drewN hbi _⟩
            case measure => simp [intOf]; omega
          · have hqb : (par (lvs hs) k == par (lvs hs) j) = false := by simpa using hq
            have HQ := Lib.hid hq
            clear hq
            go_wp2_with fail
            go_quiet (fail)
            go_wp2_with fail
            go_roundw
            case rel => exact ⟨k + 1, by omega, by go_num, by rw [cntTo, if_neg HQ.out, Int.add_zero], below_drewN hbi _⟩
            case measure => simp [intOf]; omega
        · have : k = j + 1 := by omega
          subst this
          have ho2 := ho.below hbi
          obtain ⟨gq, e, _, _, hcj2⟩ := (hop.below hb3).int (k := j) (by omega)
          cases e
          rw [gI_range _ (by omega)] at hcj2
          clear hcj2 hb3 hlt
          have hb3 := below_trans' hbw hbw.size hbi
          go_wp2_with (at_builtin; refine wpList_push elemI rfl (.tmp 38) (.tmp 40) rfl rfl _ rfl (ho2.alloc _) (cnt (lvs hs) j) _ rfl rfl (intC_one _) rfl (by unfold maxLen; omega) (Nat.le_trans hb3.size (by simp)) ?_; intro A2 c2 w2 ho3 hg2 ha2; have hb4 := (hb3.alloc hb3.size _).grown hg2 (Nat.le_trans hb3.size (by simp)) (fun g hg => (ho2.lt g hg).1); obtain ⟨_, e, _, _, hcj3⟩ := (hop.below hb4).int (k := j) (by omega); cases e; rw [gI_range _ (by omega)] at hcj3)
          go_roundw
          case rel =>
            refine ⟨par (lvs hs) j, acc ++ [cnt (lvs hs) j], A2, c2, hpl.1, by omega, rfl, by simp, by simp; omega, ?_, by simpa using ho3, hb4⟩
            rw [← HPA.out, pathI_step, List.reverse_append]
            simp
          case measure => simp [intOf]; omega
    · have : i = -1 := by omega
      subst this
      go_wp2_with (go_at_call 27; refine (reverse_own A1 _ c1 _ acc _ ho).mono ?_; rintro e w2 ⟨rfl, ho2, hg2⟩)
      go_ret2
      have hpe : acc.reverse = pathOf (lvs hs) p := by rw [← HPA.out]; rfl
      have hle : acc.length = (pathOf (lvs hs) p).length := by rw [← hpe]; simp
      exact ⟨A1, c1, by rw [← hle]; rfl, by rw [← hpe, List.length_reverse]; exact ho2.base hb1.size, below_trans' hb1 hb1.size (hbw.grown hg2 hbw.size (fun g hg => (ho.lt g hg).1))⟩
end Go.Proofs.Ytbeollddmglkcaa
