/- cut, levels, Scope, Children. -/
import Derived.Test.YtbeollddmglkcaaA2
import Derived.Test.YtbeollddmglkcaaA0
namespace Go.Proofs.Ytbeollddmglkcaa
open Go.RowKit

theorem cut_any (A : Option Addr) (n c : Nat) (w : World) (hn : n ≤ c) (hc : c ≤ maxLen) :
    Calls Try.prog 9 #[.slice A n c] w fun e w' => e = .returned (.slice A (min n 40) c) ∧ w = w' := by
  unfold maxLen at hc
  go_enter Try.func9, Try.ntmps9
  by_cases h : n ≤ 40
  · go_wp2
    go_ret
    exact ⟨by rw [Nat.min_eq_left h]; rfl, rfl⟩
  · go_wp2
    go_ret
    exact ⟨by rw [Nat.min_eq_right (by omega)]; rfl, rfl⟩

theorem elemH : Elem Try.prog 22 32 5 56 := Elem.mk Try.underlying22 (z := .agg #[.int .i64 0, .int .i64 0, .int .i64 0, .string .empty, .string .empty]) (by kernel_rfl) rfl (by omega)
theorem hdC_len (x : Hd) : (hdC x).length = 5 := rfl
theorem hdC_one (x : Hd) : ∀ u ∈ hdC x, u.oneCell' = true := by intro u hu; simp [hdC] at hu; rcases hu with rfl | rfl | rfl | rfl | rfl <;> rfl
/-- a heading with a level alone. -/
def hdL (l : Int) : Hd := ⟨0, 0, l, .empty, .empty⟩

set_option maxHeartbeats 400000 in
theorem levels_any (A : Option Addr) (n c : Nat) (ls : List Int) (w : World) (ha : Sl w 1 intC A n ls) (hn : n ≤ 65536) :
    Calls Try.prog 26 #[.slice A n c] w fun e w' => ∃ A' c', e = .returned (.slice A' n c') ∧ Own w' w.heap.size 32 5 hdC A' n c' (ls.map hdL) ∧ Below w.heap.size w w' := by
  go_enter Try.func26, Try.ntmps26
  go_wp2_with fail
  go_loopw [3, 4] (fun vo vi wr => ∃ (k : Nat) (A1 : Option Addr) (c1 : Nat), k ≤ n ∧ vi = .int .i64 k ∧ vo = .slice A1 k c1 ∧ Own wr w.heap.size 32 5 hdC A1 k c1 ((ls.take k).map hdL) ∧ Below w.heap.size w wr) (fun _ i _ => n - (intOf i).toNat)
  case atStart => exact ⟨0, none, 0, Nat.zero_le _, rfl, rfl, Own.nil_ _ _ _ _ _, Below.refl _ _⟩
  case round =>
    obtain ⟨k, A1, c1, hk, rfl, rfl, ho, hbw⟩ := hrel
    by_cases hlt : k < n
    · obtain ⟨ad, rfl, hl, hc⟩ := (ha.below hbw).int hlt
      go_wp2_with (at_builtin; refine wpList_push elemH rfl (.tmp 11) (.tmp 17) rfl rfl _ rfl (ho.alloc _) (hdL (gI ls k)) _ rfl rfl (hdC_one _) rfl (by unfold maxLen; omega) (Nat.le_trans hbw.size (by simp)) ?_; intro A1' c1' w1 ho2 hg2 ha2)
      go_roundw
      case rel =>
        refine ⟨k + 1, A1', c1', by omega, by go_num, rfl, ?_, (hbw.alloc hbw.size _).grown hg2 (Nat.le_trans hbw.size (by simp)) (fun g hg => (ho.lt g hg).1)⟩
        rw [take_snocI (by rw [ha.len]; exact hlt), List.map_append]; exact ho2
      case measure => simp [intOf]; omega
    · have : k = n := by omega
      subst this
      have hlen := ha.len
      go_wp2_with fail
      go_ret
      exact ⟨A1, c1, rfl, by rw [List.take_of_length_le (by omega)] at ho; exact ho, hbw⟩

set_option maxHeartbeats 400000 in
theorem children_any (A : Option Addr) (n c : Nat) (hs : List Hd) (p : Int) (w : World) (ha : Sl w 5 hdC A n hs) (hn : n ≤ 65536) :
    Calls Try.prog 16 #[.slice A n c, .int .i64 p] w fun e w' => ∃ A' c', e = .returned (.slice A' (kids (lvs hs) n p).length c') ∧ Own w' w.heap.size 3 1 intC A' (kids (lvs hs) n p).length c' (kids (lvs hs) n p) ∧ Below w.heap.size w w' := by
  go_enter Try.func16, Try.ntmps16
  go_wp2_with (go_at_call 15; refine (parents_any A n c hs w ha hn).mono ?_; rintro e w1 ⟨Ap, cp, rfl, hop, hb1⟩)
  go_loopw [5, 6, 7, 11] (fun vo _ _ vi wr => ∃ (k : Nat) (A1 : Option Addr) (c1 : Nat), k ≤ n ∧ vi = .int .i64 k ∧ vo = .slice A1 (kids (lvs hs) k p).length c1 ∧ Own wr w1.heap.size 3 1 intC A1 (kids (lvs hs) k p).length c1 (kids (lvs hs) k p) ∧ Below w1.heap.size w1 wr) (fun _ _ _ i _ => n - (intOf i).toNat)
  case atStart => exact ⟨0, none, 0, Nat.zero_le _, rfl, rfl, Own.nil_ _ _ _ _ _, Below.refl _ _⟩
  case round =>
    obtain ⟨k, A1, c1, hk, rfl, rfl, ho, hbw⟩ := hrel
    have hkl := kids_len (lvs hs) p k
    by_cases hlt : k < n
    · obtain ⟨g, rfl, _, _, hc⟩ := (hop.below hbw).int hlt
      rw [gI_range _ hlt] at hc
      have hsn := kids_snoc (lvs hs) k p
      by_cases hp : par (lvs hs) k = p
      · rw [if_pos hp] at hsn
        have hq : (par (lvs hs) k == p) = true := by simpa using hp
        have HS := Lib.hid hsn
        have HP := Lib.hid hp
        clear hsn hp
        go_wp2_with (at_builtin; refine wpList_push elemI rfl (.tmp 19) (.tmp 21) rfl rfl _ rfl (ho.alloc _) (k : Int) _ rfl rfl (intC_one _) rfl (by unfold maxLen; omega) (Nat.le_trans hbw.size (by simp)) ?_; intro A1' c1' w2 ho2 hg2 ha2)
        go_roundw
        case rel =>
          have hl : (kids (lvs hs) k p).length + 1 = (kids (lvs hs) (k + 1) p).length := by rw [HS.out]; simp
          refine ⟨k + 1, A1', c1', by omega, by go_num, by rw [hl], ?_, (hbw.alloc hbw.size _).grown hg2 (Nat.le_trans hbw.size (by simp)) (fun g hg => (ho.lt g hg).1)⟩
          rw [← hl, HS.out]; exact ho2
        case measure => simp [intOf]; omega
      · rw [if_neg hp, List.append_nil] at hsn
        have hq : (par (lvs hs) k == p) = false := by simpa using hp
        have HS := Lib.hid hsn
        clear hsn hp
        go_wp2_with fail
        go_roundw
        case rel => exact ⟨k + 1, A1, c1, by omega, by go_num, by rw [HS.out], by rw [HS.out]; exact ho, hbw⟩
        case measure => simp [intOf]; omega
    · have : k = n := by omega
      subst this
      go_wp2_with fail
      go_ret
      exact ⟨A1, c1, rfl, ho.base hb1.size, below_trans' hb1 hb1.size hbw⟩

theorem scope_none (A : Option Addr) (n c : Nat) (p : Int) (w : World) (hn : n ≤ maxLen) (h : p < 0 ∨ (n : Int) ≤ p) :
    Calls Try.prog 10 #[.slice A n c, .int .i64 p] w fun e w' => e = .returned (.tuple #[.int .i64 0, .int .i64 2]) ∧ Below w.heap.size w w' := by
  unfold maxLen at hn
  rcases h with h | h
  · go_enter Try.func10, Try.ntmps10
    go_wp2_with fail
    go_ret2
    exact ⟨rfl, Below.refl _ _⟩
  · have h0 : ¬ p < 0 := by omega
    go_enter Try.func10, Try.ntmps10
    go_wp2_with fail
    go_ret2
    exact ⟨rfl, Below.refl _ _⟩

set_option maxHeartbeats 400000 in
theorem scope_any (A : Option Addr) (n c : Nat) (hs : List Hd) (p : Nat) (w : World) (ha : Sl w 5 hdC A n hs) (hn : n ≤ maxLen) (h : p < n) :
    Calls Try.prog 10 #[.slice A n c, .int .i64 p] w fun e w' => e = .returned (.tuple #[.int .i64 (scopeEnd (lvs hs) n p), .int .i64 0]) ∧ Below w.heap.size w w' := by
  unfold maxLen at hn
  obtain ⟨ad, x, rfl, hl, hx, _, _, q2, _, _⟩ := ha.hd h
  have hlv : lvs hs p = x.level := by simp [lvs, hx]
  have HX := Lib.hid hlv
  clear hlv hx
  go_enter Try.func10, Try.ntmps10
  go_wp2_with fail
  go_loopw [6] (fun vi wr => ∃ (k : Nat), p < k ∧ k ≤ n ∧ vi = .int .i64 k ∧ upTo (lvs hs) (lvs hs p) (n - k) k = scopeEnd (lvs hs) n p ∧ Below w.heap.size w wr) (fun i _ => n - (intOf i).toNat)
  case atStart => exact ⟨p + 1, by omega, by omega, by go_num, rfl, Below.refl _ _⟩
  case round =>
    obtain ⟨k, hpk, hk, rfl, hu, hbw⟩ := hrel
    have HU := Lib.hid hu
    clear hu
    have q2' := (hbw.cell (p := ⟨(ad.add (p * 5)).block, (ad.add (p * 5)).off + 2, none⟩) (by show (ad.add (p * 5)).block < _; rw [block_add]; exact hl)).trans q2
    by_cases hlt : k < n
    · obtain ⟨ad', y, e, hl', hy, _, _, q3, _, _⟩ := (ha.below hbw).hd hlt
      cases e
      have hly : lvs hs k = y.level := by simp [lvs, hy]
      have HY := Lib.hid hly
      clear hly hy
      by_cases hc : x.level < y.level
      · go_wp2_with fail
        go_quiet (fail)
        go_wp2_with fail
        go_roundw
        case rel =>
          refine ⟨k + 1, by omega, by omega, by go_num, ?_, below_drewN hbw _⟩
          have h := HU.out
          rw [show n - k = (n - (k + 1)) + 1 by omega, upTo, if_pos (by rw [HX.out, HY.out]; exact hc)] at h
          exact h
        case measure => simp [intOf]; omega
      · go_wp2_with fail
        go_quiet (fail)
        go_wp2_with fail
        go_ret2
        refine ⟨?_, below_drewN hbw _⟩
        have h := HU.out
        rw [show n - k = (n - (k + 1)) + 1 by omega, upTo, if_neg (by rw [HX.out, HY.out]; omega)] at h
        rw [← h]
        rfl
    · have : k = n := by omega
      subst this
      go_wp2_with fail
      go_quiet (fail)
      go_wp2_with fail
      go_ret2
      have h := HU.out
      rw [Nat.sub_self, upTo] at h
      exact ⟨by rw [← h]; rfl, below_drewN hbw _⟩
end Go.Proofs.Ytbeollddmglkcaa
