/- The model's sameInts, cut, few; words. -/
import Derived.Test.YtogbapdioccamaaE14
namespace Go.Proofs.Ytogbapdioccamaa
open Go.RowKit

theorem take_ext {xs ys : List Int} {k : Nat} (hx : k < xs.length) (hy : k < ys.length) (h : xs.take k = ys.take k) (e : gI xs k = gI ys k) : xs.take (k + 1) = ys.take (k + 1) := by
  rw [List.take_add_one, List.take_add_one, h]
  unfold gI at e
  rw [List.getD_eq_getElem?_getD, List.getD_eq_getElem?_getD, List.getElem?_eq_getElem hx, List.getElem?_eq_getElem hy] at e
  rw [List.getElem?_eq_getElem hx, List.getElem?_eq_getElem hy]
  simp only [Option.getD_some] at e
  rw [e]

theorem ne_of_getD {xs ys : List Int} {k : Nat} (e : ¬ gI xs k = gI ys k) : decide (xs = ys) = false := by
  simp only [decide_eq_false_iff_not]; rintro rfl; exact e rfl
theorem ne_of_len {xs ys : List Int} (e : ¬ xs.length = ys.length) : decide (xs = ys) = false := by
  simp only [decide_eq_false_iff_not]; rintro rfl; exact e rfl

set_option maxHeartbeats 400000 in
theorem sameInts_any (A B : Option Addr) (n m c d : Nat) (xs ys : List Int) (w : World) (ha : Sl w 1 intC A n xs) (hb : Sl w 1 intC B m ys) (hn : n ≤ maxLen) (hm : m ≤ maxLen) :
    Calls Try.prog 20 #[.slice A n c, .slice B m d] w fun e w' => e = .returned (.bool (decide (xs = ys))) ∧ Below w.heap.size w w' := by
  unfold maxLen at hn hm
  have hla := ha.len
  have hlb := hb.len
  by_cases hnm : n = m
  · subst hnm
    have HA := Lib.hid hla
    have HB := Lib.hid hlb
    clear hla hlb
    go_enter Try.func20, Try.ntmps20
    go_wp2_with fail
    go_loopw [5] (fun i wr => ∃ k : Nat, k ≤ n ∧ i = .int .i64 k ∧ xs.take k = ys.take k ∧ Below w.heap.size w wr) (fun i _ => n - (intOf i).toNat)
    case atStart => exact ⟨0, Nat.zero_le _, rfl, rfl, Below.refl _ _⟩
    case round =>
      obtain ⟨k, hk, rfl, ht, hbw⟩ := hrel
      have HT := Lib.hid ht
      clear ht
      by_cases hlt : k < n
      · obtain ⟨ad, rfl, _, ca⟩ := (ha.below hbw).int hlt
        obtain ⟨bd, rfl, _, cb⟩ := (hb.below hbw).int hlt
        by_cases he : gI xs k = gI ys k
        · go_wp2_with fail
          have hne : (gI xs k != gI ys k) = false := by rw [he, bne_self_eq_false]
          have HE := Lib.hid he
          clear he
          go_quiet (fail)
          go_wp2_with fail
          go_roundw
          case rel => exact ⟨k + 1, by omega, by go_num, take_ext (by rw [HA.out]; exact hlt) (by rw [HB.out]; exact hlt) HT.out HE.out, below_drewN hbw _⟩
          case measure => simp [intOf]; omega
        · have hne : (gI xs k != gI ys k) = true := by simpa using he
          have HE := Lib.hid he
          clear he
          go_wp2_with fail
          go_quiet (fail)
          go_wp2_with fail
          go_ret
          exact ⟨ret_bool (ne_of_getD HE.out).symm, below_drewN hbw _⟩
      · have : k = n := by omega
        subst this
        go_wp2_with fail
        go_ret
        exact ⟨ret_bool (by have h := HT.out; rw [List.take_of_length_le (by rw [HA.out]; exact Nat.le_refl _), List.take_of_length_le (by rw [HB.out]; exact Nat.le_refl _)] at h; simp [h]), hbw⟩
  · go_enter Try.func20, Try.ntmps20
    have HA := Lib.hid hla
    have HB := Lib.hid hlb
    clear hla hlb
    go_wp2_with fail
    go_ret
    exact ⟨ret_bool (ne_of_len (by rw [HA.out, HB.out]; exact hnm)).symm, Below.refl _ _⟩

theorem cut_any (A : Option Addr) (n c : Nat) (w : World) (hn : n ≤ c) (hc : c ≤ maxLen) :
    Calls Try.prog 12 #[.slice A n c] w fun e w' => e = .returned (.slice A (min n 60) c) ∧ w = w' := by
  unfold maxLen at hc
  go_enter Try.func12, Try.ntmps12
  by_cases h : n ≤ 60
  · go_wp2
    go_ret
    exact ⟨by rw [Nat.min_eq_left h]; rfl, rfl⟩
  · go_wp2
    go_ret
    exact ⟨by rw [Nat.min_eq_right (by omega)]; rfl, rfl⟩
theorem few_any (A : Option Addr) (n c : Nat) (w : World) (hn : n ≤ c) (hc : c ≤ maxLen) :
    Calls Try.prog 13 #[.slice A n c] w fun e w' => e = .returned (.slice A (min n 10) c) ∧ w = w' := by
  unfold maxLen at hc
  go_enter Try.func13, Try.ntmps13
  by_cases h : n ≤ 10
  · go_wp2
    go_ret
    exact ⟨by rw [Nat.min_eq_left h]; rfl, rfl⟩
  · go_wp2
    go_ret
    exact ⟨by rw [Nat.min_eq_right (by omega)]; rfl, rfl⟩

theorem elemT : Elem Try.prog 22 52 6 48 := Elem.mk Try.underlying22 (z := .agg #[.int .i64 0, .int .i64 0, .int .i64 0, .int .i64 0, .int .i64 0, .bool false]) (by kernel_rfl) rfl (by omega)
def glueI : It := ⟨2, 10, 5, 3, 0, false⟩
def boxI (w : Int) : It := ⟨1, w, 0, 0, 0, false⟩
def wordsP (ws : List Int) : Nat → List It
  | 0 => []
  | k + 1 => wordsP ws k ++ (if 0 < k then [glueI, boxI (gI ws k)] else [boxI (gI ws k)])
def lastI : List It := [⟨2, 0, 1000, 0, 0, false⟩, ⟨3, 0, 0, 0, -10000, false⟩]
def wordsF (ws : List Int) : List It := wordsP ws ws.length ++ lastI
theorem wordsP_len (ws : List Int) : ∀ k, (wordsP ws k).length ≤ 2 * k
  | 0 => Nat.le_refl _
  | k + 1 => by
    have := wordsP_len ws k
    unfold wordsP
    rw [List.length_append]
    split <;> simp <;> omega

set_option maxRecDepth 100000 in
set_option maxHeartbeats 2000000 in
theorem words_any (A : Option Addr) (n c : Nat) (ws : List Int) (w : World) (ha : Sl w 1 intC A n ws) (hn : n ≤ 1000) :
    Calls Try.prog 31 #[.slice A n c] w fun e w' => ∃ A' c', e = .returned (.slice A' (wordsF ws).length c') ∧ Own w' w.heap.size 52 6 itC A' (wordsF ws).length c' (wordsF ws) ∧ Below w.heap.size w w' := by
  have hlen := ha.len
  have HL := Lib.hid hlen
  clear hlen
  go_enter Try.func31, Try.ntmps31
  go_wp2_with fail
  go_loopw [3, 4] (fun vo vi wr => ∃ (k : Nat) (A1 : Option Addr) (c1 : Nat), k ≤ n ∧ vi = .int .i64 k ∧ vo = .slice A1 (wordsP ws k).length c1 ∧ Own wr w.heap.size 52 6 itC A1 (wordsP ws k).length c1 (wordsP ws k) ∧ Below w.heap.size w wr) (fun _ i _ => n - (intOf i).toNat)
  case atStart => exact ⟨0, none, 0, Nat.zero_le _, rfl, rfl, Own.nil_ _ _ _ _ _, Below.refl _ _⟩
  case round =>
    obtain ⟨k, A1, c1, hk, rfl, rfl, ho, hbw⟩ := hrel
    have hpl := wordsP_len ws k
    by_cases hlt : k < n
    · obtain ⟨ad, e, hl, r⟩ := (ha.below hbw).int hlt
      subst e
      have HW : wordsP ws (k + 1) = wordsP ws k ++ (if 0 < k then [glueI, boxI (gI ws k)] else [boxI (gI ws k)]) := rfl
      by_cases hk0 : 0 < k
      · rw [if_pos hk0] at HW
        have HH := Lib.hid HW
        clear HW
        have hk1 : decide ((0 : Int) < (k : Int)) = true := decide_eq_true (by omega)
        have hA : ∀ w3 : World, Below w.heap.size w w3 → w3.cell? (ad.add k) = some (.int .i64 (gI ws k)) := fun w3 h3 => by
          obtain ⟨ad', e, _, r'⟩ := (ha.below h3).int hlt
          injection e with e
          subst e
          exact r'
        have HA := Lib.hid hA
        clear hA
        have hol := ho.lt
        generalize wordsP ws k = P at *
        generalize gI ws k = x at *
        go_wp2_with (first
          | (at_builtin; refine wpList_push elemT rfl (.tmp 13) (.tmp 15) rfl rfl _ rfl (ho.alloc _) glueI _ rfl (by simp) (itC_one _) rfl (by unfold maxLen; omega) (Nat.le_trans hbw.size (by simp)) ?_; intro A2 c2 w2 ho2 hg2 ha2; have hb2 := (hbw.alloc hbw.size _).grown hg2 (Nat.le_trans hbw.size (by simp)) (fun g hg => (hol g hg).1); have r2 := HA.out w2 hb2; clear hg2 ha2 r)
          | (at_builtin; refine wpList_push elemT rfl (.tmp 17) (.tmp 23) rfl rfl _ rfl (ho2.alloc _) (boxI x) _ rfl (by simp) (itC_one _) rfl (by unfold maxLen; omega) (Nat.le_trans hb2.size (by simp)) ?_; intro A3 c3 w3 ho3 hg3 ha3))
        go_roundw
        case rel =>
          refine ⟨k + 1, A3, c3, by omega, by go_num, by rw [HH.out, List.length_append]; rfl, ?_, (hb2.alloc hb2.size _).grown hg3 (Nat.le_trans hb2.size (by simp)) (fun g hg => (ho2.lt g hg).1)⟩
          rw [HH.out, List.length_append]
          rw [List.append_assoc] at ho3
          exact ho3
        case measure => simp [intOf]; omega
      · rw [if_neg hk0] at HW
        have HH := Lib.hid HW
        clear HW
        have hk1 : decide ((0 : Int) < (k : Int)) = false := decide_eq_false (by omega)
        generalize wordsP ws k = P at *
        generalize gI ws k = x at *
        go_wp2_with (at_builtin; refine wpList_push elemT rfl (.tmp 17) (.tmp 23) rfl rfl _ rfl (ho.alloc _) (boxI x) _ rfl (by simp) (itC_one _) rfl (by unfold maxLen; omega) (Nat.le_trans hbw.size (by simp)) ?_; intro A3 c3 w3 ho3 hg3 ha3)
        go_roundw
        case rel =>
          refine ⟨k + 1, A3, c3, by omega, by go_num, by rw [HH.out, List.length_append]; rfl, ?_, (hbw.alloc hbw.size _).grown hg3 (Nat.le_trans hbw.size (by simp)) (fun g hg => (ho.lt g hg).1)⟩
          rw [HH.out, List.length_append]
          exact ho3
        case measure => simp [intOf]; omega
    · have hkn : k = n := by omega
      subst hkn
      have HW := Lib.hid (show wordsF ws = wordsP ws k ++ lastI by unfold wordsF; rw [HL.out])
      generalize wordsP ws k = P at *
      go_wp2_with (at_builtin; refine wpList_pushN elemT itC_len itC_one rfl (.tmp 25) (.tmp 28) rfl rfl _ 2 2 rfl (ho.alloc _) lastI _ rfl (by simp) rfl (by omega) (by unfold maxLen; omega) (Nat.le_trans hbw.size (by simp)) ?_; intro A3 c3 w3 ho3 hg3 ha3)
      go_ret
      refine ⟨A3, c3, by rw [HW.out, List.length_append]; rfl, ?_, (hbw.alloc hbw.size _).grown hg3 (Nat.le_trans hbw.size (by simp)) (fun g hg => (ho.lt g hg).1)⟩
      rw [HW.out, List.length_append]
      exact ho3
end Go.Proofs.Ytogbapdioccamaa
