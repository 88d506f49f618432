/- belongs, path of the model, less. -/
import Derived.Test.YtbeollddmglkcaaA5
namespace Go.Proofs.Ytbeollddmglkcaa
open Go.RowKit

set_option maxHeartbeats 400000 in
theorem belongs_q (A : Option Addr) (n c : Nat) (hs : List Hd) (t : Int) (hn : n ≤ maxLen) : ∀ (f : Nat) (i : Int) (w : World), -1 ≤ i → i < n → i + 2 ≤ f → Sl w 5 hdC A n hs →
    Calls Try.prog 12 #[.slice A n c, .int .i64 i, .int .i64 t] w fun e w' => e = .returned (.bool (belF (lvs hs) f i t)) ∧ ∃ d, w' = w.drewN d
  | 0, i, w, h1, _, h3, _ => absurd h3 (by omega)
  | f + 1, i, w, h1, h2, h3, ha => by
    have ih := belongs_q A n c hs t hn f
    have IH := Lib.hid ih
    clear ih
    by_cases he : i = t
    · subst he
      go_enter Try.func12, Try.ntmps12
      go_wp2_with fail
      go_ret
      exact ⟨ret_bool (by unfold belF; simp), 0, rfl⟩
    · have hb : (i == t) = false := by simpa using he
      by_cases h0 : 0 ≤ i
      · obtain ⟨j, rfl⟩ := Int.eq_ofNat_of_zero_le h0
        have hp := par_lt (lvs hs) j
        have HF : Hid (belF (lvs hs) (f + 1) (j : Int) t = belF (lvs hs) f (par (lvs hs) j) t) := by
          show belF _ _ _ _ = _
          rw [belF, hb, decide_eq_true h0]; simp
        clear he h0
        go_enter Try.func12, Try.ntmps12
        go_wp2_with (first
          | (go_at_call 17; refine (parent_q A n c hs j w ha hn (by omega)).mono ?_; rintro e w1 ⟨rfl, d1, rfl⟩)
          | (go_at_call 12; refine (IH.out (par (lvs hs) j) _ (by omega) (by omega) (by omega) (ha.drewN d1)).mono ?_; rintro e w2 ⟨rfl, d2, rfl⟩))
        go_ret
        exact ⟨ret_bool HF.out.symm, d1 + d2, by first | rfl | rw [World.drewN_drewN]⟩
      · have HF : Hid (belF (lvs hs) (f + 1) i t = false) := by
          show belF _ _ _ _ = _
          rw [belF, hb, decide_eq_false h0]; rfl
        clear he
        go_enter Try.func12, Try.ntmps12
        go_wp2_with fail
        go_ret
        exact ⟨ret_bool HF.out.symm, 0, rfl⟩

theorem belongs_any (A : Option Addr) (n c : Nat) (hs : List Hd) (t : Int) (hn : n ≤ maxLen) (f : Nat) (i : Int) (w : World) (h1 : -1 ≤ i) (h2 : i < n) (h3 : i + 2 ≤ f) (ha : Sl w 5 hdC A n hs) :
    Calls Try.prog 12 #[.slice A n c, .int .i64 i, .int .i64 t] w fun e w' => e = .returned (.bool (belF (lvs hs) f i t)) ∧ Below w.heap.size w w' := by
  refine (belongs_q A n c hs t hn f i w h1 h2 h3 ha).mono ?_
  rintro e w' ⟨rfl, d, rfl⟩
  exact ⟨rfl, below_drewN (Below.refl _ _) d⟩

set_option maxHeartbeats 1000000 in
theorem mpath_any (A : Option Addr) (n c : Nat) (hs : List Hd) (hn : n ≤ 65536) : ∀ (f : Nat) (i : Int) (w : World), 0 ≤ i → i < n → i < f → Sl w 5 hdC A n hs →
    Calls Try.prog 22 #[.slice A n c, .int .i64 i] w fun e w' => ∃ A' c', e = .returned (.slice A' (pathOf (lvs hs) i.toNat).length c') ∧ Own w' w.heap.size 3 1 intC A' (pathOf (lvs hs) i.toNat).length c' (pathOf (lvs hs) i.toNat) ∧
      (pathOf (lvs hs) i.toNat).length ≤ i.toNat + 1 ∧ Below w.heap.size w w'
  | 0, i, w, _, _, h3, _ => absurd h3 (by omega)
  | f + 1, i, w, h1, h2, h3, ha => by
    obtain ⟨i, rfl⟩ := Int.eq_ofNat_of_zero_le h1
    rw [Int.toNat_natCast]
    have ih := mpath_any A n c hs hn f
    have IH := Lib.hid ih
    clear ih
    have hp := par_lt (lvs hs) i
    have hn' : n ≤ maxLen := by unfold maxLen; omega
    have HP := Lib.hid (pathOf_eq (lvs hs) i)
    go_enter Try.func22, Try.ntmps22
    go_wp2_with (go_at_call 17; refine (parent_any A n c hs i w ha hn' (by omega)).mono ?_; rintro e w1 ⟨rfl, hb1⟩)
    go_loopw [6, 7] (fun vn vk wi => ∃ (k : Nat), k ≤ i + 1 ∧ vk = .int .i64 k ∧ vn = .int .i64 (cntTo (lvs hs) (par (lvs hs) i) k) ∧ Below w.heap.size w wi) (fun _ k _ => i + 1 - (intOf k).toNat)
    case atStart => exact ⟨0, by omega, rfl, rfl, hb1⟩
    case round =>
      obtain ⟨k, hk, rfl, rfl, hbi⟩ := hrel
      have hcb := cntTo_le (lvs hs) (par (lvs hs) i) k
      by_cases hlt : k ≤ i
      · by_cases hq : par (lvs hs) k = par (lvs hs) i
        · have hqb : (par (lvs hs) k == par (lvs hs) i) = true := by simpa using hq
          have HQ := Lib.hid hq
          clear hq
          go_wp2_with (go_at_call 17; refine (parent_any A n c hs k wr (ha.below hbi) hn' (by omega)).mono ?_; rintro e w2 ⟨rfl, hb2⟩)
          go_roundw
          case rel => exact ⟨k + 1, by omega, by go_num, by rw [cntTo, if_pos HQ.out], below_trans' hbi hbi.size hb2⟩
          case measure => simp [intOf]; omega
        · have hqb : (par (lvs hs) k == par (lvs hs) i) = false := by simpa using hq
          have HQ := Lib.hid hq
          clear hq
          go_wp2_with (go_at_call 17; refine (parent_any A n c hs k wr (ha.below hbi) hn' (by omega)).mono ?_; rintro e w2 ⟨rfl, hb2⟩)
          go_roundw
          case rel => exact ⟨k + 1, by omega, by go_num, by rw [cntTo, if_neg HQ.out, Int.add_zero], below_trans' hbi hbi.size hb2⟩
          case measure => simp [intOf]; omega
      · have : k = i + 1 := by omega
        subst this
        by_cases h0 : par (lvs hs) i < 0
        · have hpe := HP.out
          rw [if_pos h0, List.nil_append] at hpe
          have HE := Lib.hid hpe
          clear hpe
          go_wp2_with fail
          go_ret
          have ho := Own.lit (w := wr) (B := w.heap.size) (e := 3) (s := 1) (enc := intC) (xs := [cnt (lvs hs) i]) hbi.size rfl (by simp [maxLen])
          exact ⟨some ⟨wr.heap.size, 0, none⟩, 1, by rw [HE.out]; rfl, by rw [HE.out]; exact ho, by rw [HE.out]; simp, hbi.alloc hbi.size _⟩
        · have hpe := HP.out
          rw [if_neg h0] at hpe
          have HE := Lib.hid hpe
          clear hpe
          go_wp2_with (first
            | (go_at_call 22; refine (IH.out (par (lvs hs) i) wr (by omega) (by omega) (by omega) (ha.below hbi)).mono ?_; rintro e w2 ⟨A2, c2, rfl, ho2, hl2, hb2⟩)
            | (at_builtin; refine wpList_push elemI rfl (.tmp 29) (.tmp 31) rfl rfl _ rfl (ho2.alloc _) (cnt (lvs hs) i) _ rfl rfl (intC_one _) rfl (by unfold maxLen; omega) (Nat.le_trans hb2.size (by simp)) ?_; intro A3 c3 w3 ho3 hg3 ha3))
          go_ret
          have hl : (pathOf (lvs hs) (par (lvs hs) i).toNat).length + 1 = (pathOf (lvs hs) i).length := by rw [HE.out]; simp
          have hb3 := below_trans' hbi hbi.size hb2
          exact ⟨A3, c3, by rw [← hl]; rfl, by rw [← hl, HE.out]; exact ho3.base hbi.size, by omega, (hb3.alloc hb3.size _).grown hg3 (Nat.le_trans hb3.size (by simp)) (fun g hg => Nat.le_trans hbi.size (ho2.lt g hg).1)⟩

set_option maxHeartbeats 1000000 in
theorem less_any (A B : Option Addr) (n m c d : Nat) (xs ys : List Int) (w : World) (ha : Sl w 1 intC A n xs) (hb : Sl w 1 intC B m ys) (hn : n ≤ maxLen) :
    Calls Try.prog 23 #[.slice A n c, .slice B m d] w fun e w' => e = .returned (.bool (lessF xs ys)) ∧ Below w.heap.size w w' := by
  unfold maxLen at hn
  go_enter Try.func23, Try.ntmps23
  go_wp2_with fail
  go_loopw [5] (fun vi wr => ∃ k : Nat, k ≤ n ∧ k ≤ m ∧ vi = .int .i64 k ∧ lessF (xs.drop k) (ys.drop k) = lessF xs ys ∧ Below w.heap.size w wr) (fun i _ => n - (intOf i).toNat)
  case atStart => exact ⟨0, Nat.zero_le _, Nat.zero_le _, rfl, rfl, Below.refl _ _⟩
  case round =>
    obtain ⟨k, hk, hk2, rfl, hf, hbw⟩ := hrel
    have hla := ha.len
    have hlb := hb.len
    by_cases h1 : k < n
    · by_cases h2 : k < m
      · obtain ⟨ad, rfl, _, ca⟩ := (ha.below hbw).int h1
        obtain ⟨bd, rfl, _, cb⟩ := (hb.below hbw).int h2
        rw [drop_gI (xs := xs) (k := k) (by omega), drop_gI (xs := ys) (k := k) (by omega), lessF] at hf
        clear hla hlb
        by_cases he : gI xs k = gI ys k
        · rw [if_pos he] at hf
          have HF := Lib.hid hf
          have hne : (gI xs k != gI ys k) = false := by rw [he, bne_self_eq_false]
          clear hf he
          go_wp2_with fail
          go_quiet (fail)
          go_wp2_with fail
          go_roundw
          case rel => exact ⟨k + 1, by omega, by omega, by go_num, HF.out, below_drewN hbw _⟩
          case measure => simp [intOf]; omega
        · rw [if_neg he] at hf
          have HF := Lib.hid hf
          have hne : (gI xs k != gI ys k) = true := by simpa using he
          clear hf he
          go_wp2_with fail
          go_quiet (fail)
          go_wp2_with fail
          go_quiet (fail)
          go_wp2_with fail
          go_ret
          exact ⟨ret_bool HF.out, below_drewN (below_drewN hbw _) _⟩
      · have hf2 : lessF xs ys = false := by rw [← hf, show ys.drop k = [] from List.drop_eq_nil_of_le (by omega)]; cases xs.drop k <;> rfl
        have hnm : (m : Int) < n := by omega
        have HF := Lib.hid hf2
        clear hf hf2 hla hlb
        go_wp2_with fail
        go_ret
        exact ⟨ret_bool (by rw [HF.out]; simp; omega), hbw⟩
    · have hf2 : lessF xs ys = decide (n < m) := by
        rw [← hf, show xs.drop k = [] from List.drop_eq_nil_of_le (by omega)]
        by_cases h2 : k < m
        · rw [drop_gI (xs := ys) (k := k) (by omega), decide_eq_true (by omega)]; rfl
        · rw [show ys.drop k = [] from List.drop_eq_nil_of_le (by omega), decide_eq_false (by omega)]; rfl
      have HF := Lib.hid hf2
      clear hf hf2 hla hlb
      go_wp2_with fail
      go_ret
      exact ⟨ret_bool HF.out.symm, hbw⟩
end Go.Proofs.Ytbeollddmglkcaa
