/- The walk of the law TocParents. -/
import Derived.Test.YtbeollddmglkcaaD2
import Derived.Test.YtbeollddmglkcaaA9
namespace Go.Proofs.Ytbeollddmglkcaa
open Go.RowKit

set_option maxHeartbeats 2000000 in
set_option maxRecDepth 100000 in
theorem law_parents (A : Option Addr) (n c : Nat) (hs : List Hd) (p : Int) (w : World) (ha : Sl w 5 hdC A n hs) (hn : n ≤ c) (hc : c ≤ maxLen) :
    Calls Try.prog 5 #[.slice A n c, .int .i64 p] w fun e w' => e = .returned (.bool true) ∧ Below w.heap.size w w' := by
  have hcut := cut_any A n c w hn hc
  have ha' := ha.take (k := min n 40) (Nat.min_le_left _ _)
  obtain ⟨m, hm⟩ : ∃ m, m = min n 40 := ⟨_, rfl⟩
  have hm40 : m ≤ 40 := by omega
  have hm2 : m ≤ maxLen := by unfold maxLen; omega
  rw [← hm] at ha' hcut
  generalize hs.take m = hs' at ha'
  have HC := Lib.hid hcut
  clear hm hcut ha hn hc
  have hv := fun W h => visit_any A m c hs' (by omega) (m + 2) (-1) W (by omega) (by omega) (by omega) h
  rw [show (-1 : Int) + 1 = 0 from rfl, show send (lvs hs') m (-1) = m from rfl] at hv
  have HV := Lib.hid hv
  have hkl := kids_len (lvs hs') p m
  obtain ⟨kl, hkl2⟩ : ∃ kl, kl = (kids (lvs hs') m p).length := ⟨_, rfl⟩
  have hch := fun W h => children_any A m c hs' p W h (by omega)
  rw [← hkl2] at hch hkl
  have HCH := Lib.hid hch
  have HKL := Lib.hid hkl2
  clear hv hch hkl2
  go_enter Try.func5, Try.ntmps5
  go_wp2_with (first
    | (go_at_call 9; refine (HC.out).mono ?_; rintro e w1 ⟨rfl, rfl⟩)
    | (go_at_call 15; refine (parents_any A m c hs' _ ha' (by omega)).mono ?_; rintro e w2 ⟨A2, c2, rfl, ho2, hb2⟩)
    | (go_at_call 16; refine (HCH.out _ (ha'.below hb2)).mono ?_; rintro e w3 ⟨A3, c3, rfl, ho3, hb3⟩; have hb23 := below_trans' hb2 hb2.size hb3)
    | (go_at_call 11; refine (known_any _).mono ?_; rintro e w4 ⟨rfl, hb4⟩; have hb24 := below_trans' hb23 hb23.size hb4))
  have hop := (ho2.below hb3).below hb4
  have hoc := ho3.below hb4
  clear ho2 ho3
  go_loopw [7, 8] (fun vo vi wr => ∃ (k : Nat) (A1 : Option Addr) (c1 : Nat), k ≤ m ∧ vi = .int .i64 k ∧ vo = .slice A1 (kids (lvs hs') k p).length c1 ∧ Own wr w4.heap.size 3 1 intC A1 (kids (lvs hs') k p).length c1 (kids (lvs hs') k p) ∧ Below w4.heap.size w4 wr) (fun _ i _ => m - (intOf i).toNat)
  case atStart => exact ⟨0, none, 0, Nat.zero_le _, rfl, rfl, Own.nil_ _ _ _ _ _, Below.refl _ _⟩
  case round =>
    obtain ⟨k, A1, c1, hk, rfl, rfl, ho, hbw⟩ := hrel
    have hb25 := below_trans' hb24 hb24.size hbw
    have hk40 := kids_len (lvs hs') p k
    by_cases hlt : k < m
    · obtain ⟨gp, rfl, _, _, hcp⟩ := (hop.below hbw).int hlt
      rw [gI_range _ hlt] at hcp
      have hpq := parent_q A m c hs' k
      have hsn := kids_snoc (lvs hs') k p
      have hne : (par (lvs hs') k != par (lvs hs') k) = false := bne_self_eq_false _
      have hsl := ha'.below hb25
      have HPQ := Lib.hid hpq
      clear hpq
      by_cases hp : par (lvs hs') k = p
      · rw [if_pos hp] at hsn
        have hq : (par (lvs hs') k == p) = true := by simpa using hp
        have HS := Lib.hid hsn
        clear hsn hp
        go_wp2_with fail
        go_quiet ((go_at_call 17; exact Calls.quiet_of (HPQ.out _ (hsl.drewN _) hm2 hlt)))
        have ho' := ho.drewN nq
        go_wp2_with (at_builtin; refine wpList_push elemI rfl (.tmp 47) (.tmp 49) rfl rfl _ rfl (ho'.alloc _) (k : Int) _ rfl rfl (intC_one _) rfl (by unfold maxLen; omega) (Nat.le_trans hbw.size (by simp)) ?_; intro A1' c1' w2' ho2 hg2 ha2)
        go_roundw
        case rel =>
          have hl : (kids (lvs hs') k p).length + 1 = (kids (lvs hs') (k + 1) p).length := by rw [HS.out]; simp
          refine ⟨k + 1, A1', c1', by omega, by go_num, by rw [hl], ?_, ((below_drewN hbw nq).alloc hbw.size _).grown hg2 (Nat.le_trans hbw.size (by simp)) (fun g hg => (ho.lt g hg).1)⟩
          rw [← hl, HS.out]; exact ho2
        case measure => simp [intOf]; omega
      · rw [if_neg hp, List.append_nil] at hsn
        have hq : (par (lvs hs') k == p) = false := by simpa using hp
        have HS := Lib.hid hsn
        clear hsn hp
        go_wp2_with fail
        go_quiet ((go_at_call 17; exact Calls.quiet_of (HPQ.out _ (hsl.drewN _) hm2 hlt)))
        have ho' := ho.drewN nq
        go_wp2_with fail
        go_roundw
        case rel => exact ⟨k + 1, A1, c1, by omega, by go_num, by rw [HS.out], by rw [HS.out]; exact ho', below_drewN hbw _⟩
        case measure => simp [intOf]; omega
    · have : k = m := by omega
      subst this
      have hoc2 := hoc.below hbw
      rw [← HKL.out] at ho
      rw [← HKL.out]
      go_wp2_with (first
        | (go_at_call 18; refine (HV.out _ (ha'.below hb25)).mono ?_; rintro e w5 ⟨rfl, hb5⟩)
        | (go_at_call 19; refine (ex_same_c A3 A1 kl kl c3 c1 _ _ ((hoc2.below hb5).sl intC_len) ((ho.below hb5).sl intC_len) (by omega)).mono ?_; rintro e w6 ⟨rfl, hb6⟩))
      go_ret
      exact ⟨rfl, below_trans' hb25 hb25.size (below_trans' hb5 hb5.size hb6)⟩
end Go.Proofs.Ytbeollddmglkcaa
