/- visit. -/
import Derived.Test.YtbeollddmglkcaaA6
import Derived.Test.YtbeollddmglkcaaP2
namespace Go.Proofs.Ytbeollddmglkcaa
open Go.RowKit

set_option maxHeartbeats 1000000 in
set_option maxRecDepth 100000 in
theorem visit_any (A : Option Addr) (n c : Nat) (hs : List Hd) (hn : n ≤ 65536) : ∀ (f : Nat) (i : Int) (w : World), -1 ≤ i → i < n → (n : Int) - i ≤ f → Sl w 5 hdC A n hs →
    Calls Try.prog 18 #[.slice A n c, .int .i64 i, .int .i64 (i + 1)] w fun e w' => e = .returned (.tuple #[.int .i64 (send (lvs hs) n i), .bool true]) ∧ Below w.heap.size w w'
  | 0, i, w, _, _, h3, _ => absurd h3 (by omega)
  | f + 1, i, w, h0, h2, h3, ha => by
    have ih := visit_any A n c hs hn f
    have IH := Lib.hid ih
    clear ih
    have hse := send_spec (lvs hs) h0 h2
    obtain ⟨s1, s2, _, _⟩ := hse
    have HK1 := Lib.hid (kids_first (lvs hs) h0 h2)
    have hkl := kids_len (lvs hs) i n
    go_enter Try.func18, Try.ntmps18
    go_wp2_with (go_at_call 16; refine (children_any A n c hs i w ha hn).mono ?_; rintro e w1 ⟨Ap, cp, rfl, hop, hb1⟩)
    go_loopw [2, 9] (fun vn vk wr => ∃ (k e : Nat), k ≤ (kids (lvs hs) n i).length ∧ i < e ∧ e ≤ send (lvs hs) n i ∧ vk = .int .i64 k ∧ vn = .int .i64 e ∧ (e < send (lvs hs) n i → par (lvs hs) e = i) ∧ (kids (lvs hs) n i).drop k = kF (lvs hs) n i e ∧ Below w1.heap.size w1 wr) (fun _ k _ => (kids (lvs hs) n i).length - (intOf k).toNat)
    case atStart => exact ⟨0, (i + 1).toNat, by omega, by omega, by omega, rfl, by rw [show (((i + 1).toNat : Nat) : Int) = i + 1 by omega], fun h => first_kid (lvs hs) h0 h2 h, HK1.out, Below.refl _ _⟩
    case round =>
      obtain ⟨k, e, hk, hie, hes, rfl, rfl, hpe, hdk, hbw⟩ := hrel
      have hb2 := below_trans' hb1 hb1.size hbw
      by_cases hlt : k < (kids (lvs hs) n i).length
      · have hed : e < send (lvs hs) n i := by
          rcases Nat.lt_or_ge e (send (lvs hs) n i) with h | h
          · exact h
          · exfalso
            have : e = send (lvs hs) n i := by omega
            rw [this, kF_end (lvs hs) h0 h2] at hdk
            have := congrArg List.length hdk
            simp at this; omega
        have hpe' := hpe hed
        rw [kF_step (lvs hs) h0 h2 hed hpe', drop_gI hlt] at hdk
        injection hdk with hg hdr
        obtain ⟨gp, rfl, _, _, hcp⟩ := (hop.below hbw).int hlt
        rw [hg] at hcp
        have hak := after_kid (lvs hs) h0 h2 (c := e) (by omega) hpe'
        obtain ⟨t1, t2, _, _⟩ := scope_spec (lvs hs) (n := n) (k := e) (by omega)
        have hsd : send (lvs hs) n (e : Int) = scopeEnd (lvs hs) n e := by unfold send; rw [if_neg (by omega)]; rfl
        have HSD := Lib.hid hsd
        have HAK := Lib.hid hak
        have HDR := Lib.hid hdr
        have hq : ((e : Int) != (e : Int)) = false := bne_self_eq_false _
        clear hpe hpe' hg hdr hak hsd
        go_wp2_with (go_at_call 18; refine (IH.out (e : Int) wr (by omega) (by omega) (by omega) (ha.below hb2)).mono ?_; rintro e2 w2 ⟨rfl, hb3⟩)
        go_roundw
        case rel => exact ⟨k + 1, scopeEnd (lvs hs) n e, by omega, by omega, HAK.out.1, by go_num, by rw [HSD.out], HAK.out.2, HDR.out, below_trans' hbw hbw.size hb3⟩
        case measure => simp [intOf]; omega
      · have hee : e = send (lvs hs) n i := by
          rcases Nat.lt_or_ge e (send (lvs hs) n i) with h | h
          · exfalso
            rw [kF_step (lvs hs) h0 h2 h (hpe h), show (kids (lvs hs) n i).drop k = [] from List.drop_eq_nil_of_le (by omega)] at hdk
            cases hdk
          · omega
        have HEE := Lib.hid hee
        clear hee hpe hdk
        go_wp2_with fail
        go_ret2
        exact ⟨by rw [← HEE.out]; rfl, hb2⟩
end Go.Proofs.Ytbeollddmglkcaa
