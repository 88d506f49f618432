/- Find, parent, belongs, path, less. -/
import Derived.Test.YtbeollddmglkcaaA4
namespace Go.Proofs.Ytbeollddmglkcaa
open Go.RowKit

theorem drop_gI {xs : List Int} {k : Nat} (h : k < xs.length) : xs.drop k = gI xs k :: xs.drop (k + 1) := by
  rw [List.drop_eq_getElem_cons h]
  have := gI_some h
  rw [List.getElem?_eq_getElem h] at this
  injection this with this
  rw [this]

set_option maxHeartbeats 400000 in
theorem find_any (A B : Option Addr) (n c m d : Nat) (hs : List Hd) (ws : List Int) (w : World) (ha : Sl w 5 hdC A n hs) (hb : Sl w 1 intC B m ws) (hn : n ≤ 65536) (hm : m ≤ maxLen) :
    Calls Try.prog 21 #[.slice A n c, .slice B m d] w fun e w' => e = .returned (.tuple #[.int .i64 (foundI (findF (lvs hs) n ws (-1))), .bool (foundB (findF (lvs hs) n ws (-1)))]) ∧ Below w.heap.size w w' := by
  unfold maxLen at hm
  go_enter Try.func21, Try.ntmps21
  go_wp2_with fail
  go_loopw [6, 12] (fun va vi wr => ∃ (k : Nat) (at_ : Int), k ≤ m ∧ -9223372036854775808 ≤ at_ ∧ at_ ≤ 9223372036854775807 ∧ vi = .int .i64 k ∧ va = .int .i64 at_ ∧ findF (lvs hs) n (ws.drop k) at_ = findF (lvs hs) n ws (-1) ∧ Below w.heap.size w wr) (fun _ i _ => m - (intOf i).toNat)
  case atStart => exact ⟨0, -1, Nat.zero_le _, by omega, by omega, rfl, rfl, rfl, Below.refl _ _⟩
  case round =>
    obtain ⟨k, at_, hk, hat1, hat2, rfl, rfl, hf, hbw⟩ := hrel
    have HF := Lib.hid hf
    clear hf
    by_cases hlt : k < m
    · obtain ⟨bd, rfl, _, hcb⟩ := (hb.below hbw).int hlt
      have hwl := hb.len
      have HD := Lib.hid (drop_gI (xs := ws) (k := k) (by omega))
      clear hwl
      have hkl := kids_len (lvs hs) at_ n
      have hwf := kids_wf (lvs hs) at_ n
      have HKids := Lib.hid hwf
      clear hwf
      have HFF : Hid (findF (lvs hs) n (ws.drop k) at_ = if 1 ≤ gI ws k ∧ gI ws k ≤ (kids (lvs hs) n at_).length then findF (lvs hs) n (ws.drop (k + 1)) ((kids (lvs hs) n at_).getD (gI ws k - 1).toNat 0) else none) := by rw [HD.out]; rfl
      by_cases h1 : gI ws k < 1
      · go_wp2_with (go_at_call 16; refine (children_any A n c hs at_ wr (ha.below hbw) hn).mono ?_; rintro e w1 ⟨Ap, cp, rfl, hop, hb1⟩)
        go_ret2
        exact ⟨by rw [← HF.out, HFF.out, if_neg (by omega)]; rfl, below_trans' hbw hbw.size hb1⟩
      · by_cases h2 : ((kids (lvs hs) n at_).length : Int) < gI ws k
        · go_wp2_with (go_at_call 16; refine (children_any A n c hs at_ wr (ha.below hbw) hn).mono ?_; rintro e w1 ⟨Ap, cp, rfl, hop, hb1⟩)
          go_ret2
          exact ⟨by rw [← HF.out, HFF.out, if_neg (by omega)]; rfl, below_trans' hbw hbw.size hb1⟩
        · obtain ⟨q, hq⟩ : ∃ q : Nat, gI ws k = (q : Int) + 1 := ⟨(gI ws k - 1).toNat, by omega⟩
          have HQ := Lib.hid hq
          have hql : q < (kids (lvs hs) n at_).length := by omega
          rw [hq] at hcb h1 h2
          clear hq
          go_wp2_with (go_at_call 16; refine (children_any A n c hs at_ wr (ha.below hbw) hn).mono ?_; rintro e w1 ⟨Ap, cp, rfl, hop, hb1⟩; obtain ⟨gp, rfl, _, _, hcp⟩ := hop.int hql)
          go_roundw
          case rel =>
            have hk2 := HKids.out _ (List.mem_of_getElem? (gI_some hql))
            refine ⟨k + 1, gI (kids (lvs hs) n at_) q, by omega, by omega, by omega, by go_num, rfl, ?_, below_trans' hbw hbw.size hb1⟩
            rw [← HF.out, HFF.out, if_pos (by rw [HQ.out]; omega), HQ.out, show ((q : Int) + 1 - 1).toNat = q by omega]; rfl
          case measure => simp [intOf]; omega
    · have : k = m := by omega
      subst this
      have hwl := hb.len
      have hq := HF.out
      rw [List.drop_eq_nil_of_le (by omega), findF] at hq
      have HQ := Lib.hid hq
      clear hq hwl
      by_cases h0 : 0 ≤ at_
      · go_wp2_with fail
        go_ret2
        exact ⟨by rw [← HQ.out]; simp only [foundI, foundB]; rw [Int.max_eq_left h0, decide_eq_true h0]; rfl, hbw⟩
      · go_wp2_with fail
        go_ret2
        exact ⟨by rw [← HQ.out]; simp only [foundI, foundB]; rw [Int.max_eq_right (by omega), decide_eq_false (by omega : ¬ 0 ≤ at_)]; rfl, hbw⟩

set_option maxHeartbeats 400000 in
theorem parent_q (A : Option Addr) (n c : Nat) (hs : List Hd) (p : Nat) (w : World) (ha : Sl w 5 hdC A n hs) (hn : n ≤ maxLen) (h : p < n) :
    Calls Try.prog 17 #[.slice A n c, .int .i64 p] w fun e w' => e = .returned (.int .i64 (par (lvs hs) p)) ∧ ∃ d, w' = w.drewN d := by
  unfold maxLen at hn
  obtain ⟨ad, x, rfl, hl, hx, _, _, q2, _, _⟩ := ha.hd h
  have hlv : lvs hs p = x.level := by simp [lvs, hx]
  have HX := Lib.hid hlv
  clear hlv hx
  go_enter Try.func17, Try.ntmps17
  go_wp2_with fail
  go_loopw [5] (fun vi wr => ∃ (k : Nat), k ≤ p ∧ vi = .int .i64 ((k : Int) - 1) ∧ down (lvs hs) (lvs hs p) k = par (lvs hs) p ∧ ∃ d, wr = w.drewN d) (fun i _ => (intOf i + 1).toNat)
  case atStart => exact ⟨p, by omega, rfl, rfl, 0, rfl⟩
  case round =>
    obtain ⟨k, hk, rfl, hu, d, rfl⟩ := hrel
    have HU := Lib.hid hu
    clear hu
    rcases k with _ | k
    · go_wp2_with fail
      go_ret
      exact ⟨by rw [← HU.out]; rfl, d, rfl⟩
    · have ek : (((k + 1 : Nat) : Int) - 1) = (k : Int) := by omega
      rw [ek]
      clear ek
      obtain ⟨ad', y, e, hl', hy, _, _, q3, _, _⟩ := ha.hd (k := k) (by omega)
      cases e
      have hly : lvs hs k = y.level := by simp [lvs, hy]
      have HY := Lib.hid hly
      clear hly hy
      by_cases hc : y.level < x.level
      · go_wp2_with fail
        go_quiet (fail)
        go_wp2_with fail
        go_ret
        refine ⟨?_, _, by first | rfl | exact World.drewN_drewN ..⟩
        have h := HU.out
        rw [down, if_pos (by rw [HX.out, HY.out]; exact hc)] at h
        rw [← h]; rfl
      · go_wp2_with fail
        go_quiet (fail)
        go_wp2_with fail
        go_roundw
        case rel =>
          refine ⟨k, by omega, rfl, ?_, _, by first | rfl | exact World.drewN_drewN ..⟩
          have h := HU.out
          rw [down, if_neg (by rw [HX.out, HY.out]; omega)] at h
          exact h
        case measure => simp [intOf]
theorem parent_any (A : Option Addr) (n c : Nat) (hs : List Hd) (p : Nat) (w : World) (ha : Sl w 5 hdC A n hs) (hn : n ≤ maxLen) (h : p < n) :
    Calls Try.prog 17 #[.slice A n c, .int .i64 p] w fun e w' => e = .returned (.int .i64 (par (lvs hs) p)) ∧ Below w.heap.size w w' := by
  refine (parent_q A n c hs p w ha hn h).mono ?_
  rintro e w' ⟨rfl, d, rfl⟩
  exact ⟨rfl, below_drewN (Below.refl _ _) d⟩
end Go.Proofs.Ytbeollddmglkcaa
