/- codepoint.tail, decode. -/
import Derived.Test.YtjpbmeonkfkgdaaK
import Derived.Test.YtjpbmeonkfkgdaaW2
import Derived.Test.YtjpbmeonkfkgdaaP4
namespace Go.Proofs.Ytjpbmeonkfkgdaa
open Go.RowKit

theorem ret3 {k1 k2 k3 : IntKind} {a b c a' b' c' : Int} (h1 : a = a') (h2 : b = b') (h3 : c = c') : Ending.returned (.tuple #[.int k1 a, .int k2 b, .int k3 c]) = .returned (.tuple #[.int k1 a', .int k2 b', .int k3 c']) := by rw [h1, h2, h3]
set_option maxHeartbeats 1000000 in
theorem tail_any (c : Int) (w : World) (h0 : 0 ≤ c) (h1 : c ≤ 255) :
    Calls Try.prog 47 #[.int .u8 c] w fun e w' => e = .returned (.tuple #[.int .u8 (tailLo c), .int .u8 (tailHi c), .int .i64 (tailN c)]) ∧ w = w' := by
  go_enter Try.func47, Try.ntmps47
  go_wp2
  all_goals go_ret3
  all_goals refine ⟨ret3 ?_ ?_ ?_, rfl⟩
  all_goals (go_light; simp only [beq_iff_eq, beq_eq_false_iff_ne, ne_eq] at *)
  all_goals first | (unfold tailLo; (repeat' split) <;> omega) | (unfold tailHi; (repeat' split) <;> omega) | (unfold tailN; (repeat' split) <;> omega)

theorem byts_drop (s : ByteArray) (k : Nat) (h : k < s.size) : (byts s).drop k = ((s[k]'h).toNat : Int) :: (byts s).drop (k + 1) := by
  have hk : k < (byts s).length := by rw [byts_len]; exact h
  rw [List.drop_eq_getElem_cons hk]
  congr 1
  simp only [byts, List.getElem_map]
  rfl
theorem run_index_str (s : ByteArray) (i : Nat) (h : i < s.size) (W : World) : (Instr.index 9 (.string s) (.int .i64 (i : Int))).run Try.prog W = .ok (.int .u8 ((s[i]'h).toNat : Int)) W := by simp [go_sem, h]
theorem ret_iib {k1 k2 : IntKind} {a b a' b' : Int} {c c' : Bool} (h1 : a = a') (h2 : b = b') (h3 : c = c') : Ending.returned (.tuple #[.int k1 a, .int k2 b, .bool c]) = .returned (.tuple #[.int k1 a', .int k2 b', .bool c']) := by rw [h1, h2, h3]

set_option maxHeartbeats 2000000 in
theorem decode_any (s : ByteArray) (k : Nat) (w : World) (hk : k < s.size) (hs : s.size ≤ maxLen) :
    Calls Try.prog 39 #[.string s, .int .i64 k] w fun e w' => e = .returned (.tuple #[.int .i64 (decF ((byts s).drop k)).1, .int .i64 (decF ((byts s).drop k)).2.1, .bool (decF ((byts s).drop k)).2.2]) ∧ w = w' := by
  unfold maxLen at hs
  have hd := byts_drop s k hk
  have hc : (0 : Int) ≤ (s[k].toNat : Int) ∧ (s[k].toNat : Int) ≤ 255 := by have := s[k].toNat_lt; omega
  have hx := run_index_str s k hk
  obtain ⟨c, hcc⟩ : ∃ c, c = (s[k].toNat : Int) := ⟨_, rfl⟩
  rw [← hcc] at hc hd hx
  clear hcc
  have hN : tailN c = 0 ∨ tailN c = 1 ∨ tailN c = 2 ∨ tailN c = 3 ∨ tailN c = 4 := by unfold tailN; (repeat' split) <;> omega
  rcases hN with hN | hN | hN | hN | hN
  · have ht := tail_any c w hc.1 hc.2
    have hf : decF ((byts s).drop k) = (0, 0, false) := by rw [hd, decF, if_pos hN]
    rw [hN] at ht
    have HT := Lib.hid ht
    have HF := Lib.hid hf
    clear ht hN hd hf
    go_enter Try.func39, Try.ntmps39
    go_wp2_with (go_at_call 47; refine (HT.out).mono ?_; rintro e w1 ⟨rfl, rfl⟩)
    go_ret3
    exact ⟨ret_iib (by rw [HF.out]) (by rw [HF.out]; rfl) (by rw [HF.out]), rfl⟩
  · have ht := tail_any c w hc.1 hc.2
    have hf : decF ((byts s).drop k) = (c, 1, true) := by rw [hd, decF, if_neg (by omega), if_pos hN]
    rw [hN] at ht
    have HT := Lib.hid ht
    have HF := Lib.hid hf
    clear ht hN hd hf
    go_enter Try.func39, Try.ntmps39
    go_wp2_with (go_at_call 47; refine (HT.out).mono ?_; rintro e w1 ⟨rfl, rfl⟩)
    go_ret3
    exact ⟨ret_iib (by rw [HF.out]) (by rw [HF.out]; rfl) (by rw [HF.out]), rfl⟩
  · have ht := tail_any c w hc.1 hc.2
    have hf : decF ((byts s).drop k) = decL 1 ((byts s).drop (k + 1)) (c % 32) 1 (tailLo c) (tailHi c) := by rw [hd, decF, if_neg (by omega), if_neg (by omega), hN]; rfl
    rw [hN] at ht
    have HT := Lib.hid ht
    have HF := Lib.hid hf
    clear ht hN hd hf
    have hm : bits .and .i64 c 31 = c % 32 := mask_i64 5 (by omega) c hc.1 (by omega)
    go_enter Try.func39, Try.ntmps39
    go_wp2_with (go_at_call 47; refine (HT.out).mono ?_; rintro e w1 ⟨rfl, rfl⟩)
    go_loopw [4, 5, 8, 9] (fun vp vz vl vh wr => ∃ (pt : Int) (sz : Nat) (lo hi : Int), 1 ≤ sz ∧ sz ≤ 2 ∧ 0 ≤ pt ∧ pt < 32 * 64 ^ (sz - 1) ∧ vp = .int .i64 pt ∧ vz = .int .i64 sz ∧ vl = .int .u8 lo ∧ vh = .int .u8 hi ∧ k + sz ≤ s.size ∧
      decL (2 - sz) ((byts s).drop (k + sz)) pt sz lo hi = decF ((byts s).drop k) ∧ w = wr) (fun _ z _ _ _ => 2 - (intOf z).toNat)
    case atStart => exact ⟨c % 32, 1, tailLo c, tailHi c, by omega, by omega, by omega, by omega, rfl, rfl, rfl, rfl, by omega, HF.out.symm, rfl⟩
    case round =>
      obtain ⟨pt, sz, lo, hi, hz1, hz2, hp0, hp1, rfl, rfl, rfl, rfl, hks, hdl, rfl⟩ := hrel
      have HDL := Lib.hid hdl
      clear hdl hm
      by_cases hlt : sz < 2
      · have hp2 : pt < 131072 := by
          have h3 : sz - 1 = 0 ∨ sz - 1 = 1 ∨ sz - 1 = 2 := by omega
          rcases h3 with h3 | h3 | h3 <;> rw [h3] at hp1 <;> omega
        have HP : Hid (pt * 64 + 63 < 32 * 64 ^ (sz + 1 - 1)) := by
          show _ < _
          rw [show sz + 1 - 1 = (sz - 1) + 1 by omega, Int.pow_succ]
          omega
        clear hp1
        by_cases hin : k + sz < s.size
        · have hd2 := byts_drop s (k + sz) hin
          have hc2 : (0 : Int) ≤ (s[k + sz].toNat : Int) ∧ (s[k + sz].toNat : Int) ≤ 255 := by have := s[k + sz].toNat_lt; omega
          have hx2 := run_index_str s (k + sz) hin
          obtain ⟨d, hdd⟩ : ∃ d, d = (s[k + sz].toNat : Int) := ⟨_, rfl⟩
          rw [← hdd] at hc2 hd2 hx2
          rw [show ((k + sz : Nat) : Int) = (k : Int) + (sz : Int) by omega] at hx2
          clear hdd
          have HS : Hid (decL (2 - sz) ((byts s).drop (k + sz)) pt sz lo hi = if d < lo ∨ hi < d then (0, sz, false) else decL (2 - (sz + 1)) ((byts s).drop (k + (sz + 1))) (pt * 64 + d % 64) (sz + 1) 128 191) := by
            show _ = _
            rw [show 2 - sz = (2 - (sz + 1)) + 1 by omega, hd2, decL]; rfl
          clear hd2
          by_cases hb1 : d < lo
          · go_wp2_with fail
            go_ret3
            have e := HDL.out
            rw [HS.out, if_pos (.inl hb1)] at e
            exact ⟨ret_iib (by rw [← e]) (by rw [← e]) (by rw [← e]), rfl⟩
          · by_cases hb2 : hi < d
            · go_wp2_with fail
              go_ret3
              have e := HDL.out
              rw [HS.out, if_pos (.inr hb2)] at e
              exact ⟨ret_iib (by rw [← e]) (by rw [← e]) (by rw [← e]), rfl⟩
            · have hm2 : bits .and .i64 d 63 = d % 64 := mask_i64 6 (by omega) d hc2.1 (by omega)
              have hj2 : bits .or .i64 (pt * 64) (d % 64) = pt * 64 + d % 64 := join_i64 6 pt (d % 64) hp0 (by omega) (by omega) (by omega)
              go_wp2_with fail
              go_roundw
              case rel =>
                have e := HDL.out
                rw [HS.out, if_neg (by omega)] at e
                exact ⟨pt * 64 + d % 64, sz + 1, 128, 191, by omega, by omega, by omega, by have := HP.out; omega, rfl, by go_num, rfl, rfl, by omega, e, by first | rfl | trivial⟩
              case measure => simp [intOf]; omega
        · have HS : Hid (decL (2 - sz) ((byts s).drop (k + sz)) pt sz lo hi = (0, sz, false)) := by
            show _ = _
            rw [show 2 - sz = (2 - (sz + 1)) + 1 by omega, show (byts s).drop (k + sz) = [] from List.drop_eq_nil_of_le (by rw [byts_len]; omega), decL]
          go_wp2_with fail
          go_ret3
          have e := HDL.out
          rw [HS.out] at e
          exact ⟨ret_iib (by rw [← e]) (by rw [← e]) (by rw [← e]), rfl⟩
      · have : sz = 2 := by omega
        subst this
        go_wp2_with fail
        go_ret3
        have e := HDL.out
        rw [Nat.sub_self, decL] at e
        exact ⟨ret_iib (by rw [← e]) (by rw [← e]) (by rw [← e]), rfl⟩
  · have ht := tail_any c w hc.1 hc.2
    have hf : decF ((byts s).drop k) = decL 2 ((byts s).drop (k + 1)) (c % 16) 1 (tailLo c) (tailHi c) := by rw [hd, decF, if_neg (by omega), if_neg (by omega), hN]; rfl
    rw [hN] at ht
    have HT := Lib.hid ht
    have HF := Lib.hid hf
    clear ht hN hd hf
    have hm : bits .and .i64 c 15 = c % 16 := mask_i64 4 (by omega) c hc.1 (by omega)
    go_enter Try.func39, Try.ntmps39
    go_wp2_with (go_at_call 47; refine (HT.out).mono ?_; rintro e w1 ⟨rfl, rfl⟩)
    go_loopw [4, 5, 8, 9] (fun vp vz vl vh wr => ∃ (pt : Int) (sz : Nat) (lo hi : Int), 1 ≤ sz ∧ sz ≤ 3 ∧ 0 ≤ pt ∧ pt < 32 * 64 ^ (sz - 1) ∧ vp = .int .i64 pt ∧ vz = .int .i64 sz ∧ vl = .int .u8 lo ∧ vh = .int .u8 hi ∧ k + sz ≤ s.size ∧
      decL (3 - sz) ((byts s).drop (k + sz)) pt sz lo hi = decF ((byts s).drop k) ∧ w = wr) (fun _ z _ _ _ => 3 - (intOf z).toNat)
    case atStart => exact ⟨c % 16, 1, tailLo c, tailHi c, by omega, by omega, by omega, by omega, rfl, rfl, rfl, rfl, by omega, HF.out.symm, rfl⟩
    case round =>
      obtain ⟨pt, sz, lo, hi, hz1, hz2, hp0, hp1, rfl, rfl, rfl, rfl, hks, hdl, rfl⟩ := hrel
      have HDL := Lib.hid hdl
      clear hdl hm
      by_cases hlt : sz < 3
      · have hp2 : pt < 131072 := by
          have h3 : sz - 1 = 0 ∨ sz - 1 = 1 ∨ sz - 1 = 2 := by omega
          rcases h3 with h3 | h3 | h3 <;> rw [h3] at hp1 <;> omega
        have HP : Hid (pt * 64 + 63 < 32 * 64 ^ (sz + 1 - 1)) := by
          show _ < _
          rw [show sz + 1 - 1 = (sz - 1) + 1 by omega, Int.pow_succ]
          omega
        clear hp1
        by_cases hin : k + sz < s.size
        · have hd2 := byts_drop s (k + sz) hin
          have hc2 : (0 : Int) ≤ (s[k + sz].toNat : Int) ∧ (s[k + sz].toNat : Int) ≤ 255 := by have := s[k + sz].toNat_lt; omega
          have hx2 := run_index_str s (k + sz) hin
          obtain ⟨d, hdd⟩ : ∃ d, d = (s[k + sz].toNat : Int) := ⟨_, rfl⟩
          rw [← hdd] at hc2 hd2 hx2
          rw [show ((k + sz : Nat) : Int) = (k : Int) + (sz : Int) by omega] at hx2
          clear hdd
          have HS : Hid (decL (3 - sz) ((byts s).drop (k + sz)) pt sz lo hi = if d < lo ∨ hi < d then (0, sz, false) else decL (3 - (sz + 1)) ((byts s).drop (k + (sz + 1))) (pt * 64 + d % 64) (sz + 1) 128 191) := by
            show _ = _
            rw [show 3 - sz = (3 - (sz + 1)) + 1 by omega, hd2, decL]; rfl
          clear hd2
          by_cases hb1 : d < lo
          · go_wp2_with fail
            go_ret3
            have e := HDL.out
            rw [HS.out, if_pos (.inl hb1)] at e
            exact ⟨ret_iib (by rw [← e]) (by rw [← e]) (by rw [← e]), rfl⟩
          · by_cases hb2 : hi < d
            · go_wp2_with fail
              go_ret3
              have e := HDL.out
              rw [HS.out, if_pos (.inr hb2)] at e
              exact ⟨ret_iib (by rw [← e]) (by rw [← e]) (by rw [← e]), rfl⟩
            · have hm2 : bits .and .i64 d 63 = d % 64 := mask_i64 6 (by omega) d hc2.1 (by omega)
              have hj2 : bits .or .i64 (pt * 64) (d % 64) = pt * 64 + d % 64 := join_i64 6 pt (d % 64) hp0 (by omega) (by omega) (by omega)
              go_wp2_with fail
              go_roundw
              case rel =>
                have e := HDL.out
                rw [HS.out, if_neg (by omega)] at e
                exact ⟨pt * 64 + d % 64, sz + 1, 128, 191, by omega, by omega, by omega, by have := HP.out; omega, rfl, by go_num, rfl, rfl, by omega, e, by first | rfl | trivial⟩
              case measure => simp [intOf]; omega
        · have HS : Hid (decL (3 - sz) ((byts s).drop (k + sz)) pt sz lo hi = (0, sz, false)) := by
            show _ = _
            rw [show 3 - sz = (3 - (sz + 1)) + 1 by omega, show (byts s).drop (k + sz) = [] from List.drop_eq_nil_of_le (by rw [byts_len]; omega), decL]
          go_wp2_with fail
          go_ret3
          have e := HDL.out
          rw [HS.out] at e
          exact ⟨ret_iib (by rw [← e]) (by rw [← e]) (by rw [← e]), rfl⟩
      · have : sz = 3 := by omega
        subst this
        go_wp2_with fail
        go_ret3
        have e := HDL.out
        rw [Nat.sub_self, decL] at e
        exact ⟨ret_iib (by rw [← e]) (by rw [← e]) (by rw [← e]), rfl⟩
  · have ht := tail_any c w hc.1 hc.2
    have hf : decF ((byts s).drop k) = decL 3 ((byts s).drop (k + 1)) (c % 8) 1 (tailLo c) (tailHi c) := by rw [hd, decF, if_neg (by omega), if_neg (by omega), hN]; rfl
    rw [hN] at ht
    have HT := Lib.hid ht
    have HF := Lib.hid hf
    clear ht hN hd hf
    have hm : bits .and .i64 c 7 = c % 8 := mask_i64 3 (by omega) c hc.1 (by omega)
    go_enter Try.func39, Try.ntmps39
    go_wp2_with (go_at_call 47; refine (HT.out).mono ?_; rintro e w1 ⟨rfl, rfl⟩)
    go_loopw [4, 5, 8, 9] (fun vp vz vl vh wr => ∃ (pt : Int) (sz : Nat) (lo hi : Int), 1 ≤ sz ∧ sz ≤ 4 ∧ 0 ≤ pt ∧ pt < 32 * 64 ^ (sz - 1) ∧ vp = .int .i64 pt ∧ vz = .int .i64 sz ∧ vl = .int .u8 lo ∧ vh = .int .u8 hi ∧ k + sz ≤ s.size ∧
      decL (4 - sz) ((byts s).drop (k + sz)) pt sz lo hi = decF ((byts s).drop k) ∧ w = wr) (fun _ z _ _ _ => 4 - (intOf z).toNat)
    case atStart => exact ⟨c % 8, 1, tailLo c, tailHi c, by omega, by omega, by omega, by omega, rfl, rfl, rfl, rfl, by omega, HF.out.symm, rfl⟩
    case round =>
      obtain ⟨pt, sz, lo, hi, hz1, hz2, hp0, hp1, rfl, rfl, rfl, rfl, hks, hdl, rfl⟩ := hrel
      have HDL := Lib.hid hdl
      clear hdl hm
      by_cases hlt : sz < 4
      · have hp2 : pt < 131072 := by
          have h3 : sz - 1 = 0 ∨ sz - 1 = 1 ∨ sz - 1 = 2 := by omega
          rcases h3 with h3 | h3 | h3 <;> rw [h3] at hp1 <;> omega
        have HP : Hid (pt * 64 + 63 < 32 * 64 ^ (sz + 1 - 1)) := by
          show _ < _
          rw [show sz + 1 - 1 = (sz - 1) + 1 by omega, Int.pow_succ]
          omega
        clear hp1
        by_cases hin : k + sz < s.size
        · have hd2 := byts_drop s (k + sz) hin
          have hc2 : (0 : Int) ≤ (s[k + sz].toNat : Int) ∧ (s[k + sz].toNat : Int) ≤ 255 := by have := s[k + sz].toNat_lt; omega
          have hx2 := run_index_str s (k + sz) hin
          obtain ⟨d, hdd⟩ : ∃ d, d = (s[k + sz].toNat : Int) := ⟨_, rfl⟩
          rw [← hdd] at hc2 hd2 hx2
          rw [show ((k + sz : Nat) : Int) = (k : Int) + (sz : Int) by omega] at hx2
          clear hdd
          have HS : Hid (decL (4 - sz) ((byts s).drop (k + sz)) pt sz lo hi = if d < lo ∨ hi < d then (0, sz, false) else decL (4 - (sz + 1)) ((byts s).drop (k + (sz + 1))) (pt * 64 + d % 64) (sz + 1) 128 191) := by
            show _ = _
            rw [show 4 - sz = (4 - (sz + 1)) + 1 by omega, hd2, decL]; rfl
          clear hd2
          by_cases hb1 : d < lo
          · go_wp2_with fail
            go_ret3
            have e := HDL.out
            rw [HS.out, if_pos (.inl hb1)] at e
            exact ⟨ret_iib (by rw [← e]) (by rw [← e]) (by rw [← e]), rfl⟩
          · by_cases hb2 : hi < d
            · go_wp2_with fail
              go_ret3
              have e := HDL.out
              rw [HS.out, if_pos (.inr hb2)] at e
              exact ⟨ret_iib (by rw [← e]) (by rw [← e]) (by rw [← e]), rfl⟩
            · have hm2 : bits .and .i64 d 63 = d % 64 := mask_i64 6 (by omega) d hc2.1 (by omega)
              have hj2 : bits .or .i64 (pt * 64) (d % 64) = pt * 64 + d % 64 := join_i64 6 pt (d % 64) hp0 (by omega) (by omega) (by omega)
              go_wp2_with fail
              go_roundw
              case rel =>
                have e := HDL.out
                rw [HS.out, if_neg (by omega)] at e
                exact ⟨pt * 64 + d % 64, sz + 1, 128, 191, by omega, by omega, by omega, by have := HP.out; omega, rfl, by go_num, rfl, rfl, by omega, e, by first | rfl | trivial⟩
              case measure => simp [intOf]; omega
        · have HS : Hid (decL (4 - sz) ((byts s).drop (k + sz)) pt sz lo hi = (0, sz, false)) := by
            show _ = _
            rw [show 4 - sz = (4 - (sz + 1)) + 1 by omega, show (byts s).drop (k + sz) = [] from List.drop_eq_nil_of_le (by rw [byts_len]; omega), decL]
          go_wp2_with fail
          go_ret3
          have e := HDL.out
          rw [HS.out] at e
          exact ⟨ret_iib (by rw [← e]) (by rw [← e]) (by rw [← e]), rfl⟩
      · have : sz = 4 := by omega
        subst this
        go_wp2_with fail
        go_ret3
        have e := HDL.out
        rw [Nat.sub_self, decL] at e
        exact ⟨ret_iib (by rw [← e]) (by rw [← e]) (by rw [← e]), rfl⟩
end Go.Proofs.Ytjpbmeonkfkgdaa
