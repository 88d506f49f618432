/- The walk of the law TocPaths. -/
import Derived.Test.YtbeollddmglkcaaD2
import Derived.Test.YtbeollddmglkcaaP3
namespace Go.Proofs.Ytbeollddmglkcaa
open Go.RowKit

theorem find_path_c (A B : Option Addr) (n c d : Nat) (hs : List Hd) (i : Nat) (w : World) (ha : Sl w 5 hdC A n hs) (hb : Sl w 1 intC B (pathOf (lvs hs) i).length (pathOf (lvs hs) i)) (hn : n ≤ 65536) (hi : i < n) :
    Calls Try.prog 21 #[.slice A n c, .slice B (pathOf (lvs hs) i).length d] w fun e w' => e = .returned (.tuple #[.int .i64 i, .bool true]) ∧ Below w.heap.size w w' := by
  have h := find_any A B n c _ d hs _ w ha hb hn (by have := pathOf_len (lvs hs) i; unfold maxLen; omega)
  rw [findF_path (lvs hs) hi] at h
  have e1 : foundI (some (i : Int)) = i := by unfold foundI; simp only; omega
  have e2 : foundB (some (i : Int)) = true := by unfold foundB; simp
  rw [e1, e2] at h
  exact h

set_option maxHeartbeats 4000000 in
set_option maxRecDepth 100000 in
theorem paths_loop (A : Option Addr) (m c : Nat) (hs' : List Hd) (p : Int) (w : World) (ha : Sl w 5 hdC A m hs') (hm40 : m ≤ 40) (hp : -9223372036854775808 ≤ p ∧ p ≤ 9223372036854775807) (A0 : Option Addr) (n0 : Nat)
    (hcut : Calls Try.prog 9 #[.slice A0 n0 c] w fun e w' => e = .returned (.slice A m c) ∧ w = w') :
    Calls Try.prog 6 #[.slice A0 n0 c, .int .i64 p] w fun e w' => e = .returned (.bool true) ∧ Below w.heap.size w w' := by
  have hm2 : m ≤ maxLen := by unfold maxLen; omega
  have HC := Lib.hid hcut
  clear hcut
  have hfirst : (∃ (B : Option Addr → Nat → Nat → Prop) (v : Int), (v = 0 ∧ 0 ≤ p ∧ p < m ∨ v = 2 ∧ (p < 0 ∨ (m : Int) ≤ p)) ∧ ∀ W, Sl W 5 hdC A m hs' →
      Calls Try.prog 20 #[.slice A m c, .int .i64 p] W fun e w' => (∃ B1 l1 c1, e = .returned (.tuple #[.slice B1 l1 c1, .int .i64 v])) ∧ Below W.heap.size W w') := by
    by_cases hin : p < 0 ∨ (m : Int) ≤ p
    · refine ⟨fun _ _ _ => True, 2, .inr ⟨rfl, hin⟩, fun W h => (path_none A m c p W hm2 hin).mono ?_⟩
      rintro e w' ⟨rfl, hb⟩
      exact ⟨⟨none, 0, 0, rfl⟩, hb⟩
    · obtain ⟨q, rfl⟩ := Int.eq_ofNat_of_zero_le (by omega : 0 ≤ p)
      refine ⟨fun _ _ _ => True, 0, .inl ⟨rfl, by omega, by omega⟩, fun W h => (path_any A m c hs' q W h (by omega) (by omega)).mono ?_⟩
      rintro e w' ⟨B1, c1, rfl, _, hb⟩
      exact ⟨⟨B1, _, c1, rfl⟩, hb⟩
  obtain ⟨_, v, hv, hcall⟩ := hfirst
  have HP := Lib.hid hcall
  clear hcall
  have hpl := pathOf_len (lvs hs')
  have HPL := Lib.hid hpl
  clear hpl
  rcases hv with ⟨rfl, h1, h2⟩ | ⟨rfl, h1 | h1⟩
  · have h3 : ¬ p < 0 := by omega
    go_enter Try.func6, Try.ntmps6
    go_wp2_with (first
      | (go_at_call 9; refine (HC.out).mono ?_; rintro e w1 ⟨rfl, rfl⟩)
      | (go_at_call 20; refine (HP.out _ ha).mono ?_; rintro e w2 ⟨⟨B1, l1, c1, rfl⟩, hb2⟩)
      | (go_at_call 11; refine (known_any _).mono ?_; rintro e w4 ⟨rfl, hb4⟩; have hb24 := below_trans' hb2 hb2.size hb4))
    go_loopw [7, 8] (fun vl vi wr => ∃ (k : Nat) (ls : List Int) (A1 : Option Addr) (c1 : Nat), k ≤ m ∧ vi = .int .i64 k ∧ vl = .slice A1 ls.length c1 ∧ Sl wr 1 intC A1 ls.length ls ∧ (0 < k → ls = pathOf (lvs hs') (k - 1)) ∧ ls.length ≤ 41 ∧ Below w.heap.size w wr) (fun _ i _ => m - (intOf i).toNat)
    case atStart => exact ⟨0, [], none, 0, Nat.zero_le _, rfl, rfl, Sl.nil, fun h => absurd h (by omega), by simp, hb24⟩
    case round =>
      obtain ⟨k, ls, A1, c1, hk, rfl, rfl, hsl, hls, hll, hbw⟩ := hrel
      have hsw := ha.below hbw
      by_cases hlt : k < m
      · have hpk := HPL.out k
        have hmp := fun W h => mpath_any A m c hs' (by omega) (k + 1) (k : Int) W (by omega) (by omega) (by omega) h
        rw [Int.toNat_natCast] at hmp
        have hpa := fun W h => path_any A m c hs' k W h (by omega) hlt
        have hfi := fun W B d h hb => find_path_c A B m c d hs' k W h hb (by omega) hlt
        obtain ⟨ps, hps⟩ : ∃ ps, ps = pathOf (lvs hs') k := ⟨_, rfl⟩
        rw [← hps] at hpk hmp hpa hfi
        obtain ⟨pl, hpl⟩ : ∃ pl, pl = ps.length := ⟨_, rfl⟩
        rw [← hpl] at hpk hmp hpa hfi
        have HMP := Lib.hid hmp
        have HPA := Lib.hid hpa
        have HFI := Lib.hid hfi
        have HPS := Lib.hid hps
        have HPLL := Lib.hid hpl
        clear hmp hpa hfi hps hpl
        rcases k with _ | k
        · clear hls
          go_wp2_with (first
            | (go_at_call 20; refine (HPA.out _ hsw).mono ?_; rintro e w5 ⟨A5, c5, rfl, ho5, hb5⟩)
            | (go_at_call 21; refine (HFI.out _ A5 c5 (hsw.below hb5) (ho5.sl intC_len)).mono ?_; rintro e w6 ⟨rfl, hb6⟩; have hb56 := below_trans' hb5 hb5.size hb6)
            | (go_at_call 22; refine (HMP.out _ (hsw.below hb56)).mono ?_; rintro e w7 ⟨A7, c7, rfl, ho7, _, hb7⟩)
            | (go_at_call 19; refine (ex_same_c A5 A7 pl pl c5 c7 ps _ (((ho5.below hb6).below hb7).sl intC_len) (ho7.sl intC_len) (by omega)).mono ?_; rintro e w8 ⟨rfl, hb8⟩))
          go_roundw
          case rel =>
            refine ⟨0 + 1, ps, A5, c5, by omega, by go_num, by rw [← HPLL.out], ?_, fun _ => HPS.out, by have := HPLL.out; omega, below_trans' hbw hbw.size (below_trans' hb56 hb56.size (below_trans' hb7 hb7.size hb8))⟩
            rw [← HPLL.out]
            exact (((ho5.below hb6).below hb7).below hb8).sl intC_len
          case measure => simp [intOf]; omega
        · have hle : lessF ls ps = true := by
            rw [hls (by omega), HPS.out]; exact path_less _ _
          have hlc := fun W c1 c5 A5 h h' => less_any A1 A5 ls.length pl c1 c5 ls ps W h h' (by unfold maxLen; omega)
          rw [hle] at hlc
          have HLC := Lib.hid hlc
          clear hle hlc hls
          have hgt : (0 : Int) < (k : Int) + 1 := by omega
          have ek : (((k + 1 : Nat)) : Int) = (k : Int) + 1 := by omega
          go_wp2_with (first
            | (go_at_call 20; refine (HPA.out _ hsw).mono ?_; rintro e w5 ⟨A5, c5, rfl, ho5, hb5⟩)
            | (go_at_call 21; refine (HFI.out _ A5 c5 (hsw.below hb5) (ho5.sl intC_len)).mono ?_; rintro e w6 ⟨rfl, hb6⟩; have hb56 := below_trans' hb5 hb5.size hb6)
            | (go_at_call 22; refine (HMP.out _ (hsw.below hb56)).mono ?_; rintro e w7 ⟨A7, c7, rfl, ho7, _, hb7⟩)
            | (go_at_call 19; refine (ex_same_c A5 A7 pl pl c5 c7 ps _ (((ho5.below hb6).below hb7).sl intC_len) (ho7.sl intC_len) (by omega)).mono ?_; rintro e w8 ⟨rfl, hb8⟩; have ho8 := ((ho5.below hb6).below hb7).below hb8; have hbx := below_trans' hb56 hb56.size (below_trans' hb7 hb7.size hb8))
            | (go_at_call 23; refine (HLC.out _ c1 c5 A5 (hsl.below hbx) (ho8.sl intC_len)).mono ?_; rintro e w9 ⟨rfl, hb9⟩))
          go_roundw
          case rel =>
            refine ⟨k + 1 + 1, ps, A5, c5, by omega, by go_num, by rw [← HPLL.out], ?_, fun _ => HPS.out, by have := HPLL.out; omega, below_trans' hbw hbw.size (below_trans' hbx hbx.size hb9)⟩
            rw [← HPLL.out]
            exact (ho8.below hb9).sl intC_len
          case measure => simp [intOf]; omega
      · go_wp2_with fail
        go_ret
        exact ⟨rfl, hbw⟩
  · go_enter Try.func6, Try.ntmps6
    go_wp2_with (first
      | (go_at_call 9; refine (HC.out).mono ?_; rintro e w1 ⟨rfl, rfl⟩)
      | (go_at_call 20; refine (HP.out _ ha).mono ?_; rintro e w2 ⟨⟨B1, l1, c1, rfl⟩, hb2⟩)
      | (go_at_call 11; refine (known_any _).mono ?_; rintro e w4 ⟨rfl, hb4⟩; have hb24 := below_trans' hb2 hb2.size hb4))
    go_loopw [7, 8] (fun vl vi wr => ∃ (k : Nat) (ls : List Int) (A1 : Option Addr) (c1 : Nat), k ≤ m ∧ vi = .int .i64 k ∧ vl = .slice A1 ls.length c1 ∧ Sl wr 1 intC A1 ls.length ls ∧ (0 < k → ls = pathOf (lvs hs') (k - 1)) ∧ ls.length ≤ 41 ∧ Below w.heap.size w wr) (fun _ i _ => m - (intOf i).toNat)
    case atStart => exact ⟨0, [], none, 0, Nat.zero_le _, rfl, rfl, Sl.nil, fun h => absurd h (by omega), by simp, hb24⟩
    case round =>
      obtain ⟨k, ls, A1, c1, hk, rfl, rfl, hsl, hls, hll, hbw⟩ := hrel
      have hsw := ha.below hbw
      by_cases hlt : k < m
      · have hpk := HPL.out k
        have hmp := fun W h => mpath_any A m c hs' (by omega) (k + 1) (k : Int) W (by omega) (by omega) (by omega) h
        rw [Int.toNat_natCast] at hmp
        have hpa := fun W h => path_any A m c hs' k W h (by omega) hlt
        have hfi := fun W B d h hb => find_path_c A B m c d hs' k W h hb (by omega) hlt
        obtain ⟨ps, hps⟩ : ∃ ps, ps = pathOf (lvs hs') k := ⟨_, rfl⟩
        rw [← hps] at hpk hmp hpa hfi
        obtain ⟨pl, hpl⟩ : ∃ pl, pl = ps.length := ⟨_, rfl⟩
        rw [← hpl] at hpk hmp hpa hfi
        have HMP := Lib.hid hmp
        have HPA := Lib.hid hpa
        have HFI := Lib.hid hfi
        have HPS := Lib.hid hps
        have HPLL := Lib.hid hpl
        clear hmp hpa hfi hps hpl
        rcases k with _ | k
        · clear hls
          go_wp2_with (first
            | (go_at_call 20; refine (HPA.out _ hsw).mono ?_; rintro e w5 ⟨A5, c5, rfl, ho5, hb5⟩)
            | (go_at_call 21; refine (HFI.out _ A5 c5 (hsw.below hb5) (ho5.sl intC_len)).mono ?_; rintro e w6 ⟨rfl, hb6⟩; have hb56 := below_trans' hb5 hb5.size hb6)
            | (go_at_call 22; refine (HMP.out _ (hsw.below hb56)).mono ?_; rintro e w7 ⟨A7, c7, rfl, ho7, _, hb7⟩)
            | (go_at_call 19; refine (ex_same_c A5 A7 pl pl c5 c7 ps _ (((ho5.below hb6).below hb7).sl intC_len) (ho7.sl intC_len) (by omega)).mono ?_; rintro e w8 ⟨rfl, hb8⟩))
          go_roundw
          case rel =>
            refine ⟨0 + 1, ps, A5, c5, by omega, by go_num, by rw [← HPLL.out], ?_, fun _ => HPS.out, by have := HPLL.out; omega, below_trans' hbw hbw.size (below_trans' hb56 hb56.size (below_trans' hb7 hb7.size hb8))⟩
            rw [← HPLL.out]
            exact (((ho5.below hb6).below hb7).below hb8).sl intC_len
          case measure => simp [intOf]; omega
        · have hle : lessF ls ps = true := by
            rw [hls (by omega), HPS.out]; exact path_less _ _
          have hlc := fun W c1 c5 A5 h h' => less_any A1 A5 ls.length pl c1 c5 ls ps W h h' (by unfold maxLen; omega)
          rw [hle] at hlc
          have HLC := Lib.hid hlc
          clear hle hlc hls
          have hgt : (0 : Int) < (k : Int) + 1 := by omega
          have ek : (((k + 1 : Nat)) : Int) = (k : Int) + 1 := by omega
          go_wp2_with (first
            | (go_at_call 20; refine (HPA.out _ hsw).mono ?_; rintro e w5 ⟨A5, c5, rfl, ho5, hb5⟩)
            | (go_at_call 21; refine (HFI.out _ A5 c5 (hsw.below hb5) (ho5.sl intC_len)).mono ?_; rintro e w6 ⟨rfl, hb6⟩; have hb56 := below_trans' hb5 hb5.size hb6)
            | (go_at_call 22; refine (HMP.out _ (hsw.below hb56)).mono ?_; rintro e w7 ⟨A7, c7, rfl, ho7, _, hb7⟩)
            | (go_at_call 19; refine (ex_same_c A5 A7 pl pl c5 c7 ps _ (((ho5.below hb6).below hb7).sl intC_len) (ho7.sl intC_len) (by omega)).mono ?_; rintro e w8 ⟨rfl, hb8⟩; have ho8 := ((ho5.below hb6).below hb7).below hb8; have hbx := below_trans' hb56 hb56.size (below_trans' hb7 hb7.size hb8))
            | (go_at_call 23; refine (HLC.out _ c1 c5 A5 (hsl.below hbx) (ho8.sl intC_len)).mono ?_; rintro e w9 ⟨rfl, hb9⟩))
          go_roundw
          case rel =>
            refine ⟨k + 1 + 1, ps, A5, c5, by omega, by go_num, by rw [← HPLL.out], ?_, fun _ => HPS.out, by have := HPLL.out; omega, below_trans' hbw hbw.size (below_trans' hbx hbx.size hb9)⟩
            rw [← HPLL.out]
            exact (ho8.below hb9).sl intC_len
          case measure => simp [intOf]; omega
      · go_wp2_with fail
        go_ret
        exact ⟨rfl, hbw⟩
  · have h3 : ¬ p < 0 := by omega
    go_enter Try.func6, Try.ntmps6
    go_wp2_with (first
      | (go_at_call 9; refine (HC.out).mono ?_; rintro e w1 ⟨rfl, rfl⟩)
      | (go_at_call 20; refine (HP.out _ ha).mono ?_; rintro e w2 ⟨⟨B1, l1, c1, rfl⟩, hb2⟩)
      | (go_at_call 11; refine (known_any _).mono ?_; rintro e w4 ⟨rfl, hb4⟩; have hb24 := below_trans' hb2 hb2.size hb4))
    go_loopw [7, 8] (fun vl vi wr => ∃ (k : Nat) (ls : List Int) (A1 : Option Addr) (c1 : Nat), k ≤ m ∧ vi = .int .i64 k ∧ vl = .slice A1 ls.length c1 ∧ Sl wr 1 intC A1 ls.length ls ∧ (0 < k → ls = pathOf (lvs hs') (k - 1)) ∧ ls.length ≤ 41 ∧ Below w.heap.size w wr) (fun _ i _ => m - (intOf i).toNat)
    case atStart => exact ⟨0, [], none, 0, Nat.zero_le _, rfl, rfl, Sl.nil, fun h => absurd h (by omega), by simp, hb24⟩
    case round =>
      obtain ⟨k, ls, A1, c1, hk, rfl, rfl, hsl, hls, hll, hbw⟩ := hrel
      have hsw := ha.below hbw
      by_cases hlt : k < m
      · have hpk := HPL.out k
        have hmp := fun W h => mpath_any A m c hs' (by omega) (k + 1) (k : Int) W (by omega) (by omega) (by omega) h
        rw [Int.toNat_natCast] at hmp
        have hpa := fun W h => path_any A m c hs' k W h (by omega) hlt
        have hfi := fun W B d h hb => find_path_c A B m c d hs' k W h hb (by omega) hlt
        obtain ⟨ps, hps⟩ : ∃ ps, ps = pathOf (lvs hs') k := ⟨_, rfl⟩
        rw [← hps] at hpk hmp hpa hfi
        obtain ⟨pl, hpl⟩ : ∃ pl, pl = ps.length := ⟨_, rfl⟩
        rw [← hpl] at hpk hmp hpa hfi
        have HMP := Lib.hid hmp
        have HPA := Lib.hid hpa
        have HFI := Lib.hid hfi
        have HPS := Lib.hid hps
        have HPLL := Lib.hid hpl
        clear hmp hpa hfi hps hpl
        rcases k with _ | k
        · clear hls
          go_wp2_with (first
            | (go_at_call 20; refine (HPA.out _ hsw).mono ?_; rintro e w5 ⟨A5, c5, rfl, ho5, hb5⟩)
            | (go_at_call 21; refine (HFI.out _ A5 c5 (hsw.below hb5) (ho5.sl intC_len)).mono ?_; rintro e w6 ⟨rfl, hb6⟩; have hb56 := below_trans' hb5 hb5.size hb6)
            | (go_at_call 22; refine (HMP.out _ (hsw.below hb56)).mono ?_; rintro e w7 ⟨A7, c7, rfl, ho7, _, hb7⟩)
            | (go_at_call 19; refine (ex_same_c A5 A7 pl pl c5 c7 ps _ (((ho5.below hb6).below hb7).sl intC_len) (ho7.sl intC_len) (by omega)).mono ?_; rintro e w8 ⟨rfl, hb8⟩))
          go_roundw
          case rel =>
            refine ⟨0 + 1, ps, A5, c5, by omega, by go_num, by rw [← HPLL.out], ?_, fun _ => HPS.out, by have := HPLL.out; omega, below_trans' hbw hbw.size (below_trans' hb56 hb56.size (below_trans' hb7 hb7.size hb8))⟩
            rw [← HPLL.out]
            exact (((ho5.below hb6).below hb7).below hb8).sl intC_len
          case measure => simp [intOf]; omega
        · have hle : lessF ls ps = true := by
            rw [hls (by omega), HPS.out]; exact path_less _ _
          have hlc := fun W c1 c5 A5 h h' => less_any A1 A5 ls.length pl c1 c5 ls ps W h h' (by unfold maxLen; omega)
          rw [hle] at hlc
          have HLC := Lib.hid hlc
          clear hle hlc hls
          have hgt : (0 : Int) < (k : Int) + 1 := by omega
          have ek : (((k + 1 : Nat)) : Int) = (k : Int) + 1 := by omega
          go_wp2_with (first
            | (go_at_call 20; refine (HPA.out _ hsw).mono ?_; rintro e w5 ⟨A5, c5, rfl, ho5, hb5⟩)
            | (go_at_call 21; refine (HFI.out _ A5 c5 (hsw.below hb5) (ho5.sl intC_len)).mono ?_; rintro e w6 ⟨rfl, hb6⟩; have hb56 := below_trans' hb5 hb5.size hb6)
            | (go_at_call 22; refine (HMP.out _ (hsw.below hb56)).mono ?_; rintro e w7 ⟨A7, c7, rfl, ho7, _, hb7⟩)
            | (go_at_call 19; refine (ex_same_c A5 A7 pl pl c5 c7 ps _ (((ho5.below hb6).below hb7).sl intC_len) (ho7.sl intC_len) (by omega)).mono ?_; rintro e w8 ⟨rfl, hb8⟩; have ho8 := ((ho5.below hb6).below hb7).below hb8; have hbx := below_trans' hb56 hb56.size (below_trans' hb7 hb7.size hb8))
            | (go_at_call 23; refine (HLC.out _ c1 c5 A5 (hsl.below hbx) (ho8.sl intC_len)).mono ?_; rintro e w9 ⟨rfl, hb9⟩))
          go_roundw
          case rel =>
            refine ⟨k + 1 + 1, ps, A5, c5, by omega, by go_num, by rw [← HPLL.out], ?_, fun _ => HPS.out, by have := HPLL.out; omega, below_trans' hbw hbw.size (below_trans' hbx hbx.size hb9)⟩
            rw [← HPLL.out]
            exact (ho8.below hb9).sl intC_len
          case measure => simp [intOf]; omega
      · go_wp2_with fail
        go_ret
        exact ⟨rfl, hbw⟩
end Go.Proofs.Ytbeollddmglkcaa
