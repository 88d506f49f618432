/- The walks of the laws TocPaths, TocFinds. -/
import Derived.Test.YtbeollddmglkcaaD5
namespace Go.Proofs.Ytbeollddmglkcaa
open Go.RowKit

theorem law_paths (A : Option Addr) (n c : Nat) (hs : List Hd) (p : Int) (w : World) (ha : Sl w 5 hdC A n hs) (hn : n ≤ c) (hc : c ≤ maxLen) (hp : -9223372036854775808 ≤ p ∧ p ≤ 9223372036854775807) :
    Calls Try.prog 6 #[.slice A n c, .int .i64 p] w fun e w' => e = .returned (.bool true) ∧ Below w.heap.size w w' :=
  paths_loop A (min n 40) c _ p w (ha.take (k := min n 40) (Nat.min_le_left _ _)) (by omega) hp A n (cut_any A n c w hn hc)

theorem find_facts (g : Nat → Int) (m : Nat) (ws : List Int) : (∀ i : Nat, i < m → pathOf g i = ws → foundI (findF g m ws (-1)) = i ∧ foundB (findF g m ws (-1)) = true) ∧
    ((∀ i : Nat, i < m → pathOf g i ≠ ws) → foundI (findF g m ws (-1)) = 0 ∧ foundB (findF g m ws (-1)) = false) := by
  constructor
  · rintro i hi rfl
    rw [findF_path g hi]
    exact ⟨by unfold foundI; simp only; omega, by unfold foundB; simp⟩
  · intro h
    cases hf : findF g m ws (-1) with
    | none => exact ⟨rfl, rfl⟩
    | some b =>
      by_cases hm : (-1 : Int) < m
      · obtain ⟨e1, e2, e3⟩ := findF_inv g m ws (-1) b (by omega) hm hf
        by_cases hb : b = -1
        · subst hb; exact ⟨rfl, rfl⟩
        · exfalso
          refine h b.toNat (by omega) ?_
          have : pathI g b = pathOf g b.toNat := by unfold pathI; rw [if_neg (by omega)]
          rw [← this, e1]; rfl
      · omega

set_option maxHeartbeats 400000 in
set_option maxRecDepth 100000 in
theorem law_finds (A B : Option Addr) (n c n2 d : Nat) (hs : List Hd) (ws : List Int) (w : World) (ha : Sl w 5 hdC A n hs) (hb : Sl w 1 intC B n2 ws) (hn : n ≤ c) (hc : c ≤ maxLen) (hn2 : n2 ≤ d ∧ d ≤ maxLen) :
    Calls Try.prog 7 #[.slice A n c, .slice B n2 d] w fun e w' => e = .returned (.bool true) ∧ Below w.heap.size w w' := by
  have hcut := fun W => cut_any A n c W hn hc
  have ha' := ha.take (k := min n 40) (Nat.min_le_left _ _)
  have hb' := hb.take (k := min n2 10) (Nat.min_le_left _ _)
  obtain ⟨m, hm⟩ : ∃ m, m = min n 40 := ⟨_, rfl⟩
  have hm40 : m ≤ 40 := by omega
  have hm2 : m ≤ maxLen := by unfold maxLen; omega
  rw [← hm] at ha' hcut
  generalize hs.take m = hs' at ha'
  have HC := Lib.hid hcut
  clear hm hcut ha hn hc
  have hd := hn2.2
  unfold maxLen at hd
  obtain ⟨j, hj⟩ : ∃ j, j = min n2 10 := ⟨_, rfl⟩
  have hj10 : j ≤ 10 := by omega
  rw [← hj] at hb'
  generalize hw2 : ws.take j = ws' at hb'
  clear hw2 hb
  obtain ⟨f1, f2⟩ := find_facts (lvs hs') m ws'
  have hfa := fun W h h' => find_any A B m c j d hs' ws' W h h' (by omega) (by unfold maxLen; omega)
  generalize foundI (findF (lvs hs') m ws' (-1)) = kv at *
  generalize foundB (findF (lvs hs') m ws' (-1)) = ok at *
  have HF := Lib.hid hfa
  have HF1 := Lib.hid f1
  have HF2 := Lib.hid f2
  have hpl := pathOf_len (lvs hs')
  have HPL := Lib.hid hpl
  clear hfa f1 f2 hpl
  have HMN := Lib.hid (show (min ((n2 : Nat) : Int) 10).toNat = j by omega)
  clear hj
  go_enter Try.func7, Try.ntmps7
  go_wp2_with fail
  go_quiet ((go_at_call 9; exact Calls.quiet_of_same ((HC.out _).mono fun _ _ ⟨h1, h2⟩ => ⟨h1, h2.symm⟩)))
  go_wp2_with fail
  rw [HMN.out]
  go_wp2_with (first
    | (go_at_call 21; refine (HF.out _ (ha'.drewN nq) (hb'.drewN nq)).mono ?_; rintro e w2 ⟨rfl, hb2⟩; have hb2' : Below w.heap.size w w2 := (below_drewN (Below.refl _ w) nq).trans hb2)
    | (go_at_call 11; refine (known_any _).mono ?_; rintro e w4 ⟨rfl, hb4⟩; have hb24 := below_trans' hb2' hb2'.size hb4))
  go_loopw [7] (fun vi wr => ∃ (k : Nat), k ≤ m ∧ vi = .int .i64 k ∧ (∀ i : Nat, i < k → pathOf (lvs hs') i ≠ ws') ∧ Below w.heap.size w wr) (fun i _ => m - (intOf i).toNat)
  case atStart => exact ⟨0, Nat.zero_le _, rfl, fun i h => absurd h (by omega), hb24⟩
  case round =>
    obtain ⟨k, hk, rfl, hno, hbw⟩ := hrel
    have HNO := Lib.hid hno
    clear hno
    by_cases hlt : k < m
    · have hpk := HPL.out k
      have hmp := fun W h => mpath_any A m c hs' (by omega) (k + 1) (k : Int) W (by omega) (by omega) (by omega) h
      rw [Int.toNat_natCast] at hmp
      obtain ⟨ps, hps⟩ : ∃ ps, ps = pathOf (lvs hs') k := ⟨_, rfl⟩
      rw [← hps] at hpk hmp
      have hsm := fun W A5 c5 h h' => same_any A5 B ps.length j c5 d ps ws' W h h' (by unfold maxLen; omega) (by unfold maxLen; omega)
      obtain ⟨pl, hpl⟩ : ∃ pl, pl = ps.length := ⟨_, rfl⟩
      rw [← hpl] at hpk hmp hsm
      have HMP := Lib.hid hmp
      have HPS := Lib.hid hps
      clear hmp hps hpl
      by_cases he : ps = ws'
      · obtain ⟨g1, g2⟩ := HF1.out k hlt (by rw [← HPS.out]; exact he)
        rw [decide_eq_true he] at hsm
        have HSM := Lib.hid hsm
        clear hsm he
        have hkk : (kv == (k : Int)) = true := by rw [g1]; simp
        have G2 := Lib.hid g2
        have G1 := Lib.hid g1
        clear g1
        go_wp2_with (first
          | (go_at_call 22; refine (HMP.out _ (ha'.below hbw)).mono ?_; rintro e w7 ⟨A7, c7, rfl, ho7, _, hb7⟩)
          | (go_at_call 19; refine (HSM.out _ A7 c7 (ho7.sl intC_len) ((hb'.below hbw).below hb7)).mono ?_; rintro e w8 ⟨rfl, hb8⟩))
        go_ret
        exact ⟨rfl, below_trans' hbw hbw.size (below_trans' hb7 hb7.size hb8)⟩
      · rw [decide_eq_false he] at hsm
        have HSM := Lib.hid hsm
        have HE := Lib.hid he
        clear hsm he
        go_wp2_with (first
          | (go_at_call 22; refine (HMP.out _ (ha'.below hbw)).mono ?_; rintro e w7 ⟨A7, c7, rfl, ho7, _, hb7⟩)
          | (go_at_call 19; refine (HSM.out _ A7 c7 (ho7.sl intC_len) ((hb'.below hbw).below hb7)).mono ?_; rintro e w8 ⟨rfl, hb8⟩))
        go_roundw
        case rel =>
          refine ⟨k + 1, by omega, by go_num, fun i hi => ?_, below_trans' hbw hbw.size (below_trans' hb7 hb7.size hb8)⟩
          rcases Nat.lt_or_ge i k with h | h
          · exact HNO.out i h
          · obtain rfl : i = k := by omega
            rw [← HPS.out]; exact HE.out
        case measure => simp [intOf]; omega
    · obtain ⟨g1, g2⟩ := HF2.out (fun i hi => HNO.out i (by omega))
      have hkk : (kv == (0 : Int)) = true := by rw [g1]; rfl
      clear g1
      go_wp2_with fail
      go_ret
      exact ⟨rfl, hbw⟩
end Go.Proofs.Ytbeollddmglkcaa
