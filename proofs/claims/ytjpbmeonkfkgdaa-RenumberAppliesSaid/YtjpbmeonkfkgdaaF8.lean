/- The scanner: scan, whole. -/
import Derived.Test.YtjpbmeonkfkgdaaF7
namespace Go.Proofs.Ytjpbmeonkfkgdaa
open Go.RowKit

/-- where the scan stands: X is what it will come to. -/
def ScanR (B g : Nat) (s : ByteArray) (X : SX) (gk : Nat) (w : World) : Prop :=
  ∃ a lit ps pl e, Sc w B g s a lit ps pl e ∧ a ≤ s.size ∧ lit.length ≤ a ∧ ps.length ≤ 2 * a ∧ pl ≤ a ∧ ((e = 0 ∧ s.size + 1 - a ≤ gk ∧ scanP (s.size + 1 - a) (s.data.toList.drop a) lit ps pl = X) ∨ (e = 14 ∧ X = (lit, ps, pl, 14)))

def ScanEnd (w' : World) (B g : Nat) (s : ByteArray) (P : List Pt × Int) : Prop := ∃ a pl, Sc w' B g s a [] P.1 pl P.2
set_option maxHeartbeats 4000000 in
set_option maxRecDepth 100000 in
theorem scan_any (B g : Nat) (s : ByteArray) (w : World) (h : Sc w B g s 0 [] [] 0 0) (hs : s.size ≤ 1000) (hB : B ≤ w.heap.size) :
    Calls Try.prog 32 #[.pointer (some ⟨g, 0, none⟩)] w fun er w' => er = .returned (.tuple #[]) ∧ ScanEnd w' B g s (scanR s.data.toList) ∧ Below B w w' := by
  have hsl : s.data.toList.length = s.size := by simp
  obtain ⟨X, hX⟩ : ∃ X : SX, scanP (s.size + 1) s.data.toList [] [] 0 = X := ⟨_, rfl⟩
  have hR : scanR s.data.toList = (flushP X.1 X.2.1, if X.2.2.2 = 0 ∧ 9 < X.2.2.1 then 9 else X.2.2.2) := by
    unfold scanR
    rw [hsl, hX]
  obtain ⟨RR, hRR⟩ : ∃ RR, RR = scanR s.data.toList := ⟨_, rfl⟩
  rw [← hRR]
  rw [← hRR] at hR
  have HRR := Lib.hid hR
  clear hRR
  have HX := Lib.hid hX
  have hgB := h.gB
  clear hR hX hsl
  go_enter Try.func32, Try.ntmps32
  go_wp2_with fail
  go_loopg [] (s.size + 1) (fun gk wr => ScanR B g s X gk wr ∧ Below B w wr)
  case atStart => exact ⟨⟨0, [], [], 0, 0, h, Nat.zero_le _, Nat.le_refl _, Nat.le_refl _, Nat.le_refl _, .inl ⟨rfl, Nat.le_refl _, HX.out⟩⟩, Below.refl _ _⟩
  case round =>
    obtain ⟨⟨a, lit, ps, pl, e, hS, ha, hl, hp, hpl, hdis⟩, hbw⟩ := hrel
    have c0 := hS.c0
    have c1 := hS.c1
    have c6 := hS.c6
    have hBr : B ≤ wr.heap.size := Nat.le_trans hB hbw.size
    rcases hdis with ⟨rfl, hgk, hX⟩ | ⟨rfl, hX⟩
    · by_cases hlt : a < s.size
      · have i0 : (0 : Int) ≤ (a : Int) := by omega
        have i1 : (a : Int) < (s.size : Int) := by omega
        have hq : ∀ W, (Instr.index 9 (.string s) (.int .i64 (a : Int))).run Try.prog W = .ok (.int .u8 (s[a].toNat : Int)) W := fun W => run_index_str s a hlt W
        have HXX := Lib.hid hX
        clear hX
        by_cases h37 : s[a] = 37
        · have e37 : (((s[a].toNat : Nat) : Int) == 37) = true := by rw [h37]; rfl
          have HST := Lib.hid (fun w1 w2 h1 => pc_step (w := w1) (w' := w2) (B := B) (g := g) hlt h37 h1 HXX.out)
          clear h37
          generalize (s[a].toNat : Int) = c at *
          go_wp2_with fail
          go_quiet (fail)
          have hS2 := hS.drewN nq
          have hbw2 := below_drewN hbw nq
          clear hS c0 c1 c6 hbw
          generalize wr.drewN nq = w2 at *
          have c0 := hS2.c0
          have c1 := hS2.c1
          go_wp2_with fail
          go_quiet (fail)
          have hS3 := hS2.drewN nq
          have hbw3 := below_drewN hbw2 nq
          clear hS2 c0 c1 hbw2
          generalize w2.drewN nq = w3 at *
          have hB3 : B ≤ w3.heap.size := Nat.le_trans hB hbw3.size
          have kp := percent_any B g s a pl lit ps w3 hS3 ⟨by omega, by omega⟩ (by omega) (by omega) hlt hB3
          go_wp2_with (go_at_call 36; refine kp.mono ?_; rintro er w4 ⟨rfl, hP4⟩)
          have hbw4 := hbw3.trans hP4.1
          rcases HST.out _ _ hP4 with ⟨a', lit', ps', pl', h1, h2, h3, h4, h5, h6, h7, h8⟩ | ⟨h1, h2⟩
          · go_roundg (s.size + 1 - a')
            case measure => omega
            case rel => exact ⟨⟨a', lit', ps', pl', 0, h4, h2, by omega, by omega, by omega, .inl ⟨rfl, Nat.le_refl _, h5⟩⟩, hbw4⟩
          · go_roundg 0
            case measure => omega
            case rel => exact ⟨⟨a, lit, ps, pl, 14, h1, ha, hl, hp, hpl, .inr ⟨rfl, h2⟩⟩, hbw4⟩
        · have e37 : (((s[a].toNat : Nat) : Int) == 37) = false := by
            simp only [beq_eq_false_iff_ne, ne_eq]
            intro h9
            exact h37 (UInt8.toNat_inj.1 (by show s[a].toNat = 37; omega))
          have HST := Lib.hid (show scanP (s.size + 1 - (a + 1)) (s.data.toList.drop (a + 1)) (lit ++ [s[a]]) ps pl = X by
            have hx := HXX.out
            rw [show s.size + 1 - a = s.size + 1 - (a + 1) + 1 by omega, list_drop s hlt] at hx
            unfold scanP at hx
            rw [if_neg h37] at hx
            exact hx)
          have kw := fun W (hW : Sc W B g s a lit ps pl 0) hBW => writeByte_any B g s a pl lit ps 0 s[a] W hW (by omega) hBW
          have HKW := Lib.hid kw
          clear h37 kw
          generalize s[a] = cb at *
          generalize hcc : (cb.toNat : Int) = c at *
          have HCC := Lib.hid hcc
          clear hcc
          go_wp2_with fail
          go_quiet (fail)
          have hS2 := hS.drewN nq
          have hbw2 := below_drewN hbw nq
          clear hS c0 c1 c6 hbw
          generalize wr.drewN nq = w2 at *
          have c0 := hS2.c0
          have c1 := hS2.c1
          go_wp2_with fail
          go_quiet (fail)
          have hS3 := hS2.drewN nq
          have hbw3 := below_drewN hbw2 nq
          clear hS2 c0 c1 hbw2
          generalize w2.drewN nq = w3 at *
          have hB3 : B ≤ w3.heap.size := Nat.le_trans hB hbw3.size
          have c0 := hS3.c0
          have c1 := hS3.c1
          have kw := HKW.out (w3.drewN 1) (hS3.drewN 1) hB3
          go_wp2_with fail
          go_region_held3 (fun w' => w'.cell? ⟨g, 0, none⟩ = some (.string s) ∧ w'.cell? ⟨g, 1, none⟩ = some (.int .i64 a))
            (first | go_keep | exact ⟨s9, r9⟩)
            (first | (go_at_call 37; refine kw.mono ?_; rintro er w4 ⟨rfl, hS4, hb4⟩; have s9 := hS4.c0; have r9 := hS4.c1))
          all_goals
            have f1 := hS4.fz 1
            have hbw4 := (hbw3.trans ((below_drewN (Below.refl B w3) 1).trans hb4)).setCell (p := ⟨g, 1, none⟩) hgB (.int .i64 ((a : Int) + 1))
            go_wp2_with fail
            go_roundg (s.size + 1 - (a + 1))
            case measure => omega
            case rel => exact ⟨⟨a + 1, lit ++ [cb], ps, pl, 0, hS4.at (a + 1), by omega, by rw [List.length_append]; simp only [List.length_singleton]; omega, by omega, by omega, .inl ⟨rfl, Nat.le_refl _, HST.out⟩⟩, hbw4⟩
      · have has : a = s.size := by omega
        have hX2 : X = (lit, ps, pl, 0) := by
          rw [← hX, List.drop_eq_nil_of_le (by simp; omega), show s.size + 1 - a = 0 + 1 by omega]
          rfl
        have HX2 := Lib.hid hX2
        clear hX2 has
        have h1 : decide ((a : Nat) < s.size) = false := decide_eq_false hlt
        by_cases hp9 : 9 < pl
        · have e9 : decide ((9 : Int) < (pl : Int)) = true := decide_eq_true (by omega)
          have HP := Lib.hid hp9
          clear hp9
          have kf := fun q => flush_any B g s a pl lit ps 0 (wr.drewN q) (hS.drewN q) ⟨by omega, by omega⟩ hBr
          clear hX
          go_wp2_with fail
          go_quiet (fail)
          go_wp2_with (go_at_call 38; refine (kf _).mono ?_; rintro er w5 ⟨rfl, hS5, hb5⟩; have t6 := hS5.c6; have t5 := hS5.c5; have f6 := hS5.fz 6)
          go_end0
          have := hS5.err 9
          refine ⟨rfl, ?_, ((below_drewN hbw _).trans hb5).setCell (p := ⟨g, 6, none⟩) hgB _⟩
          rw [HRR.out, HX2.out]
          exact ⟨a, pl, by simp only [HP.out, and_self, if_true]; exact this⟩
        · have e9 : decide ((9 : Int) < (pl : Int)) = false := decide_eq_false (by omega)
          have HP := Lib.hid hp9
          clear hp9
          have kf := fun q => flush_any B g s a pl lit ps 0 (wr.drewN q) (hS.drewN q) ⟨by omega, by omega⟩ hBr
          clear hX
          go_wp2_with fail
          go_quiet (fail)
          go_wp2_with (go_at_call 38; refine (kf _).mono ?_; rintro er w5 ⟨rfl, hS5, hb5⟩; have t6 := hS5.c6; have t5 := hS5.c5; have f6 := hS5.fz 6)
          go_end0
          refine ⟨rfl, ?_, (below_drewN hbw _).trans hb5⟩
          rw [HRR.out, HX2.out]
          exact ⟨a, pl, by rw [if_neg (fun h => HP.out h.2)]; exact hS5⟩
    · have HX2 := Lib.hid hX
      by_cases hlt : a < s.size
      · have h1 : decide ((a : Nat) < s.size) = true := decide_eq_true hlt
        have kf := fun q => flush_any B g s a pl lit ps 14 (wr.drewN q) (hS.drewN q) ⟨by omega, by omega⟩ hBr
        clear hX
        go_wp2_with fail
        go_quiet (fail)
        go_wp2_with (go_at_call 38; refine (kf _).mono ?_; rintro er w5 ⟨rfl, hS5, hb5⟩; have t6 := hS5.c6; have t5 := hS5.c5; have f6 := hS5.fz 6)
        go_end0
        refine ⟨rfl, ?_, (below_drewN hbw _).trans hb5⟩
        rw [HRR.out, HX2.out]
        exact ⟨a, pl, by rw [if_neg (fun h => by have := h.1; simp at this)]; exact hS5⟩
      · have h1 : decide ((a : Nat) < s.size) = false := decide_eq_false hlt
        have kf := fun q => flush_any B g s a pl lit ps 14 (wr.drewN q) (hS.drewN q) ⟨by omega, by omega⟩ hBr
        clear hX
        go_wp2_with fail
        go_quiet (fail)
        go_wp2_with (go_at_call 38; refine (kf _).mono ?_; rintro er w5 ⟨rfl, hS5, hb5⟩; have t6 := hS5.c6; have t5 := hS5.c5; have f6 := hS5.fz 6)
        go_end0
        refine ⟨rfl, ?_, (below_drewN hbw _).trans hb5⟩
        rw [HRR.out, HX2.out]
        exact ⟨a, pl, by rw [if_neg (fun h => by have := h.1; simp at this)]; exact hS5⟩
end Go.Proofs.Ytjpbmeonkfkgdaa
