/- The scanner: percent. -/
import Derived.Test.YtjpbmeonkfkgdaaF5
namespace Go.Proofs.Ytjpbmeonkfkgdaa
open Go.RowKit

section
variable {w w' : World} {B g at_ pl : Nat} {s : ByteArray} {lit : List UInt8} {ps : List Pt} {e : Int}
theorem Sc.c0 (h : Sc w B g s at_ lit ps pl e) : w.cell? ⟨g, 0, none⟩ = some (.string s) := by
  obtain ⟨sp, A1, c1, A2, c2, hsp, hb, hp⟩ := h
  exact hb.cell 0 rfl
theorem Sc.c1 (h : Sc w B g s at_ lit ps pl e) : w.cell? ⟨g, 1, none⟩ = some (.int .i64 at_) := by
  obtain ⟨sp, A1, c1, A2, c2, hsp, hb, hp⟩ := h
  exact hb.cell 1 rfl
theorem Sc.c5 (h : Sc w B g s at_ lit ps pl e) : w.cell? ⟨g, 5, none⟩ = some (.int .i64 pl) := by
  obtain ⟨sp, A1, c1, A2, c2, hsp, hb, hp⟩ := h
  exact hb.cell 5 rfl
theorem Sc.c6 (h : Sc w B g s at_ lit ps pl e) : w.cell? ⟨g, 6, none⟩ = some (.int .i64 e) := by
  obtain ⟨sp, A1, c1, A2, c2, hsp, hb, hp⟩ := h
  exact hb.cell 6 rfl
theorem Sc.fz (h : Sc w B g s at_ lit ps pl e) (i : Nat) : w.frozen? ⟨g, i, none⟩ = false := by
  obtain ⟨sp, A1, c1, A2, c2, hsp, hb, hp⟩ := h
  exact hb.frozen i
theorem Sc.drewN (h : Sc w B g s at_ lit ps pl e) (n : Nat) : Sc (w.drewN n) B g s at_ lit ps pl e := by
  obtain ⟨sp, A1, c1, A2, c2, hsp, hb, hp⟩ := h
  exact ⟨sp, A1, c1, A2, c2, hsp, hb.drewN n, ⟨hp.hg, hp.o1.drewN n, hp.o2.drewN n, hp.n1, hp.n2, hp.ap⟩⟩
theorem Sc.at (h : Sc w B g s at_ lit ps pl e) (k : Nat) : Sc (w.setCell ⟨g, 1, none⟩ (.int .i64 k)) B g s k lit ps pl e := by
  obtain ⟨sp, A1, c1, A2, c2, hsp, hb, hp⟩ := h
  exact ⟨sp, A1, c1, A2, c2, hsp, hb.set_ 1 _, hp.set (gset _ _ _ _)⟩
theorem Sc.err (h : Sc w B g s at_ lit ps pl e) (k : Int) : Sc (w.setCell ⟨g, 6, none⟩ (.int .i64 k)) B g s at_ lit ps pl k := by
  obtain ⟨sp, A1, c1, A2, c2, hsp, hb, hp⟩ := h
  exact ⟨sp, A1, c1, A2, c2, hsp, hb.set_ 6 _, hp.set (gset _ _ _ _)⟩
theorem Sc.gB (h : Sc w B g s at_ lit ps pl e) : B ≤ g := by
  obtain ⟨sp, A1, c1, A2, c2, hsp, hb, hp⟩ := h
  exact hp.hg
end
def pcS : ByteArray := ⟨#[37, 37]⟩
def pdS : ByteArray := ⟨#[37, 100]⟩
def hpA (s p : ByteArray) (k : Nat) : Bool := Lib.hasPrefix (s.extract k s.size).data.toList p.data.toList
def PcP (B g : Nat) (s : ByteArray) (at_ pl : Nat) (lit : List UInt8) (ps : List Pt) (w w' : World) : Prop :=
  Below B w w' ∧ (if hpA s pcS at_ = true then Sc w' B g s (at_ + 2) (lit ++ [37]) ps pl 0
    else if digAt s (at_ + 1) = true then Sc w' B g s (at_ + 2) [] (placeP lit ps (s.data.toList.getD (at_ + 1) 0) false) (pl + 1) 0
    else if (hpA s pdS at_ && digAt s (at_ + 2)) = true then Sc w' B g s (at_ + 3) [] (placeP lit ps (s.data.toList.getD (at_ + 2) 0) true) (pl + 1) 0
    else Sc w' B g s at_ lit ps pl 14)

set_option maxHeartbeats 4000000 in
set_option maxRecDepth 100000 in
theorem percent_any (B g : Nat) (s : ByteArray) (at_ pl : Nat) (lit : List UInt8) (ps : List Pt) (w : World) (h : Sc w B g s at_ lit ps pl 0) (hl : lit.length ≤ 4000 ∧ ps.length ≤ 4000) (hpl : pl ≤ 4096) (hs : s.size ≤ 4096) (hat : at_ < s.size) (hB : B ≤ w.heap.size) :
    Calls Try.prog 36 #[.pointer (some ⟨g, 0, none⟩)] w fun er w' => er = .returned (.tuple #[]) ∧ PcP B g s at_ pl lit ps w w' := by
  have c0 := h.c0
  have c1 := h.c1
  have hB1 : ∀ q, B ≤ (w.drewN q).heap.size := fun q => hB
  have kp := fun p q => Try.strings_HasPrefix (s.extract at_ s.size) p (w.drewN q)
  have i0 : (0 : Int) ≤ (at_ : Int) := by omega
  have i1 : (at_ : Int) ≤ (s.size : Int) := by omega
  have hgB := h.gB
  by_cases a1 : hpA s pcS at_ = true
  · have kw := fun q => writeByte_any B g s at_ pl lit ps 0 37 (w.drewN q) (h.drewN q) (by omega) (hB1 q)
    have k1 := kp pcS
    rw [show Lib.hasPrefix (s.extract at_ s.size).data.toList pcS.data.toList = true from a1] at k1
    have HPP := Lib.hid (fun w' (h1 : Below B w w') (h2 : Sc w' B g s (at_ + 2) (lit ++ [37]) ps pl 0) => (⟨h1, by rw [if_pos a1]; exact h2⟩ : PcP B g s at_ pl lit ps w w'))
    clear a1 kp
    unfold pcS at k1
    go_enter Try.func36, Try.ntmps36
    go_wp2_with fail
    go_quiet ((go_at_call 40; exact Calls.quiet_of_same (k1 _)))
    go_wp2_with (go_at_call 37; refine (kw _).mono ?_; rintro er w1 ⟨rfl, hS1, hb1⟩; have t1 := hS1.c1; have f1 := hS1.fz 1)
    go_end0
    exact ⟨rfl, HPP.out _ ((Below.trans (below_drewN (Below.refl B w) _) hb1).setCell (p := ⟨g, 1, none⟩) hgB _) (hS1.at (at_ + 2))⟩
  · have a1' : hpA s pcS at_ = false := by simpa using a1
    have k1 := kp pcS
    rw [show Lib.hasPrefix (s.extract at_ s.size).data.toList pcS.data.toList = false from a1'] at k1
    unfold pcS at k1
    have kd1 : ∀ q, Calls Try.prog 41 #[.pointer (some ⟨g, 0, none⟩), .int .i64 ((at_ : Int) + 1)] (w.drewN q) fun er w' => er = .returned (.bool (digAt s (at_ + 1))) ∧ w' = w.drewN q := fun q => digit_any g (at_ + 1) s (w.drewN q) c0
    by_cases a2 : digAt s (at_ + 1) = true
    · have hlt : at_ + 1 < s.size := by
        rcases Nat.lt_or_ge (at_ + 1) s.size with h9 | h9
        · exact h9
        · rw [digAt_ge (by omega)] at a2; cases a2
      have hdg : digB s[at_ + 1] = true := by rw [← digAt_lt hlt]; exact a2
      have hgd : s.data.toList.getD (at_ + 1) 0 = s[at_ + 1] := by rw [List.getD_eq_getElem?_getD, List.getElem?_eq_getElem (by simpa using hlt)]; rfl
      have HPP := Lib.hid (fun w' (h1 : Below B w w') (h2 : Sc w' B g s (at_ + 2) [] (placeP lit ps s[at_ + 1] false) (pl + 1) 0) => (⟨h1, by rw [if_neg a1, if_pos a2, hgd]; exact h2⟩ : PcP B g s at_ pl lit ps w w'))
      rw [a2] at kd1
      have hq : ∀ W, (Instr.index 9 (.string s) (.int .i64 ((at_ : Int) + 1))).run Try.prog W = .ok (.int .u8 (s[at_ + 1].toNat : Int)) W := fun W => run_index_str s (at_ + 1) hlt W
      have n1 : IntKind.i64.wrap ((at_ : Int) + 1) = (at_ : Int) + 1 := IntWalk.i64_in _ (by omega)
      have kpl := fun W (hW : Sc W B g s at_ lit ps pl 0) hBW => place_any B g s at_ pl lit ps 0 s[at_ + 1] false W hW ⟨by omega, hl.2⟩ hpl hBW hdg
      have HKP := Lib.hid kpl
      clear a1 a1' a2 kp hgd hdg kpl
      generalize s[at_ + 1] = dg at *
      go_enter Try.func36, Try.ntmps36
      go_wp2_with fail
      go_quiet ((go_at_call 40; exact Calls.quiet_of_same (k1 _)))
      go_upto_region 5 with (go_at_call 41; refine (kd1 _).mono ?_; rintro er w1 ⟨rfl, rfl⟩)
      have hS := h.drewN nq
      have hbw := below_drewN (Below.refl B w) nq
      have c0 := hS.c0
      have c1 := hS.c1
      have hBq := hB1 nq
      clear k1 kd1 h hB1
      generalize w.drewN nq = w1 at *
      have kpl := HKP.out (w1.drewN 1) (hS.drewN 1) hBq
      go_region_held3 (fun w' => w'.cell? ⟨g, 0, none⟩ = some (.string s) ∧ w'.cell? ⟨g, 1, none⟩ = some (.int .i64 at_))
        (first | go_keep | exact ⟨s9, r9⟩)
        (first | (go_at_call 42; refine kpl.mono ?_; rintro er w2 ⟨rfl, hS2, hb2⟩; have s9 := hS2.c0; have r9 := hS2.c1))
      all_goals
        have f1 := hS2.fz 1
        have n2 : IntKind.i64.wrap ((at_ : Int) + 2) = (at_ : Int) + 2 := IntWalk.i64_in _ (by omega)
        go_wp2_with fail
        go_end0
        exact ⟨rfl, HPP.out _ ((hbw.trans ((below_drewN (Below.refl B w1) 1).trans hb2)).setCell (p := ⟨g, 1, none⟩) hgB _) (hS2.at (at_ + 2))⟩
    · have a2' : digAt s (at_ + 1) = false := by simpa using a2
      have D1 : ∀ W, W.cell? ⟨g, 0, none⟩ = some (.string s) → Calls Try.prog 41 #[.pointer (some ⟨g, 0, none⟩), .int .i64 ((at_ : Int) + 1)] W fun er w' => er = .returned (.bool false) ∧ w' = W := fun W hc => by
        have := digit_any g (at_ + 1) s W hc
        rw [a2'] at this
        exact this
      have D2 : ∀ W, W.cell? ⟨g, 0, none⟩ = some (.string s) → Calls Try.prog 41 #[.pointer (some ⟨g, 0, none⟩), .int .i64 ((at_ : Int) + 2)] W fun er w' => er = .returned (.bool (digAt s (at_ + 2))) ∧ w' = W := fun W hc => digit_any g (at_ + 2) s W hc
      have K2 := fun W => Try.strings_HasPrefix (s.extract at_ s.size) pdS W
      rw [show Lib.hasPrefix (s.extract at_ s.size).data.toList pdS.data.toList = hpA s pdS at_ from rfl] at K2
      have n1 : IntKind.i64.wrap ((at_ : Int) + 1) = (at_ : Int) + 1 := IntWalk.i64_in _ (by omega)
      have n2 : IntKind.i64.wrap ((at_ : Int) + 2) = (at_ : Int) + 2 := IntWalk.i64_in _ (by omega)
      have HER := Lib.hid (fun (h9 : (hpA s pdS at_ && digAt s (at_ + 2)) = false) w' (h1 : Below B w w') (h2 : Sc w' B g s at_ lit ps pl 14) => (⟨h1, by rw [if_neg a1, if_neg a2, if_neg (by rw [h9]; simp)]; exact h2⟩ : PcP B g s at_ pl lit ps w w'))
      have HPP := Lib.hid (fun (h9 : (hpA s pdS at_ && digAt s (at_ + 2)) = true) w' (h1 : Below B w w') (h2 : Sc w' B g s (at_ + 3) [] (placeP lit ps (s.data.toList.getD (at_ + 2) 0) true) (pl + 1) 0) => (⟨h1, by rw [if_neg a1, if_neg a2, if_pos h9]; exact h2⟩ : PcP B g s at_ pl lit ps w w'))
      clear a1 a1' a2 a2' kp kd1
      cases a3 : hpA s pdS at_
      · rw [a3] at K2
        unfold pdS at K2
        have HE := Lib.hid (HER.out (by rw [a3]; rfl))
        clear HER HPP D2 a3
        go_enter Try.func36, Try.ntmps36
        go_wp2_with fail
        go_quiet ((go_at_call 40; exact Calls.quiet_of_same (k1 _)))
        have hS := h.drewN nq
        have hbw := below_drewN (Below.refl B w) nq
        clear k1 h hB1 c0 c1
        generalize w.drewN nq = w1 at *
        have c0 := hS.c0
        have c1 := hS.c1
        go_wp2_with (go_at_call 41; refine (D1 _ c0).mono ?_; rintro er w2 ⟨rfl, rfl⟩)
        go_quiet ((go_at_call 40; exact Calls.quiet_of_same (K2 _)))
        have hS2 := hS.drewN nq
        have f6 := hS2.fz 6
        have c6 := hS2.c6
        go_wp2_with fail
        go_end0
        exact ⟨rfl, HE.out _ ((below_drewN hbw _).setCell (p := ⟨g, 6, none⟩) hgB _) (hS2.err 14)⟩
      · rw [a3] at K2
        unfold pdS at K2
        cases a4 : digAt s (at_ + 2)
        · rw [a4] at D2
          have HE := Lib.hid (HER.out (by rw [a3, a4]; rfl))
          clear HER HPP a3 a4
          go_enter Try.func36, Try.ntmps36
          go_wp2_with fail
          go_quiet ((go_at_call 40; exact Calls.quiet_of_same (k1 _)))
          have hS := h.drewN nq
          have hbw := below_drewN (Below.refl B w) nq
          clear k1 h hB1 c0 c1
          generalize w.drewN nq = w1 at *
          have c0 := hS.c0
          have c1 := hS.c1
          go_wp2_with (go_at_call 41; refine (D1 _ c0).mono ?_; rintro er w2 ⟨rfl, rfl⟩)
          have D3 := fun q => D2 (w2.drewN q) c0
          go_quiet ((first | (go_at_call 40; exact Calls.quiet_of_same (K2 _)) | (go_at_call 41; exact Calls.quiet_of_same (D3 _))))
          have hS2 := hS.drewN nq
          have f6 := hS2.fz 6
          have c6 := hS2.c6
          go_wp2_with fail
          go_end0
          exact ⟨rfl, HE.out _ ((below_drewN hbw _).setCell (p := ⟨g, 6, none⟩) hgB _) (hS2.err 14)⟩
        · have hlt : at_ + 2 < s.size := by
            rcases Nat.lt_or_ge (at_ + 2) s.size with h9 | h9
            · exact h9
            · rw [digAt_ge (by omega)] at a4; cases a4
          have hdg : digB s[at_ + 2] = true := by rw [← digAt_lt hlt]; exact a4
          have hgd : s.data.toList.getD (at_ + 2) 0 = s[at_ + 2] := by rw [List.getD_eq_getElem?_getD, List.getElem?_eq_getElem (by simpa using hlt)]; rfl
          rw [a4] at D2
          have hpp : ∀ w', Below B w w' → Sc w' B g s (at_ + 3) [] (placeP lit ps s[at_ + 2] true) (pl + 1) 0 → PcP B g s at_ pl lit ps w w' := fun w' h1 h2 => HPP.out (by rw [a3, a4]; rfl) w' h1 (by rw [hgd]; exact h2)
          have HE := Lib.hid hpp
          have hq : ∀ W, (Instr.index 9 (.string s) (.int .i64 ((at_ : Int) + 2))).run Try.prog W = .ok (.int .u8 (s[at_ + 2].toNat : Int)) W := fun W => run_index_str s (at_ + 2) hlt W
          have kpl := fun W (hW : Sc W B g s at_ lit ps pl 0) hBW => place_any B g s at_ pl lit ps 0 s[at_ + 2] true W hW ⟨by omega, hl.2⟩ hpl hBW hdg
          have HKP := Lib.hid kpl
          clear HER HPP a3 a4 hpp hgd hdg kpl
          generalize s[at_ + 2] = dg at *
          go_enter Try.func36, Try.ntmps36
          go_wp2_with fail
          go_quiet ((go_at_call 40; exact Calls.quiet_of_same (k1 _)))
          have hS := h.drewN nq
          have hbw := below_drewN (Below.refl B w) nq
          have hBq := hB1 nq
          clear k1 h hB1 c0 c1
          generalize w.drewN nq = w1 at *
          have c0 := hS.c0
          have c1 := hS.c1
          go_wp2_with (go_at_call 41; refine (D1 _ c0).mono ?_; rintro er w2 ⟨rfl, rfl⟩)
          have D3 := fun q => D2 (w2.drewN q) c0
          go_quiet ((first | (go_at_call 40; exact Calls.quiet_of_same (K2 _)) | (go_at_call 41; exact Calls.quiet_of_same (D3 _))))
          have hS3 := hS.drewN nq
          have hbw3 := below_drewN hbw nq
          clear hS hbw c0 c1 D1 D2 D3 K2
          generalize w2.drewN nq = w3 at *
          have c0 := hS3.c0
          have c1 := hS3.c1
          have hBz : B ≤ w3.heap.size := Nat.le_trans hB hbw3.size
          have kpl := HKP.out (w3.drewN 1) (hS3.drewN 1) hBz
          go_upto_region 8 with fail
          go_region_held3 (fun w' => w'.cell? ⟨g, 0, none⟩ = some (.string s) ∧ w'.cell? ⟨g, 1, none⟩ = some (.int .i64 at_))
            (first | go_keep | exact ⟨s9, r9⟩)
            (first | (go_at_call 42; refine kpl.mono ?_; rintro er w4 ⟨rfl, hS4, hb4⟩; have s9 := hS4.c0; have r9 := hS4.c1))
          all_goals
            have f1 := hS4.fz 1
            go_wp2_with fail
            go_end0
            exact ⟨rfl, HE.out _ ((hbw3.trans ((below_drewN (Below.refl B w3) 1).trans hb4)).setCell (p := ⟨g, 1, none⟩) hgB _) (hS4.at (at_ + 3))⟩
end Go.Proofs.Ytjpbmeonkfkgdaa
