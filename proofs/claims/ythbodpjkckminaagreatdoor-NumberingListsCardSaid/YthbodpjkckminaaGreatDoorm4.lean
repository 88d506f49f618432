/- The scanner: scan. The scanner: scan, whole. IndexFunc, ContainsFunc of bytes with Parse$1. leveltext.Parse. IndexFunc, ContainsFunc of parts with Check$1; Check. leveltext.CheckLevels. -/
import Derived.Test.YthbodpjkckminaaGreatDoorm3
import Derived.Deep.LoopGhost
import Derived.Lib.ConvBytes
import Derived.Test.YthbodpjkckminaaGreatDoorm2
import Derived.Deep.DeepCutAuto
namespace Go.Proofs.YthbodpjkckminaaGreatDoor
open Go.RowKit

theorem list_drop (s : ByteArray) {k : Nat} (h : k < s.size) : s.data.toList.drop k = s[k] :: s.data.toList.drop (k + 1) := by
  rw [List.drop_eq_getElem_cons (by simpa using h)]
  rfl
theorem hpA_eq (s p : ByteArray) (k : Nat) : hpA s p k = p.data.toList.isPrefixOf (s.data.toList.drop k) := by
  unfold hpA Lib.hasPrefix
  congr 1
  rw [ByteArray.data_extract, Array.toList_extract]
  simp only [List.extract_eq_take_drop]
  exact List.take_of_length_le (by rw [List.length_drop]; simp)
theorem digAt_drop (s : ByteArray) (k : Nat) : digAt s k = match s.data.toList.drop k with
    | [] => false
    | c :: _ => digB c := by
  unfold digAt
  rw [← List.head?_drop]
  cases s.data.toList.drop k <;> rfl
theorem getD_drop (s : ByteArray) (k : Nat) : s.data.toList.getD k 0 = (s.data.toList.drop k).headD 0 := by
  rw [List.getD_eq_getElem?_getD, ← List.head?_drop]
  cases s.data.toList.drop k <;> rfl
abbrev SX := List UInt8 × List Pt × Nat × Int
def More (w' : World) (B g : Nat) (s : ByteArray) (at_ : Nat) (X : SX) (n1 n2 n3 : Nat) : Prop :=
  ∃ a lit ps pl, at_ < a ∧ a ≤ s.size ∧ a ≤ at_ + 3 ∧ Sc w' B g s a lit ps pl 0 ∧ scanP (s.size + 1 - a) (s.data.toList.drop a) lit ps pl = X ∧ lit.length ≤ n1 + 1 ∧ ps.length ≤ n2 + 2 ∧ pl ≤ n3 + 1
theorem flushP_len (lit : List UInt8) (ps : List Pt) : (flushP lit ps).length ≤ ps.length + 1 := by
  unfold flushP
  split
  · omega
  · rw [List.length_append]; exact Nat.le_refl _
theorem placeP_len (lit : List UInt8) (ps : List Pt) (c : UInt8) (b : Bool) : (placeP lit ps c b).length ≤ ps.length + 2 := by
  have := flushP_len lit ps
  unfold placeP
  rw [List.length_append]
  simp only [List.length_singleton]
  omega
theorem pc_step {w w' : World} {B g : Nat} {s : ByteArray} {at_ pl : Nat} {lit : List UInt8} {ps : List Pt} {X : SX} (hat : at_ < s.size) (hc : s[at_] = 37) (h : PcP B g s at_ pl lit ps w w') (hX : scanP (s.size + 1 - at_) (s.data.toList.drop at_) lit ps pl = X) :
    More w' B g s at_ X lit.length ps.length pl ∨ (Sc w' B g s at_ lit ps pl 14 ∧ X = (lit, ps, pl, 14)) := by
  obtain ⟨hb, h⟩ := h
  have hd := list_drop s hat
  rw [hc] at hd
  have hsl : s.data.toList.length = s.size := by simp
  have hdl : (s.data.toList.drop (at_ + 1)).length = s.size - (at_ + 1) := by rw [List.length_drop, hsl]
  obtain ⟨f, hf⟩ : ∃ f, s.size + 1 - at_ = f + 1 := ⟨s.size - at_, by omega⟩
  rw [hf, hd] at hX
  unfold scanP at hX
  rw [if_pos rfl] at hX
  rw [hpA_eq, hpA_eq, hd, digAt_drop, digAt_drop, getD_drop, getD_drop] at h
  have hdd : s.data.toList.drop (at_ + 2) = (s.data.toList.drop (at_ + 1)).drop 1 := by rw [List.drop_drop]
  have hd3 : s.data.toList.drop (at_ + 3) = (s.data.toList.drop (at_ + 1)).drop 2 := by rw [List.drop_drop]
  rw [hdd] at h
  cases hr : s.data.toList.drop (at_ + 1) with
  | nil =>
    rw [hr] at h hX
    rw [if_neg (by simp [pcS, List.isPrefixOf]), if_neg (by simp), if_neg (by simp)] at h
    exact .inr ⟨h, hX.symm⟩
  | cons d r2 =>
    rw [hr] at h hX hdl hdd hd3
    simp only [List.length_cons] at hdl
    simp only [List.drop_succ_cons, List.drop_zero, List.headD_cons] at h hdd
    by_cases h37 : d = 37
    · subst h37
      rw [if_pos (by simp [pcS, List.isPrefixOf])] at h
      simp only [if_true] at hX
      refine .inl ⟨at_ + 2, _, ps, pl, by omega, by omega, by omega, h, ?_, by simp, by omega, by omega⟩
      rw [hdd]
      rw [← hX]
      exact scanP_fuel _ _ _ _ _ _ (by omega) (by omega)
    · rw [if_neg (by simp [pcS, List.isPrefixOf]; exact fun e => h37 e.symm)] at h
      simp only [h37, if_false] at hX
      by_cases hg : digB d = true
      · rw [if_pos hg] at h
        simp only [hg, if_true] at hX
        have hpl := placeP_len lit ps d false
        refine .inl ⟨at_ + 2, _, _, _, by omega, by omega, by omega, h, ?_, by simp, by omega, by omega⟩
        rw [hdd]
        rw [← hX]
        exact scanP_fuel _ _ _ _ _ _ (by omega) (by omega)
      · rw [if_neg hg] at h
        simp only [hg] at hX
        by_cases h100 : d = 100
        · subst h100
          simp only [if_true] at hX
          cases r2 with
          | nil =>
            rw [if_neg (by simp)] at h
            exact .inr ⟨h, hX.symm⟩
          | cons k r3 =>
            simp only [List.length_cons] at hdl
            simp only [List.headD_cons, List.drop_succ_cons, List.drop_zero] at h hX hd3
            by_cases hk : digB k = true
            · rw [if_pos (by simp [pdS, List.isPrefixOf, hk])] at h
              simp only [hk, if_true] at hX
              have hpl := placeP_len lit ps k true
              refine .inl ⟨at_ + 3, _, _, _, by omega, by omega, by omega, h, ?_, by simp, by omega, by omega⟩
              rw [hd3]
              rw [← hX]
              exact scanP_fuel _ _ _ _ _ _ (by omega) (by omega)
            · rw [if_neg (by simp [hk])] at h
              simp only [hk] at hX
              exact .inr ⟨h, hX.symm⟩
        · rw [if_neg (by simp [pdS, List.isPrefixOf]; intro e; exact absurd e.symm h100)] at h
          simp only [h100, if_false] at hX
          exact .inr ⟨h, hX.symm⟩
end Go.Proofs.YthbodpjkckminaaGreatDoor

namespace Go.Proofs.YthbodpjkckminaaGreatDoor
open Go.RowKit

/-- where the scan stands: X is what it will come to. -/
def ScanR (B g : Nat) (s : ByteArray) (X : SX) (gk : Nat) (w : World) : Prop :=
  ∃ a lit ps pl e, Sc w B g s a lit ps pl e ∧ a ≤ s.size ∧ lit.length ≤ a ∧ ps.length ≤ 2 * a ∧ pl ≤ a ∧ ((e = 0 ∧ s.size + 1 - a ≤ gk ∧ scanP (s.size + 1 - a) (s.data.toList.drop a) lit ps pl = X) ∨ (e = 14 ∧ X = (lit, ps, pl, 14)))

def ScanEnd (w' : World) (B g : Nat) (s : ByteArray) (P : List Pt × Int) : Prop := ∃ a pl, Sc w' B g s a [] P.1 pl P.2
set_option maxHeartbeats 4000000 in
set_option maxRecDepth 100000 in
theorem scan_any (B g : Nat) (s : ByteArray) (w : World) (h : Sc w B g s 0 [] [] 0 0) (hs : s.size ≤ 1000) (hB : B ≤ w.heap.size) :
    Calls Tryz.prog 95 #[.pointer (some ⟨g, 0, none⟩)] w fun er w' => er = .returned (.tuple #[]) ∧ ScanEnd w' B g s (scanR s.data.toList) ∧ Below B w w' := by
  have hsl : s.data.toList.length = s.size := by simp
  obtain ⟨X, hX⟩ : ∃ X : SX, scanP (s.size + 1) s.data.toList [] [] 0 = X := ⟨_, rfl⟩
  have hR : scanR s.data.toList = (flushP X.1 X.2.1, if X.2.2.2 = 0 ∧ 9 < X.2.2.1 then 9 else X.2.2.2) := by
    unfold scanR
    rw [hsl, hX]
  obtain ⟨RR, hRR⟩ : ∃ RR, RR = scanR s.data.toList := ⟨_, rfl⟩
  rw [← hRR]
  rw [← hRR] at hR
  have HRR := Lib.hid hR
  clear hRR
  have HX := Lib.hid hX
  have hgB := h.gB
  clear hR hX hsl
  go_enter Tryz.func95, Tryz.ntmps95
  go_wp2_with fail
  go_loopg [] (s.size + 1) (fun gk wr => ScanR B g s X gk wr ∧ Below B w wr)
  case atStart => exact ⟨⟨0, [], [], 0, 0, h, Nat.zero_le _, Nat.le_refl _, Nat.le_refl _, Nat.le_refl _, .inl ⟨rfl, Nat.le_refl _, HX.out⟩⟩, Below.refl _ _⟩
  case round =>
    obtain ⟨⟨a, lit, ps, pl, e, hS, ha, hl, hp, hpl, hdis⟩, hbw⟩ := hrel
    have c0 := hS.c0
    have c1 := hS.c1
    have c6 := hS.c6
    have hBr : B ≤ wr.heap.size := Nat.le_trans hB hbw.size
    rcases hdis with ⟨rfl, hgk, hX⟩ | ⟨rfl, hX⟩
    · by_cases hlt : a < s.size
      · have i0 : (0 : Int) ≤ (a : Int) := by omega
        have i1 : (a : Int) < (s.size : Int) := by omega
        have hq : ∀ W, (Instr.index 9 (.string s) (.int .i64 (a : Int))).run Tryz.prog W = .ok (.int .u8 (s[a].toNat : Int)) W := fun W => run_index_str s a hlt W
        have HXX := Lib.hid hX
        clear hX
        by_cases h37 : s[a] = 37
        · have e37 : (((s[a].toNat : Nat) : Int) == 37) = true := by rw [h37]; rfl
          have HST := Lib.hid (fun w1 w2 h1 => pc_step (w := w1) (w' := w2) (B := B) (g := g) hlt h37 h1 HXX.out)
          clear h37
          generalize (s[a].toNat : Int) = c at *
          go_wp2_with fail
          go_quiet (fail)
          have hS2 := hS.drewN nq
          have hbw2 := below_drewN hbw nq
          clear hS c0 c1 c6 hbw
          generalize wr.drewN nq = w2 at *
          have c0 := hS2.c0
          have c1 := hS2.c1
          go_wp2_with fail
          go_quiet (fail)
          have hS3 := hS2.drewN nq
          have hbw3 := below_drewN hbw2 nq
          clear hS2 c0 c1 hbw2
          generalize w2.drewN nq = w3 at *
          have hB3 : B ≤ w3.heap.size := Nat.le_trans hB hbw3.size
          have kp := percent_any B g s a pl lit ps w3 hS3 ⟨by omega, by omega⟩ (by omega) (by omega) hlt hB3
          go_wp2_with (go_at_call 131; refine kp.mono ?_; rintro er w4 ⟨rfl, hP4⟩)
          have hbw4 := hbw3.trans hP4.1
          rcases HST.out _ _ hP4 with ⟨a', lit', ps', pl', h1, h2, h3, h4, h5, h6, h7, h8⟩ | ⟨h1, h2⟩
          · go_roundg (s.size + 1 - a')
            case measure => omega
            case rel => exact ⟨⟨a', lit', ps', pl', 0, h4, h2, by omega, by omega, by omega, .inl ⟨rfl, Nat.le_refl _, h5⟩⟩, hbw4⟩
          · go_roundg 0
            case measure => omega
            case rel => exact ⟨⟨a, lit, ps, pl, 14, h1, ha, hl, hp, hpl, .inr ⟨rfl, h2⟩⟩, hbw4⟩
        · have e37 : (((s[a].toNat : Nat) : Int) == 37) = false := by
            simp only [beq_eq_false_iff_ne, ne_eq]
            intro h9
            exact h37 (UInt8.toNat_inj.1 (by show s[a].toNat = 37; omega))
          have HST := Lib.hid (show scanP (s.size + 1 - (a + 1)) (s.data.toList.drop (a + 1)) (lit ++ [s[a]]) ps pl = X by
            have hx := HXX.out
            rw [show s.size + 1 - a = s.size + 1 - (a + 1) + 1 by omega, list_drop s hlt] at hx
            unfold scanP at hx
            rw [if_neg h37] at hx
            exact hx)
          have kw := fun W (hW : Sc W B g s a lit ps pl 0) hBW => writeByte_any B g s a pl lit ps 0 s[a] W hW (by omega) hBW
          have HKW := Lib.hid kw
          clear h37 kw
          generalize s[a] = cb at *
          generalize hcc : (cb.toNat : Int) = c at *
          have HCC := Lib.hid hcc
          clear hcc
          go_wp2_with fail
          go_quiet (fail)
          have hS2 := hS.drewN nq
          have hbw2 := below_drewN hbw nq
          clear hS c0 c1 c6 hbw
          generalize wr.drewN nq = w2 at *
          have c0 := hS2.c0
          have c1 := hS2.c1
          go_wp2_with fail
          go_quiet (fail)
          have hS3 := hS2.drewN nq
          have hbw3 := below_drewN hbw2 nq
          clear hS2 c0 c1 hbw2
          generalize w2.drewN nq = w3 at *
          have hB3 : B ≤ w3.heap.size := Nat.le_trans hB hbw3.size
          have c0 := hS3.c0
          have c1 := hS3.c1
          have kw := HKW.out (w3.drewN 1) (hS3.drewN 1) hB3
          go_wp2_with fail
          go_region_held3 (fun w' => w'.cell? ⟨g, 0, none⟩ = some (.string s) ∧ w'.cell? ⟨g, 1, none⟩ = some (.int .i64 a))
            (first | go_keep | exact ⟨s9, r9⟩)
            (first | (go_at_call 132; refine kw.mono ?_; rintro er w4 ⟨rfl, hS4, hb4⟩; have s9 := hS4.c0; have r9 := hS4.c1))
          all_goals
            have f1 := hS4.fz 1
            have hbw4 := (hbw3.trans ((below_drewN (Below.refl B w3) 1).trans hb4)).setCell (p := ⟨g, 1, none⟩) hgB (.int .i64 ((a : Int) + 1))
            go_wp2_with fail
            go_roundg (s.size + 1 - (a + 1))
            case measure => omega
            case rel => exact ⟨⟨a + 1, lit ++ [cb], ps, pl, 0, hS4.at (a + 1), by omega, by rw [List.length_append]; simp only [List.length_singleton]; omega, by omega, by omega, .inl ⟨rfl, Nat.le_refl _, HST.out⟩⟩, hbw4⟩
      · have has : a = s.size := by omega
        have hX2 : X = (lit, ps, pl, 0) := by
          rw [← hX, List.drop_eq_nil_of_le (by simp; omega), show s.size + 1 - a = 0 + 1 by omega]
          rfl
        have HX2 := Lib.hid hX2
        clear hX2 has
        have h1 : decide ((a : Nat) < s.size) = false := decide_eq_false hlt
        by_cases hp9 : 9 < pl
        · have e9 : decide ((9 : Int) < (pl : Int)) = true := decide_eq_true (by omega)
          have HP := Lib.hid hp9
          clear hp9
          have kf := fun q => flush_any B g s a pl lit ps 0 (wr.drewN q) (hS.drewN q) ⟨by omega, by omega⟩ hBr
          clear hX
          go_wp2_with fail
          go_quiet (fail)
          go_wp2_with (go_at_call 133; refine (kf _).mono ?_; rintro er w5 ⟨rfl, hS5, hb5⟩; have t6 := hS5.c6; have t5 := hS5.c5; have f6 := hS5.fz 6)
          go_end0
          have := hS5.err 9
          refine ⟨rfl, ?_, ((below_drewN hbw _).trans hb5).setCell (p := ⟨g, 6, none⟩) hgB _⟩
          rw [HRR.out, HX2.out]
          exact ⟨a, pl, by simp only [HP.out, and_self, if_true]; exact this⟩
        · have e9 : decide ((9 : Int) < (pl : Int)) = false := decide_eq_false (by omega)
          have HP := Lib.hid hp9
          clear hp9
          have kf := fun q => flush_any B g s a pl lit ps 0 (wr.drewN q) (hS.drewN q) ⟨by omega, by omega⟩ hBr
          clear hX
          go_wp2_with fail
          go_quiet (fail)
          go_wp2_with (go_at_call 133; refine (kf _).mono ?_; rintro er w5 ⟨rfl, hS5, hb5⟩; have t6 := hS5.c6; have t5 := hS5.c5; have f6 := hS5.fz 6)
          go_end0
          refine ⟨rfl, ?_, (below_drewN hbw _).trans hb5⟩
          rw [HRR.out, HX2.out]
          exact ⟨a, pl, by rw [if_neg (fun h => HP.out h.2)]; exact hS5⟩
    · have HX2 := Lib.hid hX
      by_cases hlt : a < s.size
      · have h1 : decide ((a : Nat) < s.size) = true := decide_eq_true hlt
        have kf := fun q => flush_any B g s a pl lit ps 14 (wr.drewN q) (hS.drewN q) ⟨by omega, by omega⟩ hBr
        clear hX
        go_wp2_with fail
        go_quiet (fail)
        go_wp2_with (go_at_call 133; refine (kf _).mono ?_; rintro er w5 ⟨rfl, hS5, hb5⟩; have t6 := hS5.c6; have t5 := hS5.c5; have f6 := hS5.fz 6)
        go_end0
        refine ⟨rfl, ?_, (below_drewN hbw _).trans hb5⟩
        rw [HRR.out, HX2.out]
        exact ⟨a, pl, by rw [if_neg (fun h => by have := h.1; simp at this)]; exact hS5⟩
      · have h1 : decide ((a : Nat) < s.size) = false := decide_eq_false hlt
        have kf := fun q => flush_any B g s a pl lit ps 14 (wr.drewN q) (hS.drewN q) ⟨by omega, by omega⟩ hBr
        clear hX
        go_wp2_with fail
        go_quiet (fail)
        go_wp2_with (go_at_call 133; refine (kf _).mono ?_; rintro er w5 ⟨rfl, hS5, hb5⟩; have t6 := hS5.c6; have t5 := hS5.c5; have f6 := hS5.fz 6)
        go_end0
        refine ⟨rfl, ?_, (below_drewN hbw _).trans hb5⟩
        rw [HRR.out, HX2.out]
        exact ⟨a, pl, by rw [if_neg (fun h => by have := h.1; simp at this)]; exact hS5⟩
end Go.Proofs.YthbodpjkckminaaGreatDoor

namespace Go.Proofs.YthbodpjkckminaaGreatDoor
open Go.RowKit

theorem Sl.byte {w : World} {A : Option Addr} {n : Nat} {xs : List Int} (h : Sl w 1 byteC A n xs) {k : Nat} (hk : k < n) :
    ∃ ad, A = some ad ∧ ad.block < w.heap.size ∧ w.cell? (ad.add k) = some (.int .u8 (gI xs k)) := by
  obtain ⟨ad, e, hl, hc⟩ := h.rd (by omega)
  refine ⟨ad, e, hl, ?_⟩
  have := hc k _ (gI_some (by rw [h.len]; exact hk)) 0 _ (show (byteC (gI xs k))[0]? = some _ from rfl)
  simpa using this
theorem gI_lu (l : List UInt8) {k : Nat} (h : k < l.length) : gI (lu l) k = ((l[k]).toNat : Int) := by
  unfold gI lu
  rw [List.getD_eq_getElem?_getD, List.getElem?_map, List.getElem?_eq_getElem h]
  rfl
theorem ctl_any (b : UInt8) (w : World) : Calls Tryz.prog 94 #[.int .u8 (b.toNat : Int)] w fun e w' => e = .returned (.bool (ctlB b)) ∧ w' = w := by
  have h : ctlB b = (decide ((b.toNat : Int) < 32) || decide ((b.toNat : Int) = 127)) := rfl
  have hb := b.toNat_lt
  have H := Lib.hid h
  clear h
  generalize hc : (b.toNat : Int) = c at *
  by_cases h1 : c < 32
  · go_enter Tryz.func94, Tryz.ntmps94
    go_wp2_with fail
    go_ret
    refine ⟨ret_bool ?_, rfl⟩
    rw [H.out]
    simp [h1]
  · by_cases h2 : c = 127
    · subst h2
      go_enter Tryz.func94, Tryz.ntmps94
      go_wp2_with fail
      go_ret
      refine ⟨ret_bool ?_, rfl⟩
      rw [H.out]
      simp
    · go_enter Tryz.func94, Tryz.ntmps94
      go_wp2_with fail
      go_ret
      refine ⟨ret_bool ?_, rfl⟩
      rw [H.out, decide_eq_false (show ¬ c < 32 by omega), decide_eq_false h2]
      exact beq_eq_false_iff_ne.2 h2
theorem any_take_succ {α : Type} (p : α → Bool) (l : List α) {i : Nat} (h : i < l.length) : (l.take (i + 1)).any p = ((l.take i).any p || p l[i]) := by
  rw [List.take_succ_eq_append_getElem h, List.any_append, List.any_cons, List.any_nil, Bool.or_false]
theorem any_at {α : Type} (p : α → Bool) (l : List α) {i : Nat} (h : i < l.length) (hp : p l[i] = true) : l.any p = true := List.any_eq_true.2 ⟨_, List.getElem_mem h, hp⟩
set_option maxHeartbeats 2000000 in
set_option maxRecDepth 100000 in
theorem index_bytes (A : Option Addr) (n c : Nat) (l : List UInt8) (w : World) (ha : Sl w 1 byteC A n (lu l)) (hn : n ≤ 4096) :
    Calls Tryz.prog 130 #[.slice A n c, .func (Fn.func 94) #[] #[]] w fun e w' => ∃ i : Int, e = .returned (.int .i64 i) ∧ decide (0 ≤ i) = l.any ctlB ∧ ∃ q, w' = w.drewN q := by
  have hl := ha.len
  rw [lu_len] at hl
  go_enter Tryz.func130, Tryz.ntmps130
  go_wp2_with fail
  go_loopw [8] (fun vi wr => ∃ i q : Nat, vi = .int .i64 i ∧ i ≤ n ∧ (l.take i).any ctlB = false ∧ wr = w.drewN q) (fun vi _ => n - (intOf vi).toNat)
  case atStart => exact ⟨0, 0, rfl, Nat.zero_le _, rfl, rfl⟩
  case round =>
    obtain ⟨i, q, rfl, hi, ht, rfl⟩ := hrel
    by_cases hlt : i < n
    · obtain ⟨ad, rfl, hl2, k0⟩ := (ha.drewN q).byte hlt
      rw [gI_lu l (by omega)] at k0
      have hcb := ctl_any (l[i]'(by omega)) (w.drewN q)
      have T := Lib.hid (any_take_succ ctlB l (i := i) (by omega))
      have AT := Lib.hid (any_at ctlB l (i := i) (by omega))
      have HT := Lib.hid ht
      clear ht
      generalize hb : l[i]'(by omega) = b at *
      cases hp : ctlB b
      · rw [hp] at hcb
        have HP := Lib.hid hp
        clear hp hb
        generalize (b.toNat : Int) = c at *
        go_wp2_with (go_at_call 94; refine hcb.mono ?_; rintro e w' ⟨rfl, rfl⟩)
        go_roundw
        case measure => rw [intOf, intOf]; omega
        case rel => exact ⟨i + 1, _, by simp, by omega, by rw [T.out, HT.out, HP.out]; rfl, rfl⟩
      · rw [hp] at hcb
        have HP := Lib.hid hp
        clear hp hb
        generalize (b.toNat : Int) = c at *
        go_wp2_with (go_at_call 94; refine hcb.mono ?_; rintro e w' ⟨rfl, rfl⟩)
        go_ret
        exact ⟨_, rfl, by rw [AT.out HP.out]; simp, _, rfl⟩
    · have : i = n := by omega
      subst this
      have HT := Lib.hid (show l.any ctlB = false by rw [List.take_of_length_le (by omega)] at ht; exact ht)
      clear ht
      go_wp2_with fail
      go_ret
      exact ⟨_, rfl, by rw [HT.out]; rfl, _, rfl⟩
set_option maxHeartbeats 1000000 in
theorem contains_bytes (A : Option Addr) (n c : Nat) (l : List UInt8) (w : World) (ha : Sl w 1 byteC A n (lu l)) (hn : n ≤ 4096) :
    Calls Tryz.prog 93 #[.slice A n c, .func (Fn.func 94) #[] #[]] w fun e w' => e = .returned (.bool (l.any ctlB)) ∧ ∃ q, w' = w.drewN q := by
  go_enter Tryz.func93, Tryz.ntmps93
  go_wp2_with (go_at_call 130; refine (index_bytes A n c l w ha hn).mono ?_; rintro e w' ⟨i, rfl, hi, q, rfl⟩; have HI := Lib.hid hi; clear hi)
  go_ret
  exact ⟨ret_bool (by rw [← HI.out]), _, rfl⟩
theorem sl_bytesWorld (w : World) (s : ByteArray) : Sl (Lib.bytesWorld w 5 s) 1 byteC (some ⟨w.heap.size, 0, none⟩) s.size (lu s.data.toList) := by
  refine ⟨by rw [lu_len]; simp, fun _ => ⟨_, rfl, by rw [Lib.bytesWorld_size]; exact Nat.lt_succ_self _, fun i x hx j u hu => ?_⟩⟩
  have hi : i < s.size := by
    have := (List.getElem?_eq_some_iff.1 hx).1
    rw [lu_len] at this
    simpa using this
  have hx2 : x = gI (lu s.data.toList) i := by
    have := gI_some (xs := lu s.data.toList) (k := i) (by rw [lu_len]; simpa using hi)
    rw [hx] at this
    injection this
  subst hx2
  cases j with
  | succ j => simp [byteC] at hu
  | zero =>
    have hu2 : u = .int .u8 (gI (lu s.data.toList) i) := by simpa [byteC] using hu.symm
    subst hu2
    have := Lib.bytesWorld_cell w 5 s i hi
    have e : (⟨w.heap.size, 0, none⟩ : Addr).add (i * 1 + 0) = ⟨w.heap.size, i, none⟩ := by
      unfold Addr.add
      by_cases h0 : i = 0
      · subst h0; rfl
      · simp [h0]
    rw [e, this, gI_lu _ (by simpa using hi)]
    simp [List.getD_eq_getElem?_getD, hi]
end Go.Proofs.YthbodpjkckminaaGreatDoor

namespace Go.Proofs.YthbodpjkckminaaGreatDoor
open Go.RowKit

theorem bytes_below (w : World) (s : ByteArray) : Below w.heap.size w (Lib.bytesWorld w 5 s) :=
  ⟨rfl, rfl, rfl, by rw [Lib.bytesWorld_size]; omega, fun k hk => Lib.bytesWorld_at_old w 5 s k hk⟩
theorem Sc.c4 {w : World} {B g : Nat} {s : ByteArray} {at_ : Nat} {lit : List UInt8} {ps : List Pt} {pl : Nat} {e : Int} (h : Sc w B g s at_ lit ps pl e) :
    ∃ A c, w.cell? ⟨g, 4, none⟩ = some (.slice A ps.length c) ∧ Own w B 136 3 ptC A ps.length c ps := by
  obtain ⟨sp, A1, c1, A2, c2, hsp, hb, hp⟩ := h
  exact ⟨A2, c2, hb.cell 4 rfl, hp.o2⟩
theorem Sc.new (w : World) (B : Nat) (s : ByteArray) (hB : B ≤ w.heap.size) : Sc (w.alloc (.cells (scV s 0 (.pointer none) none 0 0 none 0 0 0 0) 197)) B w.heap.size s 0 [] [] 0 0 :=
  ⟨.pointer none, none, 0, none, 0, .inl rfl, Blk.new _ _ _, ⟨hB, Own.nil_ _ _ _ _ _, Own.nil_ _ _ _ _ _, by simp [blk], by simp [blk], Apart.none_l⟩⟩
def ParsePost (w : World) (s : ByteArray) (e : Ending) (w' : World) : Prop :=
  ∃ A c, e = .returned (.tuple #[.slice A (parseP s).length c, .int .i64 (parseE s)]) ∧ Own w' w.heap.size 136 3 ptC A (parseP s).length c (parseP s) ∧ Below w.heap.size w w'
theorem ParsePost.err {w : World} {s : ByteArray} {w' : World} {E : Int} (h : parseE s = E) (h0 : E ≠ 0) (hb : Below w.heap.size w w') : ParsePost w s (.returned (.tuple #[.slice none 0 0, .int .i64 E])) w' := by
  have hp : parseP s = [] := by unfold parseP; rw [if_neg (by rw [h]; exact h0)]
  unfold ParsePost
  rw [hp, h]
  exact ⟨none, 0, rfl, Own.nil_ _ _ _ _ _, hb⟩
set_option maxHeartbeats 4000000 in
set_option maxRecDepth 100000 in
theorem parse_any (s : ByteArray) (w : World) : Calls Tryz.prog 52 #[.string s] w (ParsePost w s) := by
  by_cases h64 : 64 < s.size
  · have h1 : (64 : Int) < (s.size : Int) := by omega
    have HE := Lib.hid (show parseE s = 10 by unfold parseE; rw [if_pos h64])
    have h2 : decide (s.size > 64) = true := decide_eq_true h64
    go_enter Tryz.func52, Tryz.ntmps52
    go_wp2_with fail
    go_ret2
    exact ParsePost.err HE.out (by omega) (Below.refl _ _)
  · have h1 : ¬ (64 : Int) < (s.size : Int) := by omega
    have hv := valid_any s w (by unfold maxLen; omega)
    have hcv := fun w s => Lib.run_convert_string_bytes (P := Tryz.prog) w 9 190 5 s (u := .string) Tryz.underlying9 Tryz.underlying190 Tryz.underlying5
    have hpE : parseE s = if (ptsO (byts s)).isSome = false then 12 else if s.data.toList.any ctlB = true then 5 else (scanR s.data.toList).2 := by unfold parseE; rw [if_neg h64]
    cases hV : (ptsO (byts s)).isSome
    · rw [hV] at hv
      have HE := Lib.hid (show parseE s = 12 by rw [hpE, if_pos hV])
      clear hpE hV
      go_enter Tryz.func52, Tryz.ntmps52
      go_wp2_with (go_at_call 92; refine hv.mono ?_; rintro e w' ⟨rfl, rfl⟩)
      go_ret2
      exact ParsePost.err HE.out (by omega) (Below.refl _ _)
    · rw [hV] at hv
      rw [if_neg (by rw [hV]; simp)] at hpE
      have hcb := contains_bytes (some ⟨w.heap.size, 0, none⟩) s.size (grownCap w s.size 0 5) s.data.toList (Lib.bytesWorld w 5 s) (sl_bytesWorld w s) (by omega)
      have hB1 := bytes_below w s
      cases hC : s.data.toList.any ctlB
      · rw [hC] at hcb
        rw [if_neg (by rw [hC]; simp)] at hpE
        have HPE := Lib.hid hpE
        have hs : s.size ≤ 1000 := by omega
        have KS := Lib.hid (fun w1 (hB : w.heap.size ≤ w1.heap.size) => scan_any w.heap.size w1.heap.size s (w1.alloc (.cells (scV s 0 (.pointer none) none 0 0 none 0 0 0 0) 197)) (Sc.new w1 _ s hB) hs (by rw [World.size_alloc]; omega))
        clear hpE hV hC
        have HPP := Lib.hid (show parseP s = if parseE s = 0 then (scanR s.data.toList).1 else [] from rfl)
        generalize scanR s.data.toList = R at *
        obtain ⟨rp, re⟩ := R
        by_cases hre : re = 0
        · subst hre
          go_enter Tryz.func52, Tryz.ntmps52
          go_wp2_with (first | (go_at_call 92; refine hv.mono ?_; rintro e w' ⟨rfl, rfl⟩) | (go_at_call 93; refine hcb.mono ?_; rintro e w' ⟨rfl, q, rfl⟩) | (go_at_call 95; refine (KS.out _ (below_drewN hB1 _).size).mono ?_; rintro er w5 ⟨rfl, ⟨a, pl, hS5⟩, hb5⟩; have t6 : w5.cell? ⟨(Lib.bytesWorld w 5 s).heap.size, 6, none⟩ = _ := hS5.c6; obtain ⟨A4, c4, t4, o4⟩ := hS5.c4; have t4 : w5.cell? ⟨(Lib.bytesWorld w 5 s).heap.size, 4, none⟩ = _ := t4))
          go_ret2
          have hE := HPE.out
          have hP := HPP.out
          rw [if_pos hE] at hP
          unfold ParsePost
          rw [hP, hE]
          exact ⟨A4, c4, rfl, o4, ((below_drewN hB1 _).alloc (below_drewN hB1 _).size _).trans hb5⟩
        · go_enter Tryz.func52, Tryz.ntmps52
          go_upto_region 10 with (first | (go_at_call 92; refine hv.mono ?_; rintro e w' ⟨rfl, rfl⟩) | (go_at_call 93; refine hcb.mono ?_; rintro e w' ⟨rfl, q, rfl⟩) | (go_at_call 95; refine (KS.out _ (below_drewN hB1 _).size).mono ?_; rintro er w5 ⟨rfl, ⟨a, pl, hS5⟩, hb5⟩; have t6 : w5.cell? ⟨(Lib.bytesWorld w 5 s).heap.size, 6, none⟩ = _ := hS5.c6))
          go_quiet (fail)
          go_wp2_with fail
          go_ret2
          exact ParsePost.err HPE.out hre (below_drewN (((below_drewN hB1 _).alloc (below_drewN hB1 _).size _).trans hb5) _)
      · rw [hC] at hcb
        have HE := Lib.hid (show parseE s = 5 by rw [hpE, if_pos hC])
        clear hpE hV hC
        go_enter Tryz.func52, Tryz.ntmps52
        go_wp2_with (first | (go_at_call 92; refine hv.mono ?_; rintro e w' ⟨rfl, rfl⟩) | (go_at_call 93; refine hcb.mono ?_; rintro e w' ⟨rfl, q, rfl⟩))
        go_ret2
        exact ParsePost.err HE.out (by omega) (below_drewN hB1 _)
end Go.Proofs.YthbodpjkckminaaGreatDoor

namespace Go.Proofs.YthbodpjkckminaaGreatDoor
open Go.RowKit

def gP (ps : List Pt) (k : Nat) : Pt := ps.getD k ⟨[], 0, false⟩
theorem gP_get (ps : List Pt) {k : Nat} (h : k < ps.length) : gP ps k = ps[k] := by
  unfold gP
  rw [List.getD_eq_getElem?_getD, List.getElem?_eq_getElem h]
  rfl
theorem Sl.pt {w : World} {A : Option Addr} {n : Nat} {xs : List Pt} (h : Sl w 3 ptC A n xs) {k : Nat} (hk : k < n) :
    ∃ ad, A = some ad ∧ ad.block < w.heap.size ∧ w.cell? (ad.add (k * 3)) = some (.string ⟨(gP xs k).lit.toArray⟩) ∧ w.cell? ⟨(ad.add (k * 3)).block, (ad.add (k * 3)).off + 1, none⟩ = some (.int .i64 (gP xs k).lev) ∧ w.cell? ⟨(ad.add (k * 3)).block, (ad.add (k * 3)).off + 2, none⟩ = some (.bool (gP xs k).plain) := by
  obtain ⟨ad, e, hl, x, hx, hc⟩ := h.at_ hk
  have hg : gP xs k = x := by unfold gP; rw [List.getD_eq_getElem?_getD, hx]; rfl
  rw [hg]
  have f : ∀ j u, 0 < j → (ptC x)[j]? = some u → w.cell? ⟨(ad.add (k * 3)).block, (ad.add (k * 3)).off + j, none⟩ = some u := fun j u hj hu => by
    have : w.cell? ((ad.add (k * 3)).add j) = w.cell? ⟨(ad.add (k * 3)).block, (ad.add (k * 3)).off + j, none⟩ := by
      unfold Addr.add; simp [Nat.ne_of_gt hj]
    rw [← this, add_add_]; exact hc j u hu
  exact ⟨ad, e, hl, hc 0 _ rfl, f 1 _ (by omega) rfl, f 2 _ (by omega) rfl⟩
set_option maxHeartbeats 2000000 in
theorem over_any (p : Pt) (g : Nat) (level : Int) (w : World) (hb : Blk w g 3 #[.int .i64 level]) :
    Calls Tryz.prog 54 #[.agg #[.string ⟨p.lit.toArray⟩, .int .i64 p.lev, .bool p.plain], .pointer (some ⟨g, 0, none⟩)] w fun e w' => e = .returned (.bool (decide (level < p.lev))) ∧ Below w.heap.size w w' := by
  obtain ⟨l, k, b⟩ := p
  simp only
  have hb1 := hb.alloc (.cells #[.string ⟨l.toArray⟩, .int .i64 k, .bool b] 136)
  have k0 : (w.alloc (.cells #[.string ⟨l.toArray⟩, .int .i64 k, .bool b] 136)).cell? ⟨g, 0, none⟩ = some (.int .i64 level) := hb1.cell 0 rfl
  have N := Blk.new w 136 #[.string ⟨l.toArray⟩, .int .i64 k, .bool b]
  have k1 : (w.alloc (.cells #[.string ⟨l.toArray⟩, .int .i64 k, .bool b] 136)).cell? ⟨w.heap.size, 1, none⟩ = some (.int .i64 k) := N.cell 1 rfl
  generalize l.toArray = la at *
  go_enter Tryz.func54, Tryz.ntmps54
  go_wp2_with fail
  go_ret
  exact ⟨ret_bool rfl, (Below.refl _ w).alloc (Nat.le_refl _) _⟩
set_option maxHeartbeats 4000000 in
set_option maxRecDepth 100000 in
theorem index_parts (A : Option Addr) (n c : Nat) (l : List Pt) (g : Nat) (level : Int) (w : World) (ha : Sl w 3 ptC A n l) (hb : Blk w g 3 #[.int .i64 level]) (hn : n ≤ maxLen) :
    Calls Tryz.prog 96 #[.slice A n c, .func (Fn.func 54) #[] #[.pointer (some ⟨g, 0, none⟩)]] w fun e w' => ∃ i : Int, e = .returned (.int .i64 i) ∧ decide (0 ≤ i) = l.any (fun p => decide (level < p.lev)) ∧ Below w.heap.size w w' := by
  have hl := ha.len
  unfold maxLen at hn
  go_enter Tryz.func96, Tryz.ntmps96
  go_wp2_with fail
  go_loopw [8] (fun vi wr => ∃ i : Nat, vi = .int .i64 i ∧ i ≤ n ∧ (l.take i).any (fun p => decide (level < p.lev)) = false ∧ Below w.heap.size w wr) (fun vi _ => n - (intOf vi).toNat)
  case atStart => exact ⟨0, rfl, Nat.zero_le _, rfl, Below.refl _ _⟩
  case round =>
    obtain ⟨i, rfl, hi, ht, hbw⟩ := hrel
    by_cases hlt : i < n
    · obtain ⟨ad, e, hl2, k0, k1, k2⟩ := (ha.below hbw).pt hlt
      subst e
      have ov := over_any (gP l i) g level wr (hb.below hbw)
      have T := Lib.hid (any_take_succ (fun p : Pt => decide (level < p.lev)) l (i := i) (by omega))
      have AT := Lib.hid (any_at (fun p : Pt => decide (level < p.lev)) l (i := i) (by omega))
      rw [← gP_get l (by omega)] at T AT
      have HT := Lib.hid ht
      clear ht
      generalize gP l i = x at *
      obtain ⟨xl, xk, xb⟩ := x
      simp only at ov k0 k1 k2 T AT
      generalize xl.toArray = la at *
      by_cases hp : level < xk
      · rw [decide_eq_true hp] at ov T AT
        go_wp2_with (go_at_call 54; refine ov.mono ?_; rintro e w' ⟨rfl, hb2⟩)
        go_ret
        exact ⟨_, rfl, by rw [AT.out trivial]; simp, below_trans' hbw hbw.size hb2⟩
      · rw [decide_eq_false hp] at ov T AT
        go_wp2_with (go_at_call 54; refine ov.mono ?_; rintro e w' ⟨rfl, hb2⟩)
        go_roundw
        case measure => rw [intOf, intOf]; omega
        case rel => exact ⟨i + 1, by simp, by omega, by rw [T.out, HT.out]; rfl, below_trans' hbw hbw.size hb2⟩
    · have : i = n := by omega
      subst this
      have HT := Lib.hid (show l.any (fun p => decide (level < p.lev)) = false by rw [List.take_of_length_le (by omega)] at ht; exact ht)
      clear ht
      go_wp2_with fail
      go_ret
      exact ⟨_, rfl, by rw [HT.out]; rfl, hbw⟩
set_option maxHeartbeats 1000000 in
theorem contains_parts (A : Option Addr) (n c : Nat) (l : List Pt) (g : Nat) (level : Int) (w : World) (ha : Sl w 3 ptC A n l) (hb : Blk w g 3 #[.int .i64 level]) (hn : n ≤ maxLen) :
    Calls Tryz.prog 53 #[.slice A n c, .func (Fn.func 54) #[] #[.pointer (some ⟨g, 0, none⟩)]] w fun e w' => e = .returned (.bool (l.any (fun p => decide (level < p.lev)))) ∧ Below w.heap.size w w' := by
  go_enter Tryz.func53, Tryz.ntmps53
  go_wp2_with (go_at_call 96; refine (index_parts A n c l g level w ha hb hn).mono ?_; rintro e w' ⟨i, rfl, hi, hbw⟩; have HI := Lib.hid hi; clear hi)
  go_ret
  exact ⟨ret_bool (by rw [← HI.out]), hbw⟩
set_option maxHeartbeats 4000000 in
set_option maxRecDepth 100000 in
theorem check_any (s : ByteArray) (level : Int) (w : World) :
    Calls Tryz.prog 30 #[.string s, .int .i64 level] w fun e w' => e = .returned (.int .i64 (checkE s level)) ∧ Below w.heap.size w w' := by
  have N := Blk.new w 3 #[.int .i64 level]
  have k0 : (w.alloc (.cells #[.int .i64 level] 3)).cell? ⟨w.heap.size, 0, none⟩ = some (.int .i64 level) := N.cell 0 rfl
  have hBa := (Below.refl _ w).alloc (Nat.le_refl _) (.cells #[.int .i64 level] 3)
  have HC := Lib.hid (show checkE s level = if level < 1 ∨ 9 < level then 2 else if parseE s = 0 ∧ (parseP s).any (fun p => decide (level < p.lev)) = true then 6 else parseE s from rfl)
  have PA := Lib.hid (parse_any s (w.alloc (.cells #[.int .i64 level] 3)))
  have CP := Lib.hid (fun A n c w1 (ha : Sl w1 3 ptC A n (parseP s)) (hb : Blk w1 w.heap.size 3 #[.int .i64 level]) (hn : n ≤ maxLen) => contains_parts A n c (parseP s) w.heap.size level w1 ha hb hn)
  by_cases h1 : level < 1
  · go_enter Tryz.func30, Tryz.ntmps30
    go_wp2_with fail
    go_ret
    exact ⟨ret_int (by rw [HC.out, if_pos (.inl h1)]), hBa⟩
  · by_cases h9 : 9 < level
    · go_enter Tryz.func30, Tryz.ntmps30
      go_wp2_with fail
      go_ret
      exact ⟨ret_int (by rw [HC.out, if_pos (.inr h9)]), hBa⟩
    · have HC2 := Lib.hid (HC.out.trans (if_neg (by omega)))
      clear HC
      have HP0 := Lib.hid (fun (h : parseE s ≠ 0) => (HC2.out.trans (if_neg (fun k => h k.1))))
      by_cases he : parseE s = 0
      · cases ha : (parseP s).any (fun p => decide (level < p.lev))
        · have HF := Lib.hid (show checkE s level = 0 by rw [HC2.out, if_neg (by rw [ha]; simp), he])
          go_enter Tryz.func30, Tryz.ntmps30
          go_wp2_with (first | (go_at_call 52; refine PA.out.mono ?_; rintro er w1 ⟨A, c, rfl, ho, hb1⟩; have hbN := N.below hb1; have CPP := CP.out A _ c w1 (ho.sl ptC_len) hbN (Nat.le_trans ho.cap.1 ho.cap.2); rw [ha] at CPP; rw [he]) | (go_at_call 53; refine CPP.mono ?_; rintro er w2 ⟨rfl, hb2⟩))
          go_ret
          exact ⟨ret_int (by rw [HF.out]), below_trans' (below_trans' hBa hBa.size hb1) (below_trans' hBa hBa.size hb1).size hb2⟩
        · have HF := Lib.hid (show checkE s level = 6 by rw [HC2.out, if_pos ⟨he, ha⟩])
          go_enter Tryz.func30, Tryz.ntmps30
          go_wp2_with (first | (go_at_call 52; refine PA.out.mono ?_; rintro er w1 ⟨A, c, rfl, ho, hb1⟩; have hbN := N.below hb1; have CPP := CP.out A _ c w1 (ho.sl ptC_len) hbN (Nat.le_trans ho.cap.1 ho.cap.2); rw [ha] at CPP; rw [he]) | (go_at_call 53; refine CPP.mono ?_; rintro er w2 ⟨rfl, hb2⟩))
          go_ret
          exact ⟨ret_int (by rw [HF.out]), below_trans' (below_trans' hBa hBa.size hb1) (below_trans' hBa hBa.size hb1).size hb2⟩
      · have HF := Lib.hid (HP0.out he)
        go_enter Tryz.func30, Tryz.ntmps30
        go_wp2_with (go_at_call 52; refine PA.out.mono ?_; rintro er w1 ⟨A, c, rfl, ho, hb1⟩)
        go_ret
        exact ⟨ret_int (by rw [HF.out]), below_trans' hBa hBa.size hb1⟩
end Go.Proofs.YthbodpjkckminaaGreatDoor

namespace Go.Proofs.YthbodpjkckminaaGreatDoor
open Go.RowKit

structure Lv where
  format : Int
  start : Int
  text : ByteArray
  restart : Int
def lvC (l : Lv) : List Value := [.int .i64 l.format, .int .i64 l.start, .string l.text, .int .i64 l.restart]
theorem lvC_len (l : Lv) : (lvC l).length = 4 := rfl
theorem lvC_one (l : Lv) : ∀ u ∈ lvC l, u.oneCell' = true := by intro u hu; simp [lvC] at hu; rcases hu with rfl | rfl | rfl | rfl <;> rfl
def gL (ls : List Lv) (k : Nat) : Lv := ls.getD k ⟨0, 0, ⟨#[]⟩, 0⟩
def lvE (i : Nat) (l : Lv) : Int :=
  if l.format < 1 ∨ 7 < l.format then 3 else if l.start < 0 ∨ 32767 < l.start then 2 else if checkE l.text ((i : Int) + 1) ≠ 0 then checkE l.text ((i : Int) + 1) else if l.restart < 0 ∨ (i : Int) < l.restart then 5 else 0
def clF : Nat → List Lv → Int
  | _, [] => 0
  | i, l :: r => if lvE i l ≠ 0 then lvE i l else clF (i + 1) r
def clE (ls : List Lv) : Int := if ls.length = 0 then 11 else if 9 < ls.length then 9 else clF 0 ls
theorem Sl.lv {w : World} {A : Option Addr} {n : Nat} {xs : List Lv} (h : Sl w 4 lvC A n xs) {k : Nat} (hk : k < n) :
    ∃ ad, A = some ad ∧ ad.block < w.heap.size ∧ w.cell? (ad.add (k * 4)) = some (.int .i64 (gL xs k).format) ∧ w.cell? ⟨(ad.add (k * 4)).block, (ad.add (k * 4)).off + 1, none⟩ = some (.int .i64 (gL xs k).start) ∧ w.cell? ⟨(ad.add (k * 4)).block, (ad.add (k * 4)).off + 2, none⟩ = some (.string (gL xs k).text) ∧ w.cell? ⟨(ad.add (k * 4)).block, (ad.add (k * 4)).off + 3, none⟩ = some (.int .i64 (gL xs k).restart) := by
  obtain ⟨ad, e, hl, x, hx, hc⟩ := h.at_ hk
  have hg : gL xs k = x := by unfold gL; rw [List.getD_eq_getElem?_getD, hx]; rfl
  rw [hg]
  have f : ∀ j u, 0 < j → (lvC x)[j]? = some u → w.cell? ⟨(ad.add (k * 4)).block, (ad.add (k * 4)).off + j, none⟩ = some u := fun j u hj hu => by
    have : w.cell? ((ad.add (k * 4)).add j) = w.cell? ⟨(ad.add (k * 4)).block, (ad.add (k * 4)).off + j, none⟩ := by
      unfold Addr.add; simp [Nat.ne_of_gt hj]
    rw [← this, add_add_]; exact hc j u hu
  exact ⟨ad, e, hl, hc 0 _ rfl, f 1 _ (by omega) rfl, f 2 _ (by omega) rfl, f 3 _ (by omega) rfl⟩
theorem clF_drop (ls : List Lv) {i : Nat} (h : i < ls.length) : clF i (ls.drop i) = if lvE i (gL ls i) ≠ 0 then lvE i (gL ls i) else clF (i + 1) (ls.drop (i + 1)) := by
  rw [List.drop_eq_getElem_cons h, clF]
  have : gL ls i = ls[i] := by unfold gL; rw [List.getD_eq_getElem?_getD, List.getElem?_eq_getElem h]; rfl
  rw [this]
set_option maxHeartbeats 8000000 in
set_option maxRecDepth 100000 in
theorem checkLevels_any (A : Option Addr) (n c : Nat) (ls : List Lv) (w : World) (ha : Sl w 4 lvC A n ls) :
    Calls Tryz.prog 11 #[.slice A n c] w fun e w' => e = .returned (.int .i64 (clE ls)) ∧ Below w.heap.size w w' := by
  have hl := ha.len
  have HC := Lib.hid (show clE ls = if n = 0 then 11 else if 9 < n then 9 else clF 0 ls by unfold clE; rw [hl])
  by_cases h0 : n = 0
  · subst h0
    go_enter Tryz.func11, Tryz.ntmps11
    go_wp2_with fail
    go_ret
    exact ⟨ret_int (by rw [HC.out, if_pos trivial]), Below.refl _ _⟩
  by_cases h9 : 9 < n
  · have h9' : (9 : Int) < (n : Int) := by omega
    have hz : ((n : Int) == 0) = false := beq_eq_false_iff_ne.2 (by omega)
    go_enter Tryz.func11, Tryz.ntmps11
    go_wp2_with fail
    go_ret
    exact ⟨ret_int (by rw [HC.out, if_neg h0, if_pos h9]), Below.refl _ _⟩
  have HX := Lib.hid (HC.out.trans ((if_neg h0).trans (if_neg h9)))
  clear HC
  have hz : ((n : Int) == 0) = false := beq_eq_false_iff_ne.2 (by omega)
  have h9' : ¬ (9 : Int) < (n : Int) := by omega
  go_enter Tryz.func11, Tryz.ntmps11
  go_wp2_with fail
  go_loopw [16] (fun vi wr => ∃ i : Nat, vi = .int .i64 i ∧ i ≤ n ∧ clF i (ls.drop i) = clF 0 ls ∧ Below w.heap.size w wr) (fun vi _ => n - (intOf vi).toNat)
  case atStart => exact ⟨0, rfl, Nat.zero_le _, rfl, Below.refl _ _⟩
  case round =>
    obtain ⟨i, rfl, hi, ht, hbw⟩ := hrel
    by_cases hlt : i < n
    · obtain ⟨ad, e, hl2, k0, k1, k2, k3⟩ := (ha.below hbw).lv hlt
      subst e
      rw [clF_drop ls (by omega)] at ht
      have HT := Lib.hid ht
      have HE := Lib.hid (show lvE i (gL ls i) = if (gL ls i).format < 1 ∨ 7 < (gL ls i).format then 3 else if (gL ls i).start < 0 ∨ 32767 < (gL ls i).start then 2 else if checkE (gL ls i).text ((i : Int) + 1) ≠ 0 then checkE (gL ls i).text ((i : Int) + 1) else if (gL ls i).restart < 0 ∨ (i : Int) < (gL ls i).restart then 5 else 0 from rfl)
      clear ht
      have ca := Lib.hid (fun w1 => check_any (gL ls i).text ((i : Int) + 1) w1)
      generalize lvE i (gL ls i) = E at *
      generalize gL ls i = x at *
      obtain ⟨xf, xs, xt, xr⟩ := x
      simp only at k0 k1 k2 k3 ca HE
      generalize checkE xt ((i : Int) + 1) = ce at *
      go_upto_region 7 with fail
      go_cut [3, 4] (fun vi v wx => ∃ p, vi = .int .i64 i ∧ v = .pointer (some ⟨p, 0, none⟩) ∧ Blk wx p 30 #[.int .i64 xf, .int .i64 xs, .string xt, .int .i64 xr] ∧ Below wr.heap.size wr wx)
      case first =>
        go_wp2_with fail
        go_meet
        case rel => exact ⟨_, rfl, rfl, Blk.new _ _ _, (Below.refl _ _).alloc (Nat.le_refl _) _⟩
      case rest =>
      obtain ⟨p, rfl, rfl, Bx, hb4⟩ := hcut
      clear k0 k1 k2 k3
      have hbc := below_trans' hbw hbw.size hb4
      have k0 : wc.cell? ⟨p, 0, none⟩ = some (.int .i64 xf) := Bx.cell 0 rfl
      have k1 : wc.cell? ⟨p, 1, none⟩ = some (.int .i64 xs) := Bx.cell 1 rfl
      have k2 : wc.cell? ⟨p, 2, none⟩ = some (.string xt) := Bx.cell 2 rfl
      have k3 : wc.cell? ⟨p, 3, none⟩ = some (.int .i64 xr) := Bx.cell 3 rfl
      have hi1 : IntKind.i64.wrap ((i : Int) + 1) = (i : Int) + 1 := IntWalk.i64_in _ (by omega)
      have HS := Lib.hid (fun (V : Int) (h : E = V) (hv : V ≠ 0) => show clE ls = V by rw [HX.out, ← HT.out, if_pos (by rw [h]; exact hv), h])
      have HG := Lib.hid (fun (h : E = 0) => show clF (i + 1) (ls.drop (i + 1)) = clF 0 ls by rw [← HT.out, if_neg (by rw [h]; simp)])
      by_cases f1 : xf < 1
      · have V := Lib.hid (HS.out 3 (by rw [HE.out, if_pos (.inl f1)]) (by omega))
        go_wp2_with fail
        go_ret
        exact ⟨ret_int (by rw [V.out]), hbc⟩
      by_cases f2 : 7 < xf
      · have V := Lib.hid (HS.out 3 (by rw [HE.out, if_pos (.inr f2)]) (by omega))
        go_wp2_with fail
        go_ret
        exact ⟨ret_int (by rw [V.out]), hbc⟩
      have HE2 := Lib.hid (HE.out.trans (if_neg (by omega)))
      by_cases s1 : xs < 0
      · have V := Lib.hid (HS.out 2 (by rw [HE2.out, if_pos (.inl s1)]) (by omega))
        go_wp2_with fail
        go_ret
        exact ⟨ret_int (by rw [V.out]), hbc⟩
      by_cases s2 : 32767 < xs
      · have V := Lib.hid (HS.out 2 (by rw [HE2.out, if_pos (.inr s2)]) (by omega))
        go_wp2_with fail
        go_ret
        exact ⟨ret_int (by rw [V.out]), hbc⟩
      have HE3 := Lib.hid (HE2.out.trans (if_neg (by omega)))
      by_cases c1 : ce = 0
      · have HE4 := Lib.hid (HE3.out.trans (if_neg (by rw [c1]; simp)))
        subst c1
        by_cases r1 : xr < 0
        · have V := Lib.hid (HS.out 5 (by rw [HE4.out, if_pos (.inl r1)]) (by omega))
          go_wp2_with (go_at_call 30; refine (ca.out _).mono ?_; rintro er w5 ⟨rfl, hb5⟩; have t3 : w5.cell? ⟨p, 3, none⟩ = some (.int .i64 xr) := (Bx.below hb5).cell 3 rfl)
          go_ret
          exact ⟨ret_int (by rw [V.out]), below_trans' hbc hbc.size hb5⟩
        by_cases r2 : (i : Int) < xr
        · have V := Lib.hid (HS.out 5 (by rw [HE4.out, if_pos (.inr r2)]) (by omega))
          go_wp2_with (go_at_call 30; refine (ca.out _).mono ?_; rintro er w5 ⟨rfl, hb5⟩; have t3 : w5.cell? ⟨p, 3, none⟩ = some (.int .i64 xr) := (Bx.below hb5).cell 3 rfl)
          go_ret
          exact ⟨ret_int (by rw [V.out]), below_trans' hbc hbc.size hb5⟩
        have V := Lib.hid (HG.out (by rw [HE4.out, if_neg (by omega)]))
        go_wp2_with (go_at_call 30; refine (ca.out _).mono ?_; rintro er w5 ⟨rfl, hb5⟩; have t3 : w5.cell? ⟨p, 3, none⟩ = some (.int .i64 xr) := (Bx.below hb5).cell 3 rfl)
        go_roundw
        case measure => rw [intOf, intOf]; omega
        case rel => exact ⟨i + 1, by simp, by omega, V.out, below_trans' hbc hbc.size hb5⟩
      · have V := Lib.hid (HS.out ce (by rw [HE3.out, if_pos c1]) c1)
        go_wp2_with (go_at_call 30; refine (ca.out _).mono ?_; rintro er w5 ⟨rfl, hb5⟩)
        go_ret
        exact ⟨ret_int (by rw [V.out]), below_trans' hbc hbc.size hb5⟩
    · have : i = n := by omega
      subst this
      have HT := Lib.hid (show clE ls = 0 by rw [HX.out, ← ht, List.drop_eq_nil_of_le (by omega), clF])
      clear ht
      go_wp2_with fail
      go_ret
      exact ⟨ret_int (by rw [HT.out]), hbw⟩
end Go.Proofs.YthbodpjkckminaaGreatDoor
