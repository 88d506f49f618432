/- property: Check, search, Get, Value. codepoint.Count; items of a flow, as they lie; run.units, run.Len, paragraph.size. What is walked outside a round of a loop over a function goes in a round as well: regions. No program in sight. -/
import Derived.Test.YthbodpjkckminaaGreatDoorm9
import Derived.Test.YthbodpjkckminaaGreatDoorm2
import Derived.RangeFuncBox
import Derived.RangeFuncNested
import Derived.RangeFuncBound
import Derived.RangeFuncCalls
import Derived.RangeFuncLeaves
import Derived.Shelf.Abstract
import Derived.WalkKit
import Derived.OwnWalkIn
import Derived.TacticsInMore
import Derived.LoopNIn
import Derived.LoopIn
import Derived.Sort.CutIn
import Derived.OrdersIn
import Derived.OrdersHeld
import Derived.Test.YthbodpjkckminaaGreatDoorm1
namespace Go.Proofs.YthbodpjkckminaaGreatDoor
open Go.RowKit

/-- the first number that is not 0. -/
def firstNZ : List Int → Int
  | [] => 0
  | e :: r => if e = 0 then firstNZ r else e
theorem firstNZ_at : ∀ {l : List Int} {i : Nat}, (∀ t, t < i → l.getD t 0 = 0) → l.getD i 0 ≠ 0 → firstNZ l = l.getD i 0
  | [], i, _, hn => by simp at hn
  | e :: r, 0, _, hn => by rw [firstNZ, if_neg (by simpa using hn)]; simp
  | e :: r, i + 1, h0, hn => by
    have he : e = 0 := by simpa using h0 0 (by omega)
    rw [firstNZ, if_pos he]
    have := firstNZ_at (l := r) (i := i) (fun t ht => by simpa using h0 (t + 1) (by omega)) (by simpa using hn)
    simpa using this
theorem firstNZ_all : ∀ {l : List Int}, (∀ t, t < l.length → l.getD t 0 = 0) → firstNZ l = 0
  | [], _ => rfl
  | e :: r, h => by
    have he : e = 0 := by simpa using h 0 (by simp)
    rw [firstNZ, if_pos he]
    exact firstNZ_all fun t ht => by simpa using h (t + 1) (by simpa using ht)
theorem firstNZ_zero : ∀ {l : List Int}, firstNZ l = 0 → ∀ t, l.getD t 0 = 0
  | [], _, t => by simp
  | e :: r, h, t => by
    rw [firstNZ] at h
    by_cases he : e = 0
    · rw [if_pos he] at h
      rcases t with _ | t
      · simpa using he
      · simpa using firstNZ_zero h t
    · rw [if_neg he] at h; exact absurd h he
theorem range_getD (f : Nat → Int) (n t : Nat) (ht : t < n) : ((List.range n).map f).getD t 0 = f t := by
  rw [List.getD_eq_getElem?_getD, List.getElem?_map, List.getElem?_range ht]; rfl
/-- the error of a property behind those before it, and the first error of a list. -/
def c1E (el : Int) (ps : List Pr) (t : Nat) : Int := if fitsB el (gP2 ps t).key = false then 4 else if 0 < t ∧ (gP2 ps t).key = (gP2 ps (t - 1)).key then 7 else if 0 < t ∧ (gP2 ps t).key < (gP2 ps (t - 1)).key then 6 else cvE (gP2 ps t).key (gP2 ps t).val
def pckE (el : Int) (ps : List Pr) : Int := if el < 1 ∨ 10 < el then 3 else firstNZ ((List.range ps.length).map (c1E el ps))
theorem pckE_at {el : Int} {ps : List Pr} {i : Nat} (hel : ¬ (el < 1 ∨ 10 < el)) (hi : i < ps.length) (h0 : ∀ t, t < i → c1E el ps t = 0) (hn : c1E el ps i ≠ 0) : pckE el ps = c1E el ps i := by
  unfold pckE
  rw [if_neg hel]
  have e := range_getD (c1E el ps) ps.length i hi
  rw [← e]
  exact firstNZ_at (fun t ht => by rw [range_getD _ _ _ (by omega)]; exact h0 t ht) (by rw [e]; exact hn)
theorem pckE_all {el : Int} {ps : List Pr} (hel : ¬ (el < 1 ∨ 10 < el)) (h0 : ∀ t, t < ps.length → c1E el ps t = 0) : pckE el ps = 0 := by
  unfold pckE
  rw [if_neg hel]
  exact firstNZ_all fun t ht => by
    have ht' : t < ps.length := by simpa using ht
    rw [range_getD _ _ _ ht']; exact h0 t ht'
theorem pckE_zero {el : Int} {ps : List Pr} (h : pckE el ps = 0) : ¬ (el < 1 ∨ 10 < el) ∧ ∀ t, t < ps.length → c1E el ps t = 0 := by
  unfold pckE at h
  by_cases hel : el < 1 ∨ 10 < el
  · rw [if_pos hel] at h; omega
  · rw [if_neg hel] at h
    exact ⟨hel, fun t ht => by rw [← range_getD (c1E el ps) _ _ ht]; exact firstNZ_zero h t⟩
theorem c1E_zero {el : Int} {ps : List Pr} {t : Nat} (h : c1E el ps t = 0) : fitsB el (gP2 ps t).key = true ∧ (0 < t → (gP2 ps (t - 1)).key < (gP2 ps t).key) ∧ cvE (gP2 ps t).key (gP2 ps t).val = 0 := by
  unfold c1E at h
  by_cases h1 : fitsB el (gP2 ps t).key = false
  · rw [if_pos h1] at h; omega
  rw [if_neg h1] at h
  by_cases h2 : 0 < t ∧ (gP2 ps t).key = (gP2 ps (t - 1)).key
  · rw [if_pos h2] at h; omega
  rw [if_neg h2] at h
  by_cases h3 : 0 < t ∧ (gP2 ps t).key < (gP2 ps (t - 1)).key
  · rw [if_pos h3] at h; omega
  rw [if_neg h3] at h
  exact ⟨by simpa using h1, fun h0 => by omega, h⟩
def keyL (ps : List Pr) : List Int := ps.map (·.key)
theorem keyL_at (ps : List Pr) (k : Nat) : (keyL ps).getD k 0 = (gP2 ps k).key := by
  unfold gP2 keyL
  rw [List.getD_eq_getElem?_getD, List.getD_eq_getElem?_getD, List.getElem?_map]
  cases h : ps[k]? with
  | none => rfl
  | some e => rfl
/-- the keys of a right list go up. -/
theorem sorted_of_step : ∀ {zs : List Int}, (∀ t, 0 < t → t < zs.length → zs.getD (t - 1) 0 < zs.getD t 0) → zs.Pairwise (· ≤ ·)
  | [], _ => List.Pairwise.nil
  | z :: zs, h => by
    have hs : zs.Pairwise (· ≤ ·) := sorted_of_step fun t h0 ht => by
      obtain ⟨s, rfl⟩ : ∃ s, t = s + 1 := ⟨t - 1, by omega⟩
      simpa using h (s + 1 + 1) (by omega) (by simpa using ht)
    rw [List.pairwise_cons]
    refine ⟨fun y hy => ?_, hs⟩
    cases zs with
    | nil => cases hy
    | cons z2 zs =>
      have h1 : z < z2 := by simpa using h 1 (by omega) (by simp)
      rcases List.mem_cons.1 hy with rfl | hy
      · omega
      · have := (List.pairwise_cons.1 hs).1 y hy; omega
theorem pckE_sorted {el : Int} {ps : List Pr} (h : pckE el ps = 0) : (keyL ps).Pairwise (· ≤ ·) :=
  sorted_of_step fun t h0 ht => by
    rw [keyL_at, keyL_at]
    exact (c1E_zero ((pckE_zero h).2 t (by simpa [keyL] using ht))).2.1 h0

set_option maxHeartbeats 8000000 in
set_option maxRecDepth 100000 in
theorem pcheck_any (el : Int) (A : Option Addr) (n c : Nat) (ps : List Pr) (w : World) (ha : Sl w 2 prC A n ps) (hbig : n ≤ 9223372036854775807) :
    Calls Tryz.prog 15 #[.int .i64 el, .slice A n c] w fun e w' => e = .returned (.int .i64 (pckE el ps)) ∧ Below w.heap.size w w' := by
  have hl := ha.len
  have H3 := Lib.hid (fun h : el < 1 ∨ 10 < el => show pckE el ps = 3 from if_pos h)
  have HE := Lib.hid (fun (h : ¬ (el < 1 ∨ 10 < el)) (i : Nat) (hi : i < n) h0 hn => pckE_at (ps := ps) (i := i) h (by omega) h0 hn)
  have HA := Lib.hid (fun (h : ¬ (el < 1 ∨ 10 < el)) (h0 : ∀ t, t < n → c1E el ps t = 0) => pckE_all (ps := ps) h (by rw [hl]; exact h0))
  have HC := Lib.hid (fun t => show c1E el ps t = if fitsB el (gP2 ps t).key = false then 4 else if 0 < t ∧ (gP2 ps t).key = (gP2 ps (t - 1)).key then 7 else if 0 < t ∧ (gP2 ps t).key < (gP2 ps (t - 1)).key then 6 else cvE (gP2 ps t).key (gP2 ps t).val from rfl)
  generalize pckE el ps = r at *
  by_cases h1 : el < 1
  · have HR := Lib.hid (H3.out (.inl h1))
    go_enter Tryz.func15, Tryz.ntmps15
    go_wp2_with fail
    go_ret
    exact ⟨by rw [HR.out]; rfl, Below.refl _ _⟩
  by_cases h2 : 10 < el
  · have HR := Lib.hid (H3.out (.inr h2))
    go_enter Tryz.func15, Tryz.ntmps15
    go_wp2_with fail
    go_ret
    exact ⟨by rw [HR.out]; rfl, Below.refl _ _⟩
  have hel : ¬ (el < 1 ∨ 10 < el) := by omega
  have HE := Lib.hid (HE.out hel)
  have HA := Lib.hid (HA.out hel)
  clear H3 hel
  go_enter Tryz.func15, Tryz.ntmps15
  go_wp2_with fail
  go_loopw [16] (fun vi wr => ∃ i : Nat, vi = .int .i64 i ∧ i ≤ n ∧ (∀ t, t < i → c1E el ps t = 0) ∧ Below w.heap.size w wr) (fun vi _ => n - (intOf vi).toNat)
  case atStart => exact ⟨0, rfl, Nat.zero_le _, fun t ht => absurd ht (Nat.not_lt_zero _), Below.refl _ _⟩
  case round =>
    obtain ⟨i, rfl, hi, hz, hbw⟩ := hrel
    have HZ := Lib.hid hz
    clear hz
    by_cases hlt : i < n
    · obtain ⟨ad, e, hl2, k0, k1⟩ := ha.pr hlt
      have k0 := keepC hbw k0
      have k1 := keepC hbw k1
      subst e
      have hc := HC.out i
      have hE := HE.out i hlt HZ.out
      have hprev : 0 < i → wr.cell? (ad.add ((i - 1) * 2)) = some (.int .i64 (gP2 ps (i - 1)).key) := fun h0 => by
        obtain ⟨ad', e', _, q0, _⟩ := (ha.below hbw).pr (k := i - 1) (by omega)
        injection e' with e'; subst e'; exact q0
      have HP := Lib.hid hprev
      obtain ⟨ci, hci⟩ : ∃ c, c1E el ps i = c := ⟨_, rfl⟩
      rw [hci] at hc hE
      have HC1 := Lib.hid hc
      have HE1 := Lib.hid hE
      have HCI := Lib.hid hci
      clear hc hE hprev HE HC hci
      generalize gP2 ps i = x at *
      generalize gP2 ps (i - 1) = y at *
      obtain ⟨xk, xv⟩ := x
      simp only at k0 k1 HC1
      have hcv := fun W => checkValue_any xk xv W
      have hft := fun W => fits_any el xk W
      generalize cvE xk xv = cv at *
      generalize fitsB el xk = fb at *
      go_upto_region 5 with fail
      go_cut [5, 6] (fun v5 v6 wx => ∃ p, v5 = .int .i64 i ∧ v6 = .pointer (some ⟨p, 0, none⟩) ∧ Blk wx p 91 #[.int .i64 xk, .int .i64 xv] ∧ Below wr.heap.size wr wx)
      case first =>
        go_wp2_with fail
        go_meet
        case rel => exact ⟨_, rfl, rfl, Blk.new _ _ _, (Below.refl _ _).alloc (Nat.le_refl _) _⟩
      case rest =>
      obtain ⟨p, rfl, rfl, B6, hb4⟩ := hcut
      have hbc := below_trans' hbw hbw.size hb4
      have HP2 := Lib.hid (fun h => keepC hb4 (HP.out h))
      clear k0 k1 hb4 hbw HP
      have q0 := B6.cell 0 rfl
      have q1 := B6.cell 1 rfl
      cases fb
      · have HR := Lib.hid (HC1.out.trans (if_pos rfl))
        have HR2 := Lib.hid ((HE1.out (by rw [HR.out]; omega)).trans HR.out)
        clear HC1 HE1 HP2
        go_wp2_with (go_at_call 36; refine (hft _).mono ?_; rintro e w3 ⟨rfl, hb3⟩)
        go_ret
        exact ⟨by rw [HR2.out]; rfl, below_trans' hbc hbc.size hb3⟩
      · have HC2 := Lib.hid (HC1.out.trans (if_neg (by simp)))
        clear HC1
        by_cases h0 : i = 0
        · subst h0
          have HC3 := Lib.hid (HC2.out.trans ((if_neg (by omega)).trans (if_neg (by omega))))
          clear HP2 HC2
          go_upto_region 8 with (go_at_call 36; refine (hft _).mono ?_; rintro e w3 ⟨rfl, hb3⟩)
          go_region
          go_upto_region 10 with fail
          go_region
          have B7 := (B6.below hb3).drewN 2
          have hb5 : Below w.heap.size w w3.drew.drew := below_drewN (below_trans' hbc hbc.size hb3) 2
          have q0 : w3.drew.drew.cell? ⟨p, 0, none⟩ = some (.int .i64 xk) := B7.cell 0 rfl
          have q1 : w3.drew.drew.cell? ⟨p, 1, none⟩ = some (.int .i64 xv) := B7.cell 1 rfl
          generalize w3.drew.drew = w5 at *
          by_cases hcz : cv = 0
          · subst hcz
            have HZ1 := Lib.hid HC3.out
            go_wp2_with (go_at_call 37; refine (hcv _).mono ?_; rintro e w4 ⟨rfl, hb6⟩)
            go_roundw
            case measure => rw [intOf, intOf]; omega
            case rel => exact ⟨1, by simp, by omega, fun t ht => by obtain rfl : t = 0 := (by omega); exact HCI.out.trans HZ1.out, below_trans' hb5 hb5.size hb6⟩
          · have hcb : (cv == 0) = false := by rw [beq_eq_false_iff_ne]; exact hcz
            have HR2 := Lib.hid ((HE1.out (by rw [HC3.out]; exact hcz)).trans HC3.out)
            go_wp2_with (go_at_call 37; refine (hcv _).mono ?_; rintro e w4 ⟨rfl, hb6⟩)
            go_ret
            exact ⟨by rw [HR2.out]; rfl, below_trans' hb5 hb5.size hb6⟩
        · obtain ⟨j, rfl⟩ : ∃ j, i = j + 1 := ⟨i - 1, by omega⟩
          have hp := HP2.out (by omega)
          rw [Nat.add_sub_cancel] at hp
          have hw1 : IntKind.i64.wrap ((j : Int) + 1 - 1) = (j : Int) := by rw [show (j : Int) + 1 - 1 = j by omega]; exact IntWalk.i64_in _ (by omega)
          have hjn : (j : Int) < n := by omega
          have hj0 : (0 : Int) < (j : Int) + 1 := by omega
          have hj2 : (0 : Int) ≤ (j : Int) := by omega
          clear HP2
          by_cases heq : xk = y.key
          · have HR := Lib.hid (HC2.out.trans (if_pos ⟨by omega, heq⟩))
            have HR2 := Lib.hid ((HE1.out (by rw [HR.out]; omega)).trans HR.out)
            rw [← heq] at hp
            clear HC2 HR HE1 heq
            go_upto_region 8 with (go_at_call 36; refine (hft _).mono ?_; rintro e w3 ⟨rfl, hb3⟩; have B7 := B6.below hb3; have q0 := B7.cell 0 rfl; have hp := keepC hb3 hp)
            go_region
            go_wp2_with fail
            go_ret
            exact ⟨by rw [HR2.out]; rfl, below_drewN (below_trans' hbc hbc.size hb3) 1⟩
          · have HC3 := Lib.hid (HC2.out.trans (if_neg (fun h => heq h.2)))
            have heqb : (xk == y.key) = false := by rw [beq_eq_false_iff_ne]; exact heq
            clear HC2
            by_cases hlt2 : xk < y.key
            · have HR := Lib.hid (HC3.out.trans (if_pos ⟨by omega, hlt2⟩))
              have HR2 := Lib.hid ((HE1.out (by rw [HR.out]; omega)).trans HR.out)
              clear HC3 HR HE1
              generalize y.key = yk at *
              go_upto_region 8 with (go_at_call 36; refine (hft _).mono ?_; rintro e w3 ⟨rfl, hb3⟩; have B7 := B6.below hb3; have q0 := B7.cell 0 rfl; have hp := keepC hb3 hp)
              go_region
              go_upto_region 10 with fail
              go_region
              go_wp2_with fail
              go_ret
              exact ⟨by rw [HR2.out]; rfl, below_drewN (below_trans' hbc hbc.size hb3) 2⟩
            · have HC4 := Lib.hid (HC3.out.trans (if_neg (fun h => hlt2 h.2)))
              clear HC3
              generalize y.key = yk at *
              go_upto_region 8 with (go_at_call 36; refine (hft _).mono ?_; rintro e w3 ⟨rfl, hb3⟩; have B7 := B6.below hb3; have q0 := B7.cell 0 rfl; have hp := keepC hb3 hp)
              go_region
              go_upto_region 10 with fail
              go_region
              have B7 := (B6.below hb3).drewN 2
              have hb5 : Below w.heap.size w w3.drew.drew := below_drewN (below_trans' hbc hbc.size hb3) 2
              have q0 : w3.drew.drew.cell? ⟨p, 0, none⟩ = some (.int .i64 xk) := B7.cell 0 rfl
              have q1 : w3.drew.drew.cell? ⟨p, 1, none⟩ = some (.int .i64 xv) := B7.cell 1 rfl
              generalize w3.drew.drew = w5 at *
              by_cases hcz : cv = 0
              · subst hcz
                have HZ1 := Lib.hid HC4.out
                go_wp2_with (go_at_call 37; refine (hcv _).mono ?_; rintro e w4 ⟨rfl, hb6⟩)
                go_roundw
                case measure => rw [intOf, intOf]; omega
                case rel => exact ⟨j + 1 + 1, by simp, by omega, fun t ht => by
                  rcases (show t < j + 1 ∨ t = j + 1 by omega) with h | rfl
                  · exact HZ.out t h
                  · exact HCI.out.trans HZ1.out, below_trans' hb5 hb5.size hb6⟩
              · have hcb : (cv == 0) = false := by rw [beq_eq_false_iff_ne]; exact hcz
                have HR2 := Lib.hid ((HE1.out (by rw [HC4.out]; exact hcz)).trans HC4.out)
                go_wp2_with (go_at_call 37; refine (hcv _).mono ?_; rintro e w4 ⟨rfl, hb6⟩)
                go_ret
                exact ⟨by rw [HR2.out]; rfl, below_trans' hb5 hb5.size hb6⟩
    · have hh : i = n := by omega
      subst hh
      have HR := Lib.hid (HA.out HZ.out)
      go_wp2_with fail
      go_ret
      exact ⟨by rw [HR.out]; rfl, hbw⟩
set_option maxRecDepth 100000 in
theorem search_any (A : Option Addr) (n c : Nat) (ps : List Pr) (x : Int) (w : World) (ha : Sl w 2 prC A n ps) (hbig : n ≤ 1000000) (hs : (keyL ps).Pairwise (· ≤ ·)) :
    Calls Tryz.prog 108 #[.slice A n c, .int .i64 x] w fun e w' => e = .returned (.tuple #[.int .i64 (ixN (keyL ps) x : Nat), .bool ((keyL ps).contains x)]) ∧ Below w.heap.size w w' := by
  have bf := bsfp_any A n c ps x w ha hbig hs
  rw [show ps.map (·.key) = keyL ps from rfl] at bf
  generalize (keyL ps).contains x = bx at *
  generalize ixN (keyL ps) x = ix at *
  go_enter Tryz.func108, Tryz.ntmps108
  go_wp2_with (first | (go_at_call 138; refine bf.mono ?_; rintro e w3 ⟨rfl, hb3⟩))
  go_ret2
  exact ⟨rfl, hb3⟩
/-- the value of a key that is set, and whether it is. -/
def getV (ps : List Pr) (x : Int) : Int := if (keyL ps).contains x = true then (gP2 ps (ixN (keyL ps) x)).val else 0
def valV (ps : List Pr) (x : Int) : Int := if (keyL ps).contains x = true then getV ps x else (kyF x).std
set_option maxRecDepth 100000 in
theorem get_any (A : Option Addr) (n c : Nat) (ps : List Pr) (x : Int) (w : World) (ha : Sl w 2 prC A n ps) (hbig : n ≤ 1000000) (hs : (keyL ps).Pairwise (· ≤ ·)) :
    Calls Tryz.prog 74 #[.slice A n c, .int .i64 x] w fun e w' => e = .returned (.tuple #[.int .i64 (getV ps x), .bool ((keyL ps).contains x)]) ∧ Below w.heap.size w w' := by
  have hse := search_any A n c ps x w ha hbig hs
  have hix := fun h => (ixN_lt (x := x) hs h).1
  have hl : (keyL ps).length = n := by rw [← ha.len]; simp [keyL]
  rw [hl] at hix
  have HV := Lib.hid (show getV ps x = if (keyL ps).contains x = true then (gP2 ps (ixN (keyL ps) x)).val else 0 from rfl)
  generalize (keyL ps).contains x = bx at *
  generalize ixN (keyL ps) x = ix at *
  cases bx
  · have HV := Lib.hid (HV.out.trans (if_neg (by simp)))
    go_enter Tryz.func74, Tryz.ntmps74
    go_wp2_with (first | (go_at_call 108; refine hse.mono ?_; rintro e w3 ⟨rfl, hb3⟩))
    go_ret2
    exact ⟨by rw [HV.out]; rfl, hb3⟩
  · have HV := Lib.hid (HV.out.trans (if_pos rfl))
    have hi := hix rfl
    obtain ⟨ad, e, hl2, k0, k1⟩ := ha.pr hi
    subst e
    generalize gP2 ps ix = p at *
    obtain ⟨pk, pv⟩ := p
    simp only at k0 k1 HV
    go_enter Tryz.func74, Tryz.ntmps74
    go_wp2_with (first | (go_at_call 108; refine hse.mono ?_; rintro e w3 ⟨rfl, hb3⟩; have k1 := keepC hb3 k1))
    go_ret2
    exact ⟨by rw [HV.out]; rfl, hb3⟩
set_option maxRecDepth 100000 in
theorem value_any (A : Option Addr) (n c : Nat) (ps : List Pr) (x : Int) (w : World) (ha : Sl w 2 prC A n ps) (hbig : n ≤ 1000000) (hs : (keyL ps).Pairwise (· ≤ ·)) :
    Calls Tryz.prog 38 #[.slice A n c, .int .i64 x] w fun e w' => e = .returned (.int .i64 (valV ps x)) ∧ Below w.heap.size w w' := by
  have hge := get_any A n c ps x w ha hbig hs
  have hde := fun W => default_any x W
  have HV := Lib.hid (show valV ps x = if (keyL ps).contains x = true then getV ps x else (kyF x).std from rfl)
  generalize (keyL ps).contains x = bx at *
  generalize getV ps x = gv at *
  generalize (kyF x).std = kd at *
  generalize kyE x = ke at *
  cases bx
  · have HV := Lib.hid (HV.out.trans (if_neg (by simp)))
    go_enter Tryz.func38, Tryz.ntmps38
    go_wp2_with (first | (go_at_call 74; refine hge.mono ?_; rintro e w3 ⟨rfl, hb3⟩) | (go_at_call 75; refine (hde _).mono ?_; rintro e w4 ⟨rfl, hb4⟩))
    go_ret
    exact ⟨by rw [HV.out]; rfl, below_trans' hb3 hb3.size hb4⟩
  · have HV := Lib.hid (HV.out.trans (if_pos rfl))
    go_enter Tryz.func38, Tryz.ntmps38
    go_wp2_with (first | (go_at_call 74; refine hge.mono ?_; rintro e w3 ⟨rfl, hb3⟩))
    go_ret
    exact ⟨by rw [HV.out]; rfl, hb3⟩
end Go.Proofs.YthbodpjkckminaaGreatDoor

namespace Go.Proofs.YthbodpjkckminaaGreatDoor
open Go.RowKit

/-- a byte that begins a code point. -/
def begB (c : Int) : Bool := !(bits .and .u8 c 192 == 128)
def cntL (l : List Int) : Nat := l.countP begB
theorem cntL_take (l : List Int) {i : Nat} (h : i < l.length) : cntL (l.take (i + 1)) = cntL (l.take i) + if begB (l[i]'h) = true then 1 else 0 := by
  unfold cntL
  rw [List.take_succ_eq_append_getElem h, List.countP_append, List.countP_singleton]
theorem cntL_le (l : List Int) : cntL l ≤ l.length := List.countP_le_length
def okS (s : ByteArray) : Bool := (ptsO (byts s)).isSome
def cntN (s : ByteArray) : Nat := if okS s = true then cntL (byts s) else 0
def cntE (s : ByteArray) : Int := if okS s = true then 0 else 12
theorem cntN_le (s : ByteArray) : cntN s ≤ s.size := by
  unfold cntN
  split
  · exact byts_len s ▸ cntL_le _
  · exact Nat.zero_le _
set_option maxHeartbeats 4000000 in
set_option maxRecDepth 100000 in
theorem count_any (s : ByteArray) (w : World) (hs : s.size ≤ maxLen) :
    Calls Tryz.prog 110 #[.string s] w fun e w' => e = .returned (.tuple #[.int .i64 (cntN s : Nat), .int .i64 (cntE s)]) ∧ w' = w := by
  have hv := valid_any s w hs
  have HN := Lib.hid (show cntN s = if okS s = true then cntL (byts s) else 0 from rfl)
  have HE := Lib.hid (show cntE s = if okS s = true then 0 else 12 from rfl)
  have hbl := byts_len s
  have HT := Lib.hid (fun (i : Nat) (h : i < (byts s).length) => cntL_take (byts s) h)
  have hgb : ∀ (i : Nat) (h : i < s.size) (h' : i < (byts s).length), (byts s)[i]'h' = ((s[i]'h).toNat : Int) := fun i h h' => by
    have := byts_drop s i h
    have e : ((byts s).drop i)[0]? = some ((s[i]'h).toNat : Int) := by rw [this]; rfl
    rw [List.getElem?_drop, Nat.add_zero, List.getElem?_eq_getElem h'] at e
    exact Option.some.inj e
  have HG := Lib.hid hgb
  have HL := Lib.hid (fun i => Nat.le_trans (cntL_le ((byts s).take i)) (List.length_take_le i _))
  have HW := Lib.hid (show cntL ((byts s).take s.size) = cntL (byts s) by rw [← hbl, List.take_length])
  unfold maxLen at hs
  rw [show (ptsO (byts s)).isSome = okS s from rfl] at hv
  clear hgb
  generalize okS s = b at *
  cases b
  · have HN2 := Lib.hid (HN.out.trans (if_neg (by simp)))
    have HE2 := Lib.hid (HE.out.trans (if_neg (by simp)))
    go_enter Tryz.func110, Tryz.ntmps110
    go_wp2_with (go_at_call 92; refine hv.mono ?_; rintro e w1 ⟨rfl, rfl⟩)
    go_ret2
    exact ⟨by rw [HN2.out, HE2.out]; rfl, by trivial⟩
  · have HN2 := Lib.hid ((HN.out.trans (if_pos rfl)).trans HW.out.symm)
    have HE2 := Lib.hid (HE.out.trans (if_pos rfl))
    clear HN HE HW
    go_enter Tryz.func110, Tryz.ntmps110
    go_wp2_with (go_at_call 92; refine hv.mono ?_; rintro e w1 ⟨rfl, rfl⟩)
    go_loopw [2, 10] (fun vn vi wr => ∃ i : Nat, vn = .int .i64 (cntL ((byts s).take i) : Nat) ∧ vi = .int .i64 i ∧ i ≤ s.size ∧ wr = w) (fun _ vi _ => s.size - (intOf vi).toNat)
    case atStart => exact ⟨0, rfl, rfl, Nat.zero_le _, rfl⟩
    case round =>
      obtain ⟨i, rfl, rfl, hi, rfl⟩ := hrel
      by_cases hlt : i < s.size
      · have hx := run_index_str s i hlt
        have ht := HT.out i (by omega)
        rw [HG.out i hlt (by omega)] at ht
        have hl1 := HL.out i
        have hlt' : (i : Int) < s.size := by omega
        generalize (s[i].toNat : Int) = c at *
        unfold begB at ht
        generalize cntL ((byts s).take i) = m at *
        by_cases hb : bits .and .u8 c 192 = 128
        · have ht := Lib.hid (show cntL ((byts s).take (i + 1)) = m by rw [ht, hb]; rfl)
          go_wp2_with fail
          go_roundw
          case measure => rw [intOf, intOf]; omega
          case rel => exact ⟨i + 1, by rw [ht.out], by simp, by omega, by trivial⟩
        · have ht := Lib.hid (show cntL ((byts s).take (i + 1)) = m + 1 by rw [ht, beq_eq_false_iff_ne.2 hb]; rfl)
          have hbb : (bits .and .u8 c 192 == 128) = false := beq_eq_false_iff_ne.2 hb
          go_wp2_with fail
          go_roundw
          case measure => rw [intOf, intOf]; omega
          case rel => exact ⟨i + 1, by rw [ht.out]; simp, by simp, by omega, by trivial⟩
      · have : i = s.size := by omega
        subst this
        go_wp2_with fail
        go_ret2
        exact ⟨by rw [HN2.out, HE2.out]; rfl, by trivial⟩
/-- a slice, as a cell holds it. -/
structure SV where
  A : Option Addr
  n : Nat
  c : Nat
def SV.v (s : SV) : Value := .slice s.A s.n s.c
def svZ : SV := ⟨none, 0, 0⟩
/-- a head, as it lies: its properties, its marks. -/
structure Hd where
  p : SV
  ins : Int
  mv : Int
  d : SV
  l : SV
def hdZ : Hd := ⟨svZ, 0, 0, svZ, svZ⟩
def hdC (h : Hd) : List Value := [h.p.v, .int .i64 h.ins, .int .i64 h.mv, h.d.v, h.l.v]
/-- an item, as it lies. -/
structure It where
  kind : Int
  code : Int
  id : Int
  text : ByteArray
  h : Hd
  f : SV
  r : SV
def itZ : It := ⟨0, 0, 0, ⟨#[]⟩, hdZ, svZ, svZ⟩
def itC (x : It) : List Value := [.int .i64 x.kind, .int .i64 x.code, .int .i64 x.id, .string x.text, x.h.p.v, .int .i64 x.h.ins, .int .i64 x.h.mv, x.h.d.v, x.h.l.v, x.f.v, x.r.v]
def itA (x : It) : Array Value := (itC x).toArray
theorem itC_len (x : It) : (itC x).length = 11 := rfl
theorem itC_one (x : It) : ∀ u ∈ itC x, u.oneCell' = true := by intro u hu; simp [itC, SV.v] at hu; rcases hu with rfl | rfl | rfl | rfl | rfl | rfl | rfl | rfl | rfl | rfl | rfl <;> rfl
theorem itA_one (x : It) : (itA x).all (·.oneCell') = true := by simp [itA, itC, SV.v, Value.oneCell']
def gIt (xs : List It) (k : Nat) : It := xs.getD k itZ
theorem addr0 (g k : Nat) : (⟨g, 0, none⟩ : Addr).add k = ⟨g, k, none⟩ := by unfold Addr.add; split <;> simp_all
/-- a slice in a block, element by element in its cells. -/
structure Slb {α : Type} (w : World) (s : Nat) (enc : α → List Value) (A : Option Addr) (n : Nat) (xs : List α) : Prop where
  len : xs.length = n
  rd : 0 < n → ∃ g o, A = some ⟨g, o, none⟩ ∧ g < w.heap.size ∧ ∀ i x, xs[i]? = some x → w.rangeAt g (o + i * s) (enc x)
section
variable {α : Type} {w w' : World} {s : Nat} {enc : α → List Value} {A : Option Addr} {n c : Nat} {xs : List α}
theorem Slb.below (h : Slb w s enc A n xs) (hb : Below w.heap.size w w') : Slb w' s enc A n xs :=
  ⟨h.len, fun hn => by
    obtain ⟨g, o, e, hl, hc⟩ := h.rd hn
    exact ⟨g, o, e, Nat.lt_of_lt_of_le hl hb.size, fun i x hx j v hv => keepC hb (hc i x hx j v hv)⟩⟩
theorem Slb.drewN (h : Slb w s enc A n xs) (k : Nat) : Slb (w.drewN k) s enc A n xs := ⟨h.len, h.rd⟩
theorem Slb.nil : Slb w s enc none 0 ([] : List α) := ⟨rfl, fun h => absurd h (by omega)⟩
theorem Slb.at_ (h : Slb w s enc A n xs) (z : α) {k : Nat} (hk : k < n) : ∃ g o, A = some ⟨g, o, none⟩ ∧ g < w.heap.size ∧ w.rangeAt g (o + k * s) (enc (xs.getD k z)) := by
  obtain ⟨g, o, e, hl, hc⟩ := h.rd (by omega)
  have hx : xs[k]? = some (xs[k]'(by have := h.len; omega)) := List.getElem?_eq_getElem _
  exact ⟨g, o, e, hl, by rw [List.getD_eq_getElem?_getD, hx]; exact hc k _ hx⟩
theorem Own.slb {B : Nat} {e : TypeId} (h : Own w B e s enc A n c xs) (henc : ∀ x : α, (enc x).length = s) : Slb w s enc A n xs := by
  refine ⟨h.len, fun hn => ?_⟩
  obtain ⟨g, cap, hv, _, hlt⟩ := h.row.form hn
  have hA : A = some ⟨g, 0, none⟩ := by injection hv
  subst hA
  exact ⟨g, 0, rfl, hlt, fun i x hx j v hv => by
    have := h.row.cells (g := g) rfl _ _ (getElem?_flat henc xs i x hx j v hv)
    rw [addr0] at this
    rw [Nat.zero_add]; exact this⟩
theorem Slb.sl (h : Slb w s enc A n xs) : Sl w s enc A n xs := by
  refine ⟨h.len, fun hn => ?_⟩
  obtain ⟨g, o, e, hl, hc⟩ := h.rd hn
  refine ⟨_, e, hl, fun i x hx j u hu => ?_⟩
  have e2 : (⟨g, o, none⟩ : Addr).add (i * s + j) = ⟨g, o + i * s + j, none⟩ := by unfold Addr.add; split <;> simp_all; omega
  rw [e2]
  exact hc i x hx j u hu
theorem Blk.slb {g : Nat} {t : TypeId} (h : Blk w g t (xs.flatMap enc).toArray) (henc : ∀ x : α, (enc x).length = s) (hn : xs.length = n) : Slb w s enc (some ⟨g, 0, none⟩) n xs := by
  refine ⟨hn, fun _ => ⟨g, 0, rfl, h.lt, fun i x hx j u hu => ?_⟩⟩
  rw [Nat.zero_add]
  exact h.cell _ (by simpa using getElem?_flat henc xs i x hx j u hu)
end
abbrev Its (w : World) (A : Option Addr) (n : Nat) (xs : List It) : Prop := Slb w 11 itC A n xs
/-- the texts of items are not too long. -/
def TxOk (x : It) : Prop := x.text.size ≤ 1000000
/-- the units of an item, and the error. -/
def unN (x : It) : Nat := if x.kind = 1 then cntN x.text else 1
def unE (x : It) : Int := if x.kind = 1 then cntE x.text else 0
theorem unN_le {x : It} (h : TxOk x) : unN x ≤ 1000000 := by
  unfold unN TxOk at *
  have := cntN_le x.text
  split <;> omega
theorem Blk.rng {w : World} {g : Nat} {t : TypeId} {l : List Value} (h : Blk w g t l.toArray) : w.rangeAt g 0 l := fun j v hv => by rw [Nat.zero_add]; exact h.cell j (by simpa using hv)
def itZA : Array Value := #[.int .i64 0, .int .i64 0, .int .i64 0, .string ⟨#[]⟩, .slice none 0 0, .int .i64 0, .int .i64 0, .slice none 0 0, .slice none 0 0, .slice none 0 0, .slice none 0 0]
theorem newZ (w : World) : (w.alloc (.cells itZA 102)).heap[w.heap.size]? = some (.cells itZA 102 (0, 0)) := Blk.new w _ _
theorem size_it : (Tryz.prog.info? 102).map (·.size) = some 11 := by kernel_rfl
set_option maxHeartbeats 4000000 in
set_option maxRecDepth 100000 in
theorem units_any (x : It) (w : World) (hx : TxOk x) :
    Calls Tryz.prog 155 #[.agg (itA x)] w fun e w' => e = .returned (.tuple #[.int .i64 (unN x : Nat), .int .i64 (unE x)]) ∧ Below w.heap.size w w' := by
  have B0 := Blk.new w 102 (itA x)
  have hb := alloc1 w (.cells (itA x) 102)
  have q0 : (w.alloc (.cells (itA x) 102)).cell? ⟨w.heap.size, 0, none⟩ = some (.int .i64 x.kind) := B0.cell 0 rfl
  have q3 : (w.alloc (.cells (itA x) 102)).cell? ⟨w.heap.size, 3, none⟩ = some (.string x.text) := B0.cell 3 rfl
  have hc := fun W => count_any x.text W (by unfold TxOk at hx; unfold maxLen; omega)
  have HN := Lib.hid (show unN x = if x.kind = 1 then cntN x.text else 1 from rfl)
  have HE := Lib.hid (show unE x = if x.kind = 1 then cntE x.text else 0 from rfl)
  generalize itA x = xa at *
  generalize x.text = tx at *
  generalize cntN tx = n at *
  generalize cntE tx = e0 at *
  generalize x.kind = k at *
  go_enter Tryz.func155, Tryz.ntmps155
  by_cases hk : k = 1
  · subst hk
    have HN2 := Lib.hid (HN.out.trans (if_pos rfl))
    have HE2 := Lib.hid (HE.out.trans (if_pos rfl))
    go_wp2_with (go_at_call 110; refine (hc _).mono ?_; rintro e w1 ⟨rfl, rfl⟩)
    go_ret2
    exact ⟨by rw [HN2.out, HE2.out]; rfl, hb⟩
  · have HN2 := Lib.hid (HN.out.trans (if_neg hk))
    have HE2 := Lib.hid (HE.out.trans (if_neg hk))
    have hkb : (k == 1) = false := beq_eq_false_iff_ne.2 hk
    go_wp2_with fail
    go_ret2
    exact ⟨by rw [HN2.out, HE2.out]; rfl, hb⟩
/-- the units of items, and whether all their texts are right. -/
def lenN (xs : List It) : Nat := (xs.map unN).sum
def okI (xs : List It) : Bool := xs.all fun x => unE x == 0
def lenV (xs : List It) : Nat := if okI xs = true then lenN xs else 0
def lenE (xs : List It) : Int := if okI xs = true then 0 else 12
theorem lenN_take {xs : List It} {i : Nat} (h : i < xs.length) : lenN (xs.take (i + 1)) = lenN (xs.take i) + unN (gIt xs i) := by
  have hg : gIt xs i = xs[i] := by unfold gIt; rw [List.getD_eq_getElem?_getD, List.getElem?_eq_getElem h]; rfl
  unfold lenN
  rw [hg, List.take_succ_eq_append_getElem h, List.map_append, List.sum_append]
  simp
theorem gIt_mem {xs : List It} {i : Nat} (h : i < xs.length) : gIt xs i ∈ xs := by
  have hg : gIt xs i = xs[i] := by unfold gIt; rw [List.getD_eq_getElem?_getD, List.getElem?_eq_getElem h]; rfl
  rw [hg]; exact List.getElem_mem h
theorem lenN_le : ∀ {xs : List It}, (∀ x ∈ xs, TxOk x) → lenN xs ≤ 1000000 * xs.length
  | [], _ => Nat.le_refl _
  | x :: xs, h => by
    have h1 := lenN_le (xs := xs) fun y hy => h y (List.mem_cons_of_mem _ hy)
    have h2 := unN_le (h x (List.mem_cons_self ..))
    unfold lenN at *
    rw [List.map_cons, List.sum_cons, List.length_cons]
    omega
theorem okI_false {xs : List It} {i : Nat} (h : i < xs.length) (hu : unE (gIt xs i) ≠ 0) : okI xs = false := by
  rw [Bool.eq_false_iff]
  intro hh
  unfold okI at hh
  rw [List.all_eq_true] at hh
  exact hu (by simpa using hh _ (gIt_mem h))
theorem okI_true {xs : List It} (h : ∀ t, t < xs.length → unE (gIt xs t) = 0) : okI xs = true := by
  unfold okI
  rw [List.all_eq_true]
  intro x hx
  obtain ⟨i, hi, rfl⟩ := List.mem_iff_getElem.1 hx
  have := h i hi
  have hg : gIt xs i = xs[i] := by unfold gIt; rw [List.getD_eq_getElem?_getD, List.getElem?_eq_getElem hi]; rfl
  rw [hg] at this
  simpa using this
set_option maxHeartbeats 4000000 in
set_option maxRecDepth 100000 in
theorem len_any (A : Option Addr) (n c : Nat) (xs : List It) (w : World) (ha : Its w A n xs) (hn : n ≤ 1000000) (ht : ∀ x ∈ xs, TxOk x) :
    Calls Tryz.prog 142 #[.slice A n c] w fun e w' => e = .returned (.tuple #[.int .i64 (lenV xs : Nat), .int .i64 (lenE xs)]) ∧ Below w.heap.size w w' := by
  have hl := ha.len
  have HV := Lib.hid (show lenV xs = if okI xs = true then lenN xs else 0 from rfl)
  have HE := Lib.hid (show lenE xs = if okI xs = true then 0 else 12 from rfl)
  have HT := Lib.hid (fun (i : Nat) (h : i < n) => lenN_take (xs := xs) (i := i) (by omega))
  have HF := Lib.hid (fun (i : Nat) (h : i < n) hu => okI_false (xs := xs) (i := i) (by omega) hu)
  have HO := Lib.hid (fun (h : ∀ t, t < n → unE (gIt xs t) = 0) => okI_true (xs := xs) (by rw [hl]; exact h))
  have HM := Lib.hid (fun (i : Nat) (h : i < n) => ht _ (gIt_mem (xs := xs) (i := i) (by omega)))
  have HL := Lib.hid (fun (i : Nat) => show lenN (xs.take i) ≤ 1000000 * 1000000 from Nat.le_trans (lenN_le fun x hx => ht x (List.mem_of_mem_take hx)) (Nat.mul_le_mul_left _ (by rw [List.length_take]; omega)))
  have HW := Lib.hid (show lenN (xs.take n) = lenN xs by rw [← hl, List.take_length])
  go_enter Tryz.func142, Tryz.ntmps142
  go_wp2_with fail
  go_loopw [4, 11] (fun vs vi wr => ∃ i : Nat, vs = .int .i64 (lenN (xs.take i) : Nat) ∧ vi = .int .i64 i ∧ i ≤ n ∧ (∀ t, t < i → unE (gIt xs t) = 0) ∧ Below w.heap.size w wr) (fun _ vi _ => n - (intOf vi).toNat)
  case atStart => exact ⟨0, rfl, rfl, Nat.zero_le _, fun t h => absurd h (Nat.not_lt_zero _), Below.refl _ _⟩
  case round =>
    obtain ⟨i, rfl, rfl, hi, hz, hbw⟩ := hrel
    have HZ := Lib.hid hz
    clear hz
    by_cases hlt : i < n
    · obtain ⟨g, o, e, hg, hr⟩ := (ha.below hbw).at_ itZ hlt
      subst e
      have hT := HT.out i hlt
      have hM := HM.out i hlt
      have hu := fun W => units_any (gIt xs i) W hM
      have hF := HF.out i hlt
      have hM := unN_le hM
      have hL := HL.out i
      rw [show xs.getD i itZ = gIt xs i from rfl] at hr
      have HT2 := Lib.hid hT
      have hsz : (Tryz.prog.info? 102).map (·.size) = some (itC (gIt xs i)).length := size_it
      have ho := itA_one (gIt xs i)
      have HU := Lib.hid (show ∀ e, unE (gIt xs i) = e → e = 0 → ∀ t, t < i + 1 → unE (gIt xs t) = 0 from fun e h1 h2 t ht => by
        rcases (show t < i ∨ t = i by omega) with h | rfl
        · exact HZ.out t h
        · exact h1.trans h2)
      generalize lenN (xs.take i) = s0 at *
      generalize hq : unN (gIt xs i) = u at *
      generalize hqe : unE (gIt xs i) = ue at *
      generalize gIt xs i = x at *
      have hb4z := Lib.hid (alloc1 wr (.cells itZA 102))
      have NZ := newZ wr
      have hb5 := below_setRow hb4z.out (Nat.le_refl _) (itA x)
      have NX := setRow_heap _ _ _ (itA x) _ _ NZ
      go_upto_region 4 with fail
      go_cut [6] (fun v6 wx => ∃ p, v6 = .pointer (some ⟨p, 0, none⟩) ∧ Blk wx p 102 (itA x) ∧ Below wr.heap.size wr wx)
      case first =>
        go_wp2_with (first | (refine wpList_load_mid rfl 102 _ rfl g (o + i * 11) rfl (itC x) _ hr Tryz.underlying102 rfl hsz ?_) | (refine wpList_store_row rfl 102 _ _ rfl wr.heap.size (itA x) rfl rfl 102 _ NZ (by kernel_rfl) rfl ho ?_))
        go_meet
        case rel => exact ⟨_, rfl, NX, hb5⟩
      case rest =>
      obtain ⟨p, rfl, B6, hb6⟩ := hcut
      have hbc := below_trans' hbw hbw.size hb6
      clear hr NZ NX hb5 hb6 hb4z
      have r6 : wc.rangeAt p 0 (itC x) := Blk.rng B6
      have hw1 : IntKind.i64.wrap ((s0 : Int) + (u : Int)) = (s0 : Int) + (u : Int) := IntWalk.i64_in _ (by omega)
      by_cases he : ue = 0
      · subst he
        go_wp2_with (first | (refine wpList_load_mid rfl 102 _ rfl p 0 rfl (itC x) _ r6 Tryz.underlying102 rfl hsz ?_) | (go_at_call 155; refine (hu _).mono ?_; rintro e w3 ⟨rfl, hb3⟩))
        go_roundw
        case measure => rw [intOf, intOf]; omega
        case rel => exact ⟨i + 1, by rw [HT2.out]; simp, by simp, by omega, HU.out _ rfl rfl, below_trans' hbc hbc.size hb3⟩
      · have hF2 := Lib.hid (hF he)
        have HV2 := Lib.hid (HV.out.trans (if_neg (by rw [hF2.out]; simp)))
        have HE2 := Lib.hid (HE.out.trans (if_neg (by rw [hF2.out]; simp)))
        have hkb : (ue == 0) = false := beq_eq_false_iff_ne.2 he
        clear hF
        go_wp2_with (first | (refine wpList_load_mid rfl 102 _ rfl p 0 rfl (itC x) _ r6 Tryz.underlying102 rfl hsz ?_) | (go_at_call 155; refine (hu _).mono ?_; rintro e w3 ⟨rfl, hb3⟩))
        go_ret2
        exact ⟨by rw [HV2.out, HE2.out]; rfl, below_trans' hbc hbc.size hb3⟩
    · have : i = n := by omega
      subst this
      have HO2 := Lib.hid (HO.out HZ.out)
      have HV2 := Lib.hid (HV.out.trans ((if_pos HO2.out).trans HW.out.symm))
      have HE2 := Lib.hid (HE.out.trans (if_pos HO2.out))
      clear HV HE HW
      go_wp2_with fail
      go_ret2
      exact ⟨by rw [HV2.out, HE2.out]; rfl, hbw⟩
end Go.Proofs.YthbodpjkckminaaGreatDoor

namespace Go.Proofs.YthbodpjkckminaaGreatDoor
open Go.RowKit

section
variable {P : Program} {ops : Array Oper} {Q : Exit → Act → World → Prop} {md : Region.Mode} {S : World → Prop}
abbrev FR (l : Nat) : Fence := Fence.wide.inRound l
theorem room_FR (l k : Nat) : (FR l).room k := fun _ h => by simp [Fence.wide] at h
theorem oper_lift {o : Oper} {a : Act} {w : World} {K : Act → World → Prop} (l n : Nat) (hd : ∀ c, o.op ≠ .defer c) (h : o.wp P a w K Q) : o.wpIn (FR l) n P a w K Q := by
  unfold Oper.wp at h
  refine ⟨fun _ _ => trivial, ?_⟩
  rw [show (FR l).round = some l from rfl, Oper.semAt_some l _ _ hd]
  generalize (execOp a.eval o).run P w = r at *
  have hn : (FR l).depth.isSome = true → 1 ≤ n := fun hh => by simp [Fence.wide] at hh
  cases r with
  | ok m w' =>
    cases m with
    | value v => exact h
    | skip => exact h
    | defer d => exact h
    | enter f args => exact ⟨hn, CallsIn.inRound l (callsIn_wide.2 (h.mono fun e w'' he => by cases e <;> exact he))⟩
    | row row args => exact ⟨hn, fun c cs _ => let ⟨v, w'', r, s⟩ := h c cs; ⟨v, w'', r, stepsIn_wide.2 s⟩⟩
    | _ => exact h.elim
  | halt x w' => cases x <;> exact h
def noDefer (o : Oper) : Bool := match o.op with | .defer _ => false | _ => true
theorem noDefer_ne {o : Oper} (h : noDefer o = true) : ∀ c, o.op ≠ .defer c := fun c e => by unfold noDefer at h; rw [e] at h; cases h
theorem noDefer_at {ops : Array Oper} (h : ops.all noDefer = true) {i : Nat} {o : Oper} (ho : ops[i]? = some o) : ∀ c, o.op ≠ .defer c := by
  obtain ⟨hi, he⟩ := Array.getElem?_eq_some_iff.1 ho
  have := (Array.all_eq_true.1 h) i hi
  rw [he] at this
  exact noDefer_ne this
theorem wpAny_lift (l n : Nat) (hQ : ¬ LetsOut Q) (hd : ops.all noDefer = true) : ∀ (fuel : Nat) (listed : Array Bool) (a : Act) (w : World), wpAny P md ops Q fuel listed a w → wpAnyIn (FR l) n P md ops Q fuel listed a w
  | 0, _, _, _, h => h
  | fuel + 1, listed, a, w, h => ⟨h.1, fun i hi => by
    have h2 := h.2 i hi
    unfold wpOp at h2
    unfold wpOpIn
    cases ho : ops[i]? with
    | none =>
      simp only [ho] at h2
      exact wpAny_lift l n hQ hd fuel _ _ _ h2
    | some o =>
      simp only [ho] at h2
      show if Region.wanted o (yielded ops a.tmps) = true then _ else _
      by_cases hw : Region.wanted o (yielded ops a.tmps) = true
      · rw [if_pos hw] at h2 ⊢
        rcases h2 with h1 | ⟨_, h3⟩
        · exact oper_lift l n (noDefer_at hd ho) (Oper.wp_mono (fun a w => wpAny_lift l n hQ hd fuel _ a w) h1)
        · exact absurd h3 hQ
      · rw [if_neg hw] at h2 ⊢
        exact ⟨fun _ _ => trivial, wpAny_lift l n hQ hd fuel _ _ _ h2⟩⟩
/-- it ends as it should, and in no other way. -/
def onlyN (R : Act → World → Prop) (e : Exit) (a : Act) (w : World) : Prop := e = .normal ∧ R a w
theorem onlyN_out (R : Act → World → Prop) : ¬ LetsOut (onlyN R) := fun ⟨_, _, h⟩ => by cases h.1
/-- a region that draws its order, walked by hand outside. -/
theorem wpIn_region_hand {id : Nat} {l : List Oper} {a : Act} {w : World} (r n : Nat) (hm : P.follows .mixedOrders = true) (hd : l.toArray.all noDefer = true) (hS : S w.drew)
    (h : S w.drew → wpAnyH P .any l.toArray (onlyN (Q .normal)) S l.length (Array.replicate l.length false) a w.drew) : (Code.region id l.toArray true).wpIn (FR r) n P Q a w :=
  wpIn_mono (Q := onlyN (Q .normal)) (wpIn_region_any hm (wpAny_lift r n (onlyN_out _) hd _ _ _ _ (wpAny_of_held _ _ _ _ (by simpa using h hS)))) (fun e a w h => by rw [h.1]; exact h.2)
/-- a plain region, walked outside. -/
theorem wpOps_lift (l n : Nat) (hQ : ¬ LetsOut Q) (hd : ops.all noDefer = true) : ∀ (is : List Nat) (a : Act) (w : World), wpOps P ops Q is a w → wpOpsIn (FR l) n P ops Q is a w
  | [], _, _, h => h
  | i :: is, a, w, h => by
    unfold wpOps at h
    unfold wpOpsIn
    cases ho : ops[i]? with
    | none =>
      simp only [ho] at h
      exact wpOps_lift l n hQ hd is _ _ h
    | some o =>
      simp only [ho] at h
      show if Region.wanted o (yielded ops a.tmps) = true then _ else _
      by_cases hw : Region.wanted o (yielded ops a.tmps) = true
      · rw [if_pos hw] at h ⊢
        rcases h with h1 | ⟨_, h3⟩
        · exact oper_lift l n (noDefer_at hd ho) (Oper.wp_mono (fun a w => wpOps_lift l n hQ hd is a w) h1)
        · exact absurd h3 hQ
      · rw [if_neg hw] at h ⊢
        exact ⟨fun _ _ => trivial, wpOps_lift l n hQ hd is _ _ h⟩
theorem wpIn_region_plain {id : Nat} {l : List Oper} {a : Act} {w : World} (r n : Nat) (hd : l.toArray.all noDefer = true) (h : wpList P l.toArray (onlyN (Q .normal)) l a w) : (Code.region id l.toArray false).wpIn (FR r) n P Q a w := by
  refine wpIn_mono (Q := onlyN (Q .normal)) (wpIn_region (wpOps_lift r n (onlyN_out _) hd _ a w ?_)) (fun e a w h => by rw [h.1]; exact h.2)
  rw [List.range_eq_range', ← Array.length_toList, wpOps_eq_wpList l.toArray.toList 0 (by simp)]
  simpa using h
end
end Go.Proofs.YthbodpjkckminaaGreatDoor
