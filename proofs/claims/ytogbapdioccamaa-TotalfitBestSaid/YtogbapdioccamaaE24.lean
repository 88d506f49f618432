/- Lines at right breaks, of what prepare is said to do. -/
import Derived.Test.YtogbapdioccamaaE22
import Derived.Test.YtogbapdioccamaaShelf
namespace Go.Proofs.Ytogbapdioccamaa
open Go.RowKit

theorem gI_getD (xs : List Int) (k : Nat) : xs.getD k 0 = gI xs k := rfl
theorem Sl.cells0 {w : World} {g o n : Nat} {zs : List Int} (h : Sl w 1 intC (some ⟨g, o, none⟩) n zs) : ∀ j, j < zs.length → w.cell? ⟨g, o + j, none⟩ = some (.int .i64 (zs.getD j 0)) := fun j hj => by
  obtain ⟨ad, e, _, r⟩ := h.int (k := j) (by have := h.len; omega)
  injection e with e
  subst e
  rw [gI_getD, ← r]
  unfold Addr.add
  by_cases h0 : j = 0
  · subst h0; rfl
  · rw [if_neg h0]
theorem addk (g o k : Nat) : (⟨g, o, none⟩ : Addr).add k = ⟨g, o + k, none⟩ := by
  unfold Addr.add
  by_cases h0 : k = 0
  · subst h0; rfl
  · rw [if_neg h0]
theorem ints_sorted {l : List Nat} (h : l.Pairwise (· < ·)) : (ints l).Pairwise (· ≤ ·) := by
  unfold ints
  exact List.pairwise_map.2 (h.imp (fun {a b} h => Int.ofNat_le.2 (Nat.le_of_lt h)))
theorem ints_contains {l : List Nat} {x : Nat} : (ints l).contains (x : Int) = decide (x ∈ l) := by
  unfold ints
  by_cases h : x ∈ l
  · rw [decide_eq_true h, List.contains_iff_mem]
    exact List.mem_map.2 ⟨x, h, rfl⟩
  · rw [decide_eq_false h]
    cases hc : (List.map Int.ofNat l).contains (x : Int)
    · rfl
    · rw [List.contains_iff_mem] at hc
      obtain ⟨y, hy, e⟩ := List.mem_map.1 hc
      have : y = x := Int.ofNat.inj e
      subst this
      exact absurd hy h
theorem Rise.pair {bl : List Nat} {n : Nat} (h : Rise bl n) : bl.Pairwise (· < ·) := by
  have hlt : ∀ d i, i + d + 1 < bl.length → gN bl i < gN bl (i + d + 1) := by
    intro d
    induction d with
    | zero => intro i hi; exact h.2 i hi
    | succ d ih => intro i hi; exact Nat.lt_trans (ih i (by omega)) (h.2 (i + d + 1) hi)
  refine List.pairwise_iff_getElem.2 fun i j hi hj hij => ?_
  have e1 := gN_some hi
  have e2 := gN_some hj
  rw [List.getElem?_eq_getElem hi] at e1
  rw [List.getElem?_eq_getElem hj] at e2
  injection e1 with e1
  injection e2 with e2
  rw [e1, e2]
  have := hlt (j - i - 1) i (by omega)
  rw [show i + (j - i - 1) + 1 = j by omega] at this
  exact this
/-- right breaks. -/
structure BrOk (xs : List It) (n : Nat) (bl : List Nat) : Prop where
  rise : Rise bl n
  pos : ∀ b ∈ bl, b ∈ posN xs
  all : ∀ b ∈ posN xs, forcedI (gT xs b) = true → b ∈ bl

set_option maxRecDepth 100000 in
set_option maxHeartbeats 4000000 in
theorem Lines_ok (hp : PrepOk) (A M : Option Addr) (n m K c d cB gB oB : Nat) (bl : List Nat) (xs : List It) (ms : List Int) (w : World) (ha : Sl w 6 itC A n xs) (hm : Sl w 1 intC M m ms) (hB : Sl w 1 intC (some ⟨gB, oB, none⟩) K (ints bl)) (hn : n ≤ 4096) (hmm : m ≤ 4096) (hK : K ≤ 4096)
    (h0 : chkB xs ms = 0) (hb : BrOk xs n bl) :
    Calls Try.prog 30 #[.slice A n c, .slice M m d, .slice (some ⟨gB, oB, none⟩) K cB] w fun e w' => ∃ A' c', e = .returned (.tuple #[.slice A' K c', .int .i64 0]) ∧ Own w' w.heap.size 56 10 lnC A' K c' (linesN xs ms bl K) ∧ Below w.heap.size w w' := by
  have cc := fun w h1 h2 => check_any A M n m c d xs ms w h1 h2 hn hmm
  have G := chkB_good ha.len hm.len hn h0
  have cp := fun w h1 h2 => hp A M n m c d xs ms w h1 h2 ⟨G.n0, hn⟩ G.R
  have co := fun w h => positions_any A n c xs w h hn
  have cl := fun g q w P hB => lines_any g q n m K cB (some ⟨gB, oB, none⟩) bl xs ms w P hB hb.rise hn ⟨G.m0, hmm⟩ hK G.R G.M
  have hlen : bl.length = K := by have := hB.len; simpa [ints] using this
  have hxl := ha.len
  have hLn : (posN xs).length ≤ n := by
    have := posT_len xs xs.length
    unfold posN
    omega
  obtain ⟨hL0, -⟩ := posN_last hxl G.n0 G.F
  have hsort := posN_sorted xs
  have hlt := fun j (h : j < (posN xs).length) => (posN_lt h : gN (posN xs) j < xs.length)
  rw [hxl] at hlt
  have HLB := Lib.hid hlen
  have HXL := Lib.hid hxl
  rw [h0] at cc
  clear h0 hlen hxl
  go_enter Try.func30, Try.ntmps30
  go_upto_region 5 with (first
      | (go_at_call 43; refine (cc _ ha hm).mono ?_; rintro e w1 ⟨rfl, hb1⟩)
      | (go_at_call 41; refine (co _ (ha.below hb1)).mono ?_; rintro e w2 ⟨A2, c2, rfl, ho, hb2⟩))
  obtain ⟨g2, rfl, hg2, _⟩ := ho.form hL0
  have hS := ho.sl intC_len
  have hb9 := below_trans' hb1 hb1.size hb2
  clear ho cc co hb1 hb2
  go_wp2_with fail
  go_loopw [28] (fun vi wr => ∃ k : Nat, k ≤ K ∧ vi = .int .i64 k ∧ Below w2.heap.size w2 wr) (fun vi _ => K - (intOf vi).toNat)
  case atStart => exact ⟨0, Nat.zero_le _, rfl, Below.refl _ _⟩
  case round =>
    obtain ⟨k, hk, rfl, hb3⟩ := hrel
    by_cases hlk : k < K
    · have hBr := (hB.below hb9).below hb3
      obtain ⟨ad, e, hl', r⟩ := hBr.int hlk
      injection e with e
      subst e
      rw [gI_ints (by rw [HLB.out]; exact hlk)] at r
      have hmem := hb.pos (gN bl k) (gN_mem (by rw [HLB.out]; exact hlk))
      have cb := fun w h1 => Try.slices_BinarySearch_int g2 0 (posN xs).length c2 (ints (posN xs)) (gN bl k) w (by rw [ints_len]; exact Nat.le_refl _) (by omega) h1 (by rw [← ints_len, List.take_length]; exact ints_sorted hsort)
      have hct : (ints (posN xs)).contains (gN bl k : Int) = true := by rw [ints_contains]; exact decide_eq_true hmem
      rw [show (ints (posN xs)).take (posN xs).length = ints (posN xs) by rw [← ints_len, List.take_length]] at cb
      rw [hct] at cb
      have hc0 := Sl.cells0 (hS.below hb3)
      clear hmem hct
      rw [addk] at r
      rcases k with _ | k
      · rw [Nat.add_zero] at r
        go_wp2_with (first | (go_at_call 50; refine (cb _ hc0).mono ?_; rintro e w4 ⟨rfl, qq, rfl⟩))
        go_roundw
        case rel => exact ⟨1, by omega, by go_num, below_drewN hb3 _⟩
        case measure => simp [intOf]; omega
      · obtain ⟨ad, e, hl2, rp⟩ := hBr.int (k := k) (by omega)
        injection e with e
        subst e
        rw [gI_ints (by rw [HLB.out]; omega), addk] at rp
        have hrs := hb.rise.2 k (by rw [HLB.out]; omega)
        have hk1 : ((k + 1 : Nat) : Int) - 1 = (k : Int) := by omega
        have hk2 : decide ((gN bl (k + 1) : Int) ≤ (gN bl k : Int)) = false := decide_eq_false (by omega)
        have hk3 : decide (0 < ((k + 1 : Nat) : Int)) = true := decide_eq_true (by omega)
        generalize gN bl (k + 1) = b1 at *
        generalize gN bl k = b2 at *
        go_wp2_with (first | (go_at_call 50; refine (cb _ hc0).mono ?_; rintro e w4 ⟨rfl, qq, rfl⟩))
        go_roundw
        case rel => exact ⟨k + 1 + 1, by omega, by go_num, below_drewN hb3 _⟩
        case measure => simp [intOf]; omega
    · have hkK : k = K := by omega
      subst hkK
      have hb4 := below_trans' hb9 hb9.size hb3
      go_wp2_with fail
      go_loopw [55] (fun vi wx => ∃ j : Nat, j ≤ (posN xs).length ∧ vi = .int .i64 j ∧ Below w.heap.size w wx ∧ Sl wx 1 intC (some ⟨g2, 0, none⟩) (posN xs).length (ints (posN xs))) (fun vi _ => (posN xs).length - (intOf vi).toNat)
      case atStart => exact ⟨0, Nat.zero_le _, rfl, hb4, hS.below hb3⟩
      case round =>
        obtain ⟨j, hj, rfl, hb5, hS5⟩ := hrel
        obtain ⟨wr2, rfl⟩ : ∃ wr2 : World, wr2 = wr := ⟨_, rfl⟩
        clear hS hb3 hb4
        by_cases hjl : j < (posN xs).length
        · have hBr := hB.below hb5
          obtain ⟨ad, e, hl', r⟩ := hS5.int hjl
          injection e with e
          subst e
          rw [gI_ints hjl, add0] at r
          have hmem := gN_mem hjl
          have hall := hb.all (gN (posN xs) j) hmem
          have hbn := hlt j hjl
          have cb := fun w h1 => Try.slices_BinarySearch_int gB oB k cB (ints bl) (gN (posN xs) j) w (by rw [ints_len, HLB.out]; exact Nat.le_refl _) (by omega) h1 (by rw [show k = (ints bl).length by rw [ints_len, HLB.out], List.take_length]; exact ints_sorted hb.rise.pair)
          rw [show (ints bl).take k = ints bl by rw [show k = (ints bl).length by rw [ints_len, HLB.out], List.take_length], ints_contains] at cb
          have hc0 := Sl.cells0 hBr
          obtain ⟨ad2, rfl, hl2, q0, q1, q2, q3, q4, q5⟩ := (ha.below hb5).it hbn
          have cf := forced_any (gT xs (gN (posN xs) j))
          have HHa := Lib.hid ha
          clear hmem
          by_cases hff : (gT xs (gN (posN xs) j)).kind = 3 ∧ (gT xs (gN (posN xs) j)).cost = -10000
          · have h1 := hall (by unfold forcedI; rw [hff.1, hff.2]; rfl)
            rw [decide_eq_true h1] at cb
            rw [decide_eq_true hff] at cf
            clear hff hall h1
            generalize gN (posN xs) j = b at *
            go_wp2_with (first
              | (go_at_call 50; refine (cb _ hc0).mono ?_; rintro e w4 ⟨rfl, qq, rfl⟩)
              | (go_at_call 38; refine (cf _).mono ?_; rintro e w5 ⟨rfl, hb6⟩))
            go_roundw
            case rel => exact ⟨j + 1, by omega, by go_num, below_trans' (below_drewN hb5 _) hb5.size hb6, (hS5.drewN _).below hb6⟩
            case measure => simp [intOf]; omega
          · rw [decide_eq_false hff] at cf
            clear hff hall
            generalize decide (gN (posN xs) j ∈ bl) = found at *
            generalize gN (posN xs) j = b at *
            go_wp2_with (first
              | (go_at_call 50; refine (cb _ hc0).mono ?_; rintro e w4 ⟨rfl, qq, rfl⟩)
              | (go_at_call 38; refine (cf _).mono ?_; rintro e w5 ⟨rfl, hb6⟩))
            go_roundw
            case rel => exact ⟨j + 1, by omega, by go_num, below_trans' (below_drewN hb5 _) hb5.size hb6, (hS5.drewN _).below hb6⟩
            case measure => simp [intOf]; omega
        · as_aux_lemma =>
            go_wp2_with (first
              | (go_at_call 44; refine (cp _ (ha.below hb5) (hm.below hb5)).mono ?_; rintro e w5 ⟨g, q, rfl, hb6, P⟩)
              | (go_at_call 51; refine (cl g q _ P ((hB.below hb5).below hb6)).mono ?_; rintro e w6 ⟨A3, c3, rfl, ho, hb7⟩))
            go_ret2
            exact ⟨A3, c3, rfl, ho.base (Nat.le_trans hb5.size hb6.size), below_trans' (below_trans' hb5 hb5.size hb6) (Nat.le_trans hb5.size hb6.size) hb7⟩
end Go.Proofs.Ytogbapdioccamaa
