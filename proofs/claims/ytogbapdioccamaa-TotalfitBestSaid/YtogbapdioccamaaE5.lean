/- positions. -/
import Derived.Test.YtogbapdioccamaaE4
namespace Go.Proofs.Ytogbapdioccamaa
open Go.RowKit

theorem elemI : Elem Try.prog 23 3 1 8 := Elem.mk Try.underlying23 (z := .int .i64 0) (by kernel_rfl) rfl (by omega)
def posB (xs : List It) (i : Nat) : Bool := (decide ((gT xs i).kind = 3) && decide ((gT xs i).cost < 10000)) || (decide ((gT xs i).kind = 2) && (decide (0 < i) && decide ((gT xs (i - 1)).kind = 1)))
def posT (xs : List It) (k : Nat) : List Nat := (List.range k).filter (posB xs)
def posN (xs : List It) : List Nat := posT xs xs.length
def ints (l : List Nat) : List Int := l.map Int.ofNat
theorem ints_len (l : List Nat) : (ints l).length = l.length := List.length_map ..
theorem ints_snoc (l : List Nat) (k : Nat) : ints (l ++ [k]) = ints l ++ [(k : Int)] := by unfold ints; rw [List.map_append]; rfl
theorem posT_succ (xs : List It) (k : Nat) : posT xs (k + 1) = if posB xs k = true then posT xs k ++ [k] else posT xs k := by
  unfold posT
  rw [List.range_succ, List.filter_append]
  by_cases h : posB xs k = true
  · rw [if_pos h]; simp [h]
  · rw [if_neg h]; simp [h]
theorem posT_len (xs : List It) (k : Nat) : (posT xs k).length ≤ k := by
  have := List.length_filter_le (posB xs) (List.range k)
  rw [List.length_range] at this
  exact this
theorem posT_yes {xs : List It} {k : Nat} (h : posB xs k = true) : posT xs (k + 1) = posT xs k ++ [k] := by rw [posT_succ, if_pos h]
theorem posT_no {xs : List It} {k : Nat} (h : posB xs k = false) : posT xs (k + 1) = posT xs k := by rw [posT_succ, if_neg (by rw [h]; exact Bool.false_ne_true)]
def posI (xs : List It) (i : Int) : Bool := decide (0 ≤ i) && (decide (i < xs.length) && posB xs i.toNat)

set_option maxHeartbeats 2000000 in
theorem positions_any (A : Option Addr) (n c : Nat) (xs : List It) (w : World) (ha : Sl w 6 itC A n xs) (hn : n ≤ 4096) :
    Calls Try.prog 41 #[.slice A n c] w fun e w' => ∃ A' c', e = .returned (.slice A' (posN xs).length c') ∧ Own w' w.heap.size 3 1 intC A' (posN xs).length c' (ints (posN xs)) ∧ Below w.heap.size w w' := by
  have hlen := ha.len
  have HL := Lib.hid hlen
  clear hlen
  go_enter Try.func41, Try.ntmps41
  go_wp2_with fail
  go_loopw [3, 8] (fun vo vi wr => ∃ (k : Nat) (A1 : Option Addr) (c1 : Nat), k ≤ n ∧ vi = .int .i64 k ∧ vo = .slice A1 (posT xs k).length c1 ∧ Own wr w.heap.size 3 1 intC A1 (posT xs k).length c1 (ints (posT xs k)) ∧ Below w.heap.size w wr) (fun _ i _ => n - (intOf i).toNat)
  case atStart => exact ⟨0, none, 0, Nat.zero_le _, rfl, rfl, Own.nil_ _ _ _ _ _, Below.refl _ _⟩
  case round =>
    obtain ⟨k, A1, c1, hk, rfl, rfl, ho, hbw⟩ := hrel
    have hpl := posT_len xs k
    obtain ⟨wo, rfl⟩ : ∃ wo : World, wo = wr := ⟨_, rfl⟩
    by_cases hlt : k < n
    · obtain ⟨ad, rfl, hl, q0, q1, q2, q3, q4, q5⟩ := (ha.below hbw).it hlt
      have HO := Lib.hid ho
      by_cases h3 : (gT xs k).kind = 3
      · by_cases hc : (gT xs k).cost < 10000
        · have hp : posB xs k = true := by unfold posB; rw [decide_eq_true h3, decide_eq_true hc]; rfl
          have HP := Lib.hid (posT_yes hp)
          clear hp
          have hc1 : decide ((gT xs k).cost < 10000) = true := decide_eq_true hc
          rw [h3] at q0
          have H3 := Lib.hid h3
          clear h3
          generalize gT xs k = x at *
          go_wp2_with (at_builtin; refine wpList_push elemI rfl (.tmp 39) (.tmp 41) rfl rfl _ rfl ((ho.alloc _).alloc _) (k : Int) _ rfl (by simp) (intC_one _) rfl (by unfold maxLen; omega) (Nat.le_trans hbw.size (by simp <;> omega)) ?_; intro A3 c3 w3 ho3 hg3 ha3)
          go_roundw
          case rel =>
            refine ⟨k + 1, A3, c3, by omega, by go_num, by rw [HP.out, List.length_append]; rfl, ?_, ((hbw.alloc hbw.size _).alloc (Nat.le_trans hbw.size (by simp)) _).grown hg3 (Nat.le_trans hbw.size (by simp <;> omega)) (fun g hg => (ho.lt g hg).1)⟩
            rw [HP.out, List.length_append, ints_snoc]; exact ho3
          case measure => simp [intOf]; omega
        · have hp : posB xs k = false := by unfold posB; rw [decide_eq_true h3, decide_eq_false hc, decide_eq_false (by omega)]; rfl
          have HP := Lib.hid (posT_no hp)
          clear hp
          have hc1 : decide ((gT xs k).cost < 10000) = false := decide_eq_false hc
          rw [h3] at q0
          have H3 := Lib.hid h3
          clear h3
          generalize gT xs k = x at *
          go_wp2_with fail
          go_roundw
          case rel => exact ⟨k + 1, A1, c1, by omega, by go_num, by rw [HP.out], by rw [HP.out]; exact ho.alloc _, hbw.alloc hbw.size _⟩
          case measure => simp [intOf]; omega
      · have h3' : ((gT xs k).kind == 3) = false := by simpa using h3
        by_cases h2 : (gT xs k).kind = 2
        · by_cases h0 : k = 0
          · have hp : posB xs k = false := by unfold posB; rw [decide_eq_false h3, decide_eq_true h2, decide_eq_false (p := 0 < k) (by omega)]; rfl
            have HP := Lib.hid (posT_no hp)
            clear hp
            rw [h2] at q0
            have H3 := Lib.hid h3
            have H2 := Lib.hid h2
            have hk0 : ¬ 0 < k := by omega
            have hk1 : decide (0 < k) = false := decide_eq_false hk0
            clear h3 h2 h3' h0
            generalize gT xs k = x at *
            go_wp2_with fail
            go_roundw
            case rel => exact ⟨k + 1, A1, c1, by omega, by go_num, by rw [HP.out], by rw [HP.out]; exact ho.alloc _, hbw.alloc hbw.size _⟩
            case measure => simp [intOf]; omega
          · obtain ⟨_, e, hl', r0, _⟩ := (ha.below hbw).it (k := k - 1) (by omega)
            cases e
            have hk1 : ((k : Int) - 1) = ((k - 1 : Nat) : Int) := by omega
            have hk0 : 0 < k := by omega
            have r1 : ∀ o, (wo.alloc o).cell? (ad.add ((k - 1) * 6)) = some (.int .i64 (gT xs (k - 1)).kind) := fun o => (((Below.refl wo.heap.size wo).alloc (Nat.le_refl _) o).cell (p := ad.add ((k - 1) * 6)) (by rw [block_add]; exact hl')).trans r0
            by_cases h1 : (gT xs (k - 1)).kind = 1
            · have hp : posB xs k = true := by unfold posB; rw [decide_eq_true h2, decide_eq_true h1, decide_eq_true (p := 0 < k) (by omega)]; simp
              have HP := Lib.hid (posT_yes hp)
              clear hp
              rw [h2] at q0
              rw [h1] at r1
              have H3 := Lib.hid h3
              have H2 := Lib.hid h2
              have H1 := Lib.hid h1
              clear h3 h2 h1 h3'
              generalize gT xs k = x at *
              go_wp2_with (at_builtin; refine wpList_push elemI rfl (.tmp 39) (.tmp 41) rfl rfl _ rfl ((ho.alloc _).alloc _) (k : Int) _ rfl (by simp) (intC_one _) rfl (by unfold maxLen; omega) (Nat.le_trans hbw.size (by simp <;> omega)) ?_; intro A3 c3 w3 ho3 hg3 ha3)
              go_roundw
              case rel =>
                refine ⟨k + 1, A3, c3, by omega, by go_num, by rw [HP.out, List.length_append]; rfl, ?_, ((hbw.alloc hbw.size _).alloc (Nat.le_trans hbw.size (by simp)) _).grown hg3 (Nat.le_trans hbw.size (by simp <;> omega)) (fun g hg => (ho.lt g hg).1)⟩
                rw [HP.out, List.length_append, ints_snoc]; exact ho3
              case measure => simp [intOf]; omega
            · have hp : posB xs k = false := by unfold posB; rw [decide_eq_false h3, decide_eq_false h1]; simp
              have HP := Lib.hid (posT_no hp)
              clear hp
              have h1' : ((gT xs (k - 1)).kind == 1) = false := by simpa using h1
              rw [h2] at q0
              have H3 := Lib.hid h3
              have H2 := Lib.hid h2
              have H1 := Lib.hid h1
              clear h3 h2 h1 h3'
              generalize gT xs k = x at *
              go_wp2_with fail
              go_roundw
              case rel => exact ⟨k + 1, A1, c1, by omega, by go_num, by rw [HP.out], by rw [HP.out]; exact ho.alloc _, hbw.alloc hbw.size _⟩
              case measure => simp [intOf]; omega
        · have hp : posB xs k = false := by unfold posB; rw [decide_eq_false h3, decide_eq_false h2]; simp
          have HP := Lib.hid (posT_no hp)
          clear hp
          have h2' : ((gT xs k).kind == 2) = false := by simpa using h2
          have H3 := Lib.hid h3
          have H2 := Lib.hid h2
          clear h3 h2
          generalize gT xs k = x at *
          go_wp2_with fail
          go_roundw
          case rel => exact ⟨k + 1, A1, c1, by omega, by go_num, by rw [HP.out], by rw [HP.out]; exact ho.alloc _, hbw.alloc hbw.size _⟩
          case measure => simp [intOf]; omega
    · have : k = n := by omega
      subst this
      go_wp2_with fail
      go_ret
      have e : posN xs = posT xs k := by unfold posN; rw [HL.out]
      exact ⟨A1, c1, by rw [e]; rfl, by rw [e]; exact ho, hbw⟩
end Go.Proofs.Ytogbapdioccamaa
