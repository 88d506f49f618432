/- solve. -/
import Derived.Test.YtogbapdioccamaaE16
import Derived.Test.YtogbapdioccamaaE18
namespace Go.Proofs.Ytogbapdioccamaa
open Go.RowKit

theorem posN_mem {xs : List It} {k : Nat} : k ∈ posN xs ↔ k < xs.length ∧ posB xs k = true := by unfold posN posT; simp
theorem gN_mem {l : List Nat} {j : Nat} (h : j < l.length) : gN l j ∈ l := List.mem_of_getElem? (gN_some h)
theorem posN_lt {xs : List It} {j : Nat} (h : j < (posN xs).length) : gN (posN xs) j < xs.length := (posN_mem.1 (gN_mem h)).1
theorem posN_sorted (xs : List It) : (posN xs).Pairwise (· < ·) := by unfold posN posT; exact List.Pairwise.filter _ List.pairwise_lt_range
theorem gN_rise {l : List Nat} (hs : l.Pairwise (· < ·)) {i j : Nat} (hij : i < j) (hj : j < l.length) : gN l i < gN l j := by
  have h1 := List.pairwise_iff_getElem.1 hs i j (by omega) hj hij
  have e1 := gN_some (l := l) (k := i) (by omega)
  have e2 := gN_some (l := l) (k := j) hj
  rw [List.getElem?_eq_getElem (by omega)] at e1
  rw [List.getElem?_eq_getElem hj] at e2
  injection e1 with e1
  injection e2 with e2
  rw [← e1, ← e2]
  exact h1
theorem gN_of_mem {l : List Nat} {x : Nat} (h : x ∈ l) : ∃ j, j < l.length ∧ gN l j = x := by
  obtain ⟨j, hj, e⟩ := List.mem_iff_getElem.1 h
  refine ⟨j, hj, ?_⟩
  have e1 := gN_some hj
  rw [List.getElem?_eq_getElem hj] at e1
  injection e1 with e1
  rw [← e1, e]
theorem posN_last {xs : List It} {n : Nat} (hl : xs.length = n) (hn : 0 < n) (hf : forcedI (gT xs (n - 1)) = true) :
    0 < (posN xs).length ∧ ∀ j, j < (posN xs).length → (gN (posN xs) j = n - 1 ↔ j + 1 = (posN xs).length) := by
  have hm : n - 1 ∈ posN xs := by
    refine posN_mem.2 ⟨by omega, ?_⟩
    unfold forcedI at hf
    simp only [Bool.and_eq_true, beq_iff_eq] at hf
    unfold posB
    rw [decide_eq_true hf.1, decide_eq_true (by rw [hf.2]; omega)]
    rfl
  obtain ⟨j, hj, e⟩ := gN_of_mem hm
  have hjl : j + 1 = (posN xs).length := by
    rcases Nat.lt_or_ge (j + 1) (posN xs).length with h | h
    · have h1 := gN_rise (posN_sorted xs) (i := j) (j := (posN xs).length - 1) (by omega) (by omega)
      have h2 := posN_lt (xs := xs) (j := (posN xs).length - 1) (by omega)
      omega
    · omega
  refine ⟨by omega, fun i hi => ⟨fun h => ?_, fun h => ?_⟩⟩
  · rcases Nat.lt_trichotomy i j with h1 | h1 | h1
    · have := gN_rise (posN_sorted xs) h1 hj
      omega
    · omega
    · omega
  · rw [show i = j by omega, e]
/-- the map: what the loops write at one position. -/
def fill (f : Int → Int → Int → Int × Int) (a : Int) (s c : Nat) : Int → Int → Int → Int × Int :=
  fun a' k' c' => if a' = a ∧ 0 ≤ k' ∧ 0 ≤ c' ∧ (k' < s ∧ c' < 4 ∨ k' = s ∧ c' < c) then (0, -1) else f a' k' c'
theorem fill_zero (f : Int → Int → Int → Int × Int) (a : Int) : fill f a 0 0 = f := by
  funext a' k' c'
  unfold fill
  rw [if_neg (by omega)]
theorem fill_next (f : Int → Int → Int → Int × Int) (a : Int) (s : Nat) : fill f a s 4 = fill f a (s + 1) 0 := by
  funext a' k' c'
  unfold fill
  by_cases h : a' = a ∧ 0 ≤ k' ∧ 0 ≤ c' ∧ (k' < (s : Int) ∧ c' < 4 ∨ k' = (s : Int) ∧ c' < ((4 : Nat) : Int))
  · rw [if_pos h, if_pos (by omega)]
  · rw [if_neg h, if_neg (by omega)]
theorem fill_succ (f : Int → Int → Int → Int × Int) (a : Int) (s c : Nat) (hc : c < 4) : upd (fill f a s c) a s c (0, -1) = fill f a s (c + 1) := by
  funext a' k' c'
  unfold upd fill
  by_cases h : a' = a ∧ k' = (s : Int) ∧ c' = (c : Int)
  · rw [if_pos h, if_pos (by omega)]
  · rw [if_neg h]
    by_cases h2 : a' = a ∧ 0 ≤ k' ∧ 0 ≤ c' ∧ (k' < (s : Int) ∧ c' < 4 ∨ k' = (s : Int) ∧ c' < (c : Int))
    · rw [if_pos h2, if_pos (by omega)]
    · rw [if_neg h2, if_neg (by omega)]
theorem Dm_bd {xs : List It} {ms : List Int} {n m : Nat} (hl : xs.length = n) (hml : ms.length = m) (hm : 0 < m) (hn : n ≤ 4096) (hR : ∀ k, k < n → Right 31680 (gT xs k)) (hM : ∀ k, k < m → 1 ≤ gI ms k ∧ gI ms k ≤ 31680) :
    ∀ a k c b, b < n → -200000000 ≤ Dm xs ms a k c b ∧ Dm xs ms a k c b ≤ 50000000000000 := fun _ _ _ b hb =>
  dem_bd (line_ok hl hml hm hb hn hR hM) ⟨(hR b hb).c0, (hR b hb).c1⟩
theorem valS_bd {xs : List It} {ms : List Int} {n m : Nat} (hl : xs.length = n) (hml : ms.length = m) (hm : 0 < m) (hn : n ≤ 4096) (hR : ∀ k, k < n → Right 31680 (gT xs k)) (hM : ∀ k, k < m → 1 ≤ gI ms k ∧ gI ms k ≤ 31680)
    {r : List Nat} (hr : ∀ b ∈ r, b < n) (hrl : r.length ≤ 4096) (a : Int) (k : Nat) (c : Int) : -4000000000000000000 ≤ (valS xs ms r a k c).1 ∧ (valS xs ms r a k c).1 ≤ 4000000000000000000 := by
  have h := scM_bd xs ms (Dm_bd hl hml hm hn hR hM) r a k c none 4096 hr hrl (fun x hx => by cases hx)
  unfold valS
  simp only
  cases hs : scM xs ms r a k c none with
  | none => simp only [cst]; omega
  | some x =>
    have := h x hs
    simp only [cst]
    omega
theorem Sl.drop {α : Type} {w : World} {s : Nat} {enc : α → List Value} {ad : Addr} {n : Nat} {xs : List α} (h : Sl w s enc (some ad) n xs) {k : Nat} (hk : k ≤ n) : Sl w s enc (some (ad.add (k * s))) (n - k) (xs.drop k) := by
  refine ⟨by rw [List.length_drop, h.len], fun hn => ?_⟩
  obtain ⟨ad', e, hl, hc⟩ := h.rd (by omega)
  injection e with e
  subst e
  refine ⟨_, rfl, by rw [block_add]; exact hl, fun i x hx j u hu => ?_⟩
  rw [List.getElem?_drop] at hx
  have := hc (k + i) x hx j u hu
  rw [add_add_, show k * s + (i * s + j) = (k + i) * s + j by rw [Nat.add_mul]; omega]
  exact this
theorem ints_drop (l : List Nat) (k : Nat) : (ints l).drop k = ints (l.drop k) := by unfold ints; rw [List.map_drop]
theorem gN_drop (l : List Nat) (k i : Nat) : gN (l.drop k) i = gN l (k + i) := by unfold gN; rw [List.getD_eq_getElem?_getD, List.getD_eq_getElem?_getD, List.getElem?_drop]
end Go.Proofs.Ytogbapdioccamaa
