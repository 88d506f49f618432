/- checkBreaks of the model. -/
import Derived.Test.YtogbapdioccamaaE24
namespace Go.Proofs.Ytogbapdioccamaa
open Go.RowKit

/-- break i is wrong by itself or against the one before. -/
def badB (xs : List It) (bs : List Int) (i : Nat) : Bool := !posI xs (gI bs i) || (decide (0 < i) && decide (gI bs i ≤ gI bs (i - 1)))
def missB (xs : List It) (bs : List Int) (i : Nat) : Bool := forI xs (i : Int) && !decide ((i : Int) ∈ bs)
/-- the first error of breaks. -/
def brk (xs : List It) (bs : List Int) : Int :=
  match (List.range bs.length).find? (badB xs bs) with
  | some i => if posI xs (gI bs i) = false then 2 else 6
  | none => if (List.range xs.length).any (missB xs bs) = true then 38 else 0
theorem find_range {p : Nat → Bool} {n k : Nat} (hk : k < n) (h0 : ∀ j, j < k → p j = false) (h1 : p k = true) : (List.range n).find? p = some k := by
  rw [List.find?_eq_some_iff_append]
  refine ⟨h1, List.range k, (List.range (n - k - 1)).map (· + (k + 1)), ?_, fun a ha => by simp [h0 a (List.mem_range.1 ha)]⟩
  refine List.ext_getElem? fun i => ?_
  rw [List.getElem?_append]
  by_cases hi : i < k
  · rw [if_pos (by simpa using hi), List.getElem?_range (by omega), List.getElem?_range hi]
  · rw [if_neg (by simpa using hi)]
    simp only [List.length_range]
    rcases hd : i - k with _ | d
    · have : i = k := by omega
      subst this
      rw [List.getElem?_range hk]
      rfl
    · rw [List.getElem?_cons_succ, List.getElem?_map]
      by_cases hin : i < n
      · rw [List.getElem?_range hin, List.getElem?_range (by omega)]
        simp only [Option.map_some, Option.some.injEq]
        omega
      · rw [List.getElem?_eq_none (by simp; omega), List.getElem?_eq_none (by simp; omega)]
        rfl
theorem find_range_none {p : Nat → Bool} {n : Nat} (h0 : ∀ j, j < n → p j = false) : (List.range n).find? p = none := List.find?_eq_none.2 fun a ha => by simp [h0 a (List.mem_range.1 ha)]
theorem brk_two {xs : List It} {bs : List Int} {k : Nat} (hk : k < bs.length) (h0 : ∀ j, j < k → badB xs bs j = false) (h : posI xs (gI bs k) = false) : brk xs bs = 2 := by
  unfold brk
  rw [find_range hk h0 (by unfold badB; rw [h]; rfl)]
  simp only
  rw [if_pos h]
theorem brk_six {xs : List It} {bs : List Int} {k : Nat} (hk : k < bs.length) (h0 : ∀ j, j < k → badB xs bs j = false) (h : posI xs (gI bs k) = true) (hk0 : 0 < k) (hle : gI bs k ≤ gI bs (k - 1)) : brk xs bs = 6 := by
  unfold brk
  rw [find_range hk h0 (by unfold badB; rw [h, decide_eq_true hk0, decide_eq_true hle]; rfl)]
  simp only
  rw [if_neg (by rw [h]; simp)]
theorem brk_state {xs : List It} {bs : List Int} {i : Nat} (h0 : ∀ j, j < bs.length → badB xs bs j = false) (hi : i < xs.length) (h : missB xs bs i = true) : brk xs bs = 38 := by
  unfold brk
  rw [find_range_none h0]
  simp only
  rw [if_pos (List.any_eq_true.2 ⟨i, List.mem_range.2 hi, h⟩)]
theorem brk_zero {xs : List It} {bs : List Int} (h0 : ∀ j, j < bs.length → badB xs bs j = false) (h : ∀ i, i < xs.length → missB xs bs i = false) : brk xs bs = 0 := by
  unfold brk
  rw [find_range_none h0]
  simp only
  rw [if_neg]
  intro h1
  obtain ⟨i, hi, h2⟩ := List.any_eq_true.1 h1
  rw [h i (List.mem_range.1 hi)] at h2
  cases h2
theorem badB_no {xs : List It} {bs : List Int} {k : Nat} (h : posI xs (gI bs k) = true) (h2 : k = 0 ∨ gI bs (k - 1) < gI bs k) : badB xs bs k = false := by
  unfold badB
  rw [h]
  rcases h2 with rfl | h2
  · rfl
  · rw [decide_eq_false (p := gI bs k ≤ gI bs (k - 1)) (by omega)]; simp
theorem badB_ok {xs : List It} {bs : List Int} {k : Nat} (h : badB xs bs k = false) : posI xs (gI bs k) = true ∧ (0 < k → gI bs (k - 1) < gI bs k) := by
  unfold badB at h
  simp only [Bool.or_eq_false_iff, Bool.not_eq_false', Bool.and_eq_false_iff, decide_eq_false_iff_not] at h
  refine ⟨h.1, fun hk => ?_⟩
  rcases h.2 with h2 | h2
  · exact absurd hk h2
  · omega
/-- rising: of two, the later is greater. -/
theorem rise_lt {xs : List It} {bs : List Int} (h0 : ∀ j, j < bs.length → badB xs bs j = false) {i : Nat} : ∀ {j : Nat}, i < j → j < bs.length → gI bs i < gI bs j
  | 0, h, _ => by omega
  | j + 1, h, hj => by
    have h1 := (badB_ok (h0 (j + 1) hj)).2 (by omega)
    rw [Nat.add_sub_cancel] at h1
    by_cases e : i = j
    · subst e; exact h1
    · exact Int.lt_trans (rise_lt h0 (j := j) (by omega) (by omega)) h1
theorem mem_gI {bs : List Int} {x : Int} : x ∈ bs ↔ ∃ k, k < bs.length ∧ gI bs k = x := by
  constructor
  · intro h
    obtain ⟨k, hk, e⟩ := List.mem_iff_getElem.1 h
    refine ⟨k, hk, ?_⟩
    have := gI_some hk
    rw [List.getElem?_eq_getElem hk] at this
    injection this with this
    rw [← this, e]
  · rintro ⟨k, hk, rfl⟩
    exact List.mem_of_getElem? (gI_some hk)
/-- with all before k below i and the k-th from i on, i is a break just if it is the k-th. -/
theorem mem_at {xs : List It} {bs : List Int} (h0 : ∀ j, j < bs.length → badB xs bs j = false) {k : Nat} {i : Int} (h1 : ∀ j, j < k → gI bs j < i) (h2 : k < bs.length → i ≤ gI bs k) : i ∈ bs ↔ (k < bs.length ∧ gI bs k = i) := by
  rw [mem_gI]
  constructor
  · rintro ⟨j, hj, e⟩
    rcases Nat.lt_trichotomy j k with h | h | h
    · have := h1 j h; omega
    · subst h; exact ⟨hj, e⟩
    · have := rise_lt h0 h hj
      have := h2 (by omega)
      omega
  · rintro ⟨h, e⟩
    exact ⟨k, h, e⟩
end Go.Proofs.Ytogbapdioccamaa
