/- The plain law of headings: parents by levels. -/
import Derived.KernelRfl
namespace Go.Proofs.Ytbeollddmglkcaa
/-- the last index below i whose level is lower than x, or -1. -/
def down (g : Nat → Int) (x : Int) : Nat → Int
  | 0 => -1
  | j + 1 => if g j < x then (j : Int) else down g x j
def par (g : Nat → Int) (i : Nat) : Int := down g (g i) i
/-- the stack, its top first, when i headings have been seen. -/
def stk (g : Nat → Int) : Nat → List Nat
  | 0 => []
  | i + 1 => i :: (stk g i).dropWhile (fun j => decide (g i ≤ g j))
def topOf : List Nat → Int
  | [] => -1
  | j :: _ => j
theorem drop_drop (g : Nat → Int) (x y : Int) (h : x ≤ y) : ∀ l : List Nat, (l.dropWhile (fun j => decide (y ≤ g j))).dropWhile (fun j => decide (x ≤ g j)) = l.dropWhile (fun j => decide (x ≤ g j))
  | [] => rfl
  | j :: l => by
    by_cases hj : y ≤ g j
    · rw [List.dropWhile_cons_of_pos (by simpa using hj), List.dropWhile_cons_of_pos (by simp; omega), drop_drop g x y h l]
    · rw [List.dropWhile_cons_of_neg (by simpa using hj)]
theorem top_stk (g : Nat → Int) (x : Int) : ∀ i, topOf ((stk g i).dropWhile (fun j => decide (x ≤ g j))) = down g x i
  | 0 => rfl
  | i + 1 => by
    unfold stk down
    by_cases h : g i < x
    · rw [List.dropWhile_cons_of_neg (by simp; omega), if_pos h]; rfl
    · rw [List.dropWhile_cons_of_pos (by simp; omega), if_neg h, drop_drop g x (g i) (by omega), top_stk g x i]
theorem mem_stk (g : Nat → Int) : ∀ i, ∀ j ∈ stk g i, j < i
  | 0, j, h => by simp [stk] at h
  | i + 1, j, h => by
    unfold stk at h
    rcases List.mem_cons.1 h with rfl | h
    · omega
    · have := mem_stk g i j ((List.dropWhile_sublist _).mem h); omega
theorem len_stk (g : Nat → Int) : ∀ i, (stk g i).length ≤ i
  | 0 => by simp [stk]
  | i + 1 => by
    unfold stk
    have h1 := len_stk g i
    have h2 := (List.dropWhile_sublist (p := fun j => decide (g i ≤ g j)) (l := stk g i)).length_le
    simp only [List.length_cons]; omega
theorem stk_end (g : Nat → Int) (k : Nat) (l : List Nat) (h : l.dropWhile (fun j => decide (g k ≤ g j)) = (stk g k).dropWhile (fun j => decide (g k ≤ g j))) (hl : l = [] ∨ ∃ j l', l = j :: l' ∧ g j < g k) :
    par g k = topOf l ∧ stk g (k + 1) = k :: l := by
  have e : l.dropWhile (fun j => decide (g k ≤ g j)) = l := by
    rcases hl with rfl | ⟨j, l', rfl, hj⟩
    · rfl
    · rw [List.dropWhile_cons_of_neg (by simp; omega)]
  refine ⟨?_, ?_⟩
  · unfold par; rw [← top_stk, ← h, e]
  · show k :: (stk g k).dropWhile _ = _
    rw [← h, e]
theorem down_lt (g : Nat → Int) (x : Int) : ∀ i : Nat, -1 ≤ down g x i ∧ down g x i < i
  | 0 => by simp [down]
  | i + 1 => by
    unfold down
    by_cases h : g i < x
    · rw [if_pos h]; omega
    · rw [if_neg h]; have := down_lt g x i; omega
theorem par_lt (g : Nat → Int) (i : Nat) : -1 ≤ par g i ∧ par g i < i := down_lt g _ i
/-- the end of what belongs to a heading: f steps at most from e on. -/
def upTo (g : Nat → Int) (x : Int) : Nat → Nat → Nat
  | 0, e => e
  | f + 1, e => if x < g e then upTo g x f (e + 1) else e
def scopeEnd (g : Nat → Int) (n k : Nat) : Nat := upTo g (g k) (n - (k + 1)) (k + 1)
def kids (g : Nat → Int) (n : Nat) (p : Int) : List Int := ((List.range n).filter (fun i => par g i == p)).map (fun i : Nat => (i : Int))
/-- the number of headings up to i with the parent p. -/
def cntTo (g : Nat → Int) (p : Int) : Nat → Int
  | 0 => 0
  | i + 1 => cntTo g p i + (if par g i = p then 1 else 0)
def cnt (g : Nat → Int) (i : Nat) : Int := cntTo g (par g i) (i + 1)
def pathF (g : Nat → Int) : Nat → Nat → List Int
  | 0, _ => []
  | f + 1, i => (if par g i < 0 then [] else pathF g f (par g i).toNat) ++ [cnt g i]
def pathOf (g : Nat → Int) (i : Nat) : List Int := pathF g (i + 1) i
theorem pathF_eq (g : Nat → Int) : ∀ f f' i : Nat, i < f → i < f' → pathF g f i = pathF g f' i
  | 0, _, _, h, _ => absurd h (by omega)
  | _ + 1, 0, _, _, h => absurd h (by omega)
  | f + 1, f' + 1, i, h, h' => by
    have hp := par_lt g i
    unfold pathF
    by_cases hn : par g i < 0
    · rw [if_pos hn, if_pos hn]
    · rw [if_neg hn, if_neg hn, pathF_eq g f f' _ (by omega) (by omega)]
theorem pathOf_eq (g : Nat → Int) (i : Nat) : pathOf g i = (if par g i < 0 then [] else pathOf g (par g i).toNat) ++ [cnt g i] := by
  have hp := par_lt g i
  unfold pathOf
  conv => lhs; unfold pathF
  by_cases hn : par g i < 0
  · rw [if_pos hn, if_pos hn]
  · rw [if_neg hn, if_neg hn, pathF_eq g i ((par g i).toNat + 1) _ (by omega) (by omega)]
theorem cntTo_le (g : Nat → Int) (p : Int) : ∀ i : Nat, 0 ≤ cntTo g p i ∧ cntTo g p i ≤ i
  | 0 => by simp [cntTo]
  | i + 1 => by unfold cntTo; have := cntTo_le g p i; split <;> omega
theorem kids_snoc (g : Nat → Int) (n : Nat) (p : Int) : kids g (n + 1) p = kids g n p ++ (if par g n = p then [(n : Int)] else []) := by
  unfold kids
  rw [List.range_succ, List.filter_append, List.map_append]
  by_cases h : par g n = p <;> simp [h]
theorem kids_len (g : Nat → Int) (p : Int) (n : Nat) : (kids g n p).length ≤ n := by
  unfold kids; rw [List.length_map]; have := List.length_filter_le (fun i => par g i == p) (List.range n); simpa using this
def pathI (g : Nat → Int) (i : Int) : List Int := if i < 0 then [] else pathOf g i.toNat
theorem pathI_step (g : Nat → Int) (i : Nat) : pathI g i = pathI g (par g i) ++ [cnt g i] := by
  have e : pathI g i = pathOf g i := by unfold pathI; rw [if_neg (by omega)]; rfl
  rw [e, pathOf_eq]; rfl
theorem pathI_nat (g : Nat → Int) (i : Nat) : pathI g i = pathOf g i := by unfold pathI; rw [if_neg (by omega)]; rfl
def belF (g : Nat → Int) : Nat → Int → Int → Bool
  | 0, _, _ => false
  | f + 1, i, t => i == t || (decide (0 ≤ i) && belF g f (par g i.toNat) t)
def findF (g : Nat → Int) (n : Nat) : List Int → Int → Option Int
  | [], at_ => some at_
  | k :: ks, at_ => if 1 ≤ k ∧ k ≤ (kids g n at_).length then findF g n ks ((kids g n at_).getD (k - 1).toNat 0) else none
def foundI : Option Int → Int
  | none => 0
  | some a => max a 0
def foundB : Option Int → Bool
  | none => false
  | some a => decide (0 ≤ a)
/-- a list of numbers is lexicographically less than another one, from the first place on at which both have a number. -/
def lessF : List Int → List Int → Bool
  | a :: l, b :: m => if a = b then lessF l m else decide (a < b)
  | [], _ :: _ => true
  | _, [] => false
theorem kids_wf (g : Nat → Int) (p : Int) (n : Nat) : ∀ x ∈ kids g n p, 0 ≤ x ∧ x < n := by
  intro x hx
  unfold kids at hx
  simp only [List.mem_map, List.mem_filter, List.mem_range] at hx
  obtain ⟨a, ⟨h, _⟩, rfl⟩ := hx
  omega
theorem pathF_len (g : Nat → Int) : ∀ f i : Nat, (pathF g f i).length ≤ f
  | 0, _ => Nat.le_refl 0
  | f + 1, i => by
    unfold pathF
    rw [List.length_append]
    have := pathF_len g f (par g i).toNat
    split <;> simp <;> omega
theorem pathOf_len (g : Nat → Int) (i : Nat) : (pathOf g i).length ≤ i + 1 := pathF_len g (i + 1) i
theorem down_congr {g h : Nat → Int} (x : Int) : ∀ i, (∀ j, j < i → g j = h j) → down g x i = down h x i
  | 0, _ => rfl
  | i + 1, e => by
    unfold down
    rw [e i (by omega), down_congr x i (fun j hj => e j (by omega))]
theorem par_congr {g h : Nat → Int} {i : Nat} (e : ∀ j, j ≤ i → g j = h j) : par g i = par h i := by
  unfold par; rw [e i (Nat.le_refl _)]; exact down_congr _ i (fun j hj => e j (by omega))
theorem cntTo_congr {g h : Nat → Int} (p : Int) : ∀ i, (∀ j, j < i → g j = h j) → cntTo g p i = cntTo h p i
  | 0, _ => rfl
  | i + 1, e => by
    unfold cntTo
    rw [cntTo_congr p i (fun j hj => e j (by omega)), par_congr (fun j hj => e j (by omega))]
theorem pathF_congr {g h : Nat → Int} : ∀ f i, (∀ j, j ≤ i → g j = h j) → pathF g f i = pathF h f i
  | 0, _, _ => rfl
  | f + 1, i, e => by
    unfold pathF
    have ep := par_congr e
    have hp := par_lt h i
    rw [ep]
    unfold cnt
    rw [ep, cntTo_congr _ (i + 1) (fun j hj => e j (by omega))]
    by_cases hn : par h i < 0
    · rw [if_pos hn, if_pos hn]
    · rw [if_neg hn, if_neg hn, pathF_congr f _ (fun j hj => e j (by omega))]
theorem pathOf_congr {g h : Nat → Int} {i : Nat} (e : ∀ j, j ≤ i → g j = h j) : pathOf g i = pathOf h i := pathF_congr _ i e
/-- the depth of an entry with level x behind the first j ones: dep gives theirs. -/
def depTo (g : Nat → Int) (dep : Nat → Int) (x : Int) : Nat → Int
  | 0 => 1
  | j + 1 => if g j < x then dep j + 1 else depTo g dep x j
theorem depTo_eq (g : Nat → Int) (dep : Nat → Int) (x : Int) : ∀ j, depTo g dep x j = if down g x j < 0 then 1 else dep (down g x j).toNat + 1
  | 0 => rfl
  | j + 1 => by
    unfold depTo down
    by_cases h : g j < x
    · rw [if_pos h, if_pos h, if_neg (by omega)]; rfl
    · rw [if_neg h, if_neg h, depTo_eq g dep x j]
end Go.Proofs.Ytbeollddmglkcaa
