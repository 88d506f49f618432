/- The plain law of the best breaks: choices from the end on find the first of the least costs among all sequences. -/
import Derived.IntWalk
namespace Go.Proofs.Ytogbapdioccamaa
section
variable (D : Int → Nat → Int → Nat → Int) (C : Int → Nat → Nat → Int) (fb : Nat → Bool)
/-- the cost of breaks behind a break, for the number of the next line and the class of the last one. -/
def costS : List Nat → Int → Nat → Int → Int
  | [], _, _, _ => 0
  | b :: s, a, k, c => D a k c b + costS s b (k + 1) (C a k b)
/-- all choices among positions, in the order of the search. -/
def seqs : List Nat → List (List Nat)
  | [] => [[]]
  | b :: r => (seqs r).map (b :: ·) ++ (if fb b then [] else seqs r)
abbrev Acc := Option (List Nat × Int)
def better (acc : Acc) (x : List Nat × Int) : Acc := match acc with
  | none => some x
  | some y => if x.2 < y.2 then some x else some y
/-- the first of the least costs. -/
def fm (f : List Nat → Int) : List (List Nat) → Acc → Acc
  | [], acc => acc
  | s :: l, acc => fm f l (better acc (s, f s))
def joinA (acc x : Acc) : Acc := match x with
  | none => acc
  | some y => better acc y
theorem better_join (acc x : Acc) (y : List Nat × Int) : joinA acc (better x y) = better (joinA acc x) y := by
  cases x with
  | none => rfl
  | some z =>
    cases acc with
    | none => by_cases h : y.2 < z.2 <;> simp [joinA, better, h]
    | some v =>
      simp only [joinA, better]
      by_cases h1 : y.2 < z.2 <;> by_cases h2 : z.2 < v.2 <;> simp only [h1, h2, if_true, if_false]
      · by_cases h3 : y.2 < v.2
        · simp [h3]
        · omega
      · by_cases h3 : y.2 < v.2
        · omega
        · simp [h3]
theorem fm_acc (f : List Nat → Int) : ∀ (l : List (List Nat)) (acc x : Acc), fm f l (joinA acc x) = joinA acc (fm f l x)
  | [], _, _ => rfl
  | s :: l, acc, x => by rw [fm, fm, ← better_join, fm_acc f l acc]
theorem fm_none (f : List Nat → Int) (l : List (List Nat)) (acc : Acc) : fm f l acc = joinA acc (fm f l none) := by
  rw [← fm_acc]; rfl
theorem fm_append (f : List Nat → Int) : ∀ (l m : List (List Nat)) (acc : Acc), fm f (l ++ m) acc = fm f m (fm f l acc)
  | [], _, _ => rfl
  | s :: l, m, acc => by rw [List.cons_append, fm, fm, fm_append f l m]
theorem fm_map (f g : List Nat → Int) (b : Nat) (d : Int) (h : ∀ s, f (b :: s) = d + g s) : ∀ (l : List (List Nat)) (acc : Acc),
    fm f (l.map (b :: ·)) (acc.map (fun y => (b :: y.1, d + y.2))) = (fm g l acc).map (fun y => (b :: y.1, d + y.2))
  | [], _ => rfl
  | s :: l, acc => by
    rw [List.map_cons, fm, fm, h, ← fm_map f g b d h l]
    congr 1
    cases acc with
    | none => rfl
    | some y =>
      simp only [better, Option.map_some]
      by_cases hc : g s < y.2
      · rw [if_pos (by omega), if_pos hc]; rfl
      · rw [if_neg (by omega), if_neg hc]; rfl
def optC : Option (Int × Nat) → Int
  | none => 0
  | some x => x.1
def betterC (acc : Option (Int × Nat)) (x : Int × Nat) : Option (Int × Nat) := match acc with
  | none => some x
  | some y => if x.1 < y.1 then some x else some y
/-- the choice of the program: the least cost from a state on, and the next break. -/
def scan : List Nat → Int → Nat → Int → Option (Int × Nat) → Option (Int × Nat)
  | [], _, _, _, acc => acc
  | b :: r, a, k, c, acc =>
    if fb b then betterC acc (D a k c b + optC (scan r b (k + 1) (C a k b) none), b)
    else scan r a k c (betterC acc (D a k c b + optC (scan r b (k + 1) (C a k b) none), b))
/-- what remains behind a position. -/
def after (b : Nat) : List Nat → List Nat
  | [] => []
  | x :: r => if x = b then r else after b r
def pathD : Nat → List Nat → Int → Nat → Int → List Nat
  | 0, _, _, _, _ => []
  | f + 1, r, a, k, c => match scan D C fb r a k c none with
    | none => []
    | some x => x.2 :: pathD f (after x.2 r) x.2 (k + 1) (C a k x.2)
/-- the last position is forced. -/
def Ends : List Nat → Prop
  | [] => False
  | [b] => fb b = true
  | _ :: b :: r => Ends (b :: r)
def hd0 (s : List Nat) : Nat := s.headD 0
/-- what the choices and the search have in common. -/
def Same (x : Acc) (y : Option (Int × Nat)) : Prop := x.map (fun z => (z.2, hd0 z.1)) = y
theorem same_better {x : Acc} {y : Option (Int × Nat)} (h : Same x y) (s : List Nat) (c : Int) : Same (better x (s, c)) (betterC y (c, hd0 s)) := by
  subst h
  cases x with
  | none => rfl
  | some z =>
    unfold Same
    simp only [better, betterC, Option.map_some]
    by_cases hc : c < z.2 <;> simp [hc]
theorem fm_seqs : ∀ (r : List Nat) (a : Int) (k : Nat) (c : Int), (r = [] ∨ Ends fb r) →
    (∃ s v, fm (fun s => costS D C s a k c) (seqs fb r) none = some (s, v) ∧ v = optC (scan D C fb r a k c none) ∧ costS D C s a k c = v) ∧
    (r ≠ [] → ∀ (x : Acc) (y : Option (Int × Nat)), Same x y → Same (fm (fun s => costS D C s a k c) (seqs fb r) x) (scan D C fb r a k c y))
  | [], a, k, c, _ => ⟨⟨[], 0, rfl, rfl, rfl⟩, fun h => absurd rfl h⟩
  | b :: r, a, k, c, he => by
    have he : Ends fb (b :: r) := by rcases he with h | h; cases h; exact h
    have hr : fb b = true ∨ (fb b = false ∧ r ≠ [] ∧ Ends fb r) ∨ True := .inr (.inr trivial)
    have hr2 : r = [] ∨ Ends fb r := by
      cases r with
      | nil => exact .inl rfl
      | cons x r => exact .inr he
    obtain ⟨⟨s, v, h1, h2, h3⟩, _⟩ := fm_seqs r b (k + 1) (C a k b) hr2
    have hmap : ∀ x : Acc, fm (fun s => costS D C s a k c) ((seqs fb r).map (b :: ·)) x = better x (b :: s, D a k c b + v) := fun x => by
      rw [fm_none]
      have := fm_map (fun s => costS D C s a k c) (fun s => costS D C s b (k + 1) (C a k b)) b (D a k c b) (fun s => rfl) (seqs fb r) none
      simp only [Option.map_none] at this
      rw [this, h1]
      rfl
    have hstep : ∀ (x : Acc) (y : Option (Int × Nat)), Same x y → Same (fm (fun s => costS D C s a k c) (seqs fb (b :: r)) x) (scan D C fb (b :: r) a k c y) := by
      intro x y hxy
      rw [seqs, fm_append, hmap, scan, ← h2]
      have hb := same_better hxy (b :: s) (D a k c b + v)
      by_cases hf : fb b = true
      · rw [if_pos hf, if_pos hf]; exact hb
      · rw [if_neg hf, if_neg hf]
        have hne : r ≠ [] := by
          intro e; subst e; exact hf he
        exact (fm_seqs r a k c hr2).2 hne _ _ hb
    have h0 := hstep none none rfl
    refine ⟨?_, fun _ => hstep⟩
    have hmem : ∀ (l : List (List Nat)) (x : Acc), (x ≠ none ∨ l ≠ []) → (∀ z, x = some z → costS D C z.1 a k c = z.2) → ∃ s v, fm (fun s => costS D C s a k c) l x = some (s, v) ∧ costS D C s a k c = v := by
      intro l
      induction l with
      | nil =>
        intro x hx hz
        cases x with
        | none => simp at hx
        | some z => exact ⟨z.1, z.2, rfl, hz z rfl⟩
      | cons s l ih =>
        intro x _ hz
        rw [fm]
        refine ih _ (.inl ?_) ?_
        · cases x with
          | none => simp [better]
          | some z => simp only [better]; split <;> simp
        · intro z hz2
          cases x with
          | none => simp only [better, Option.some.injEq] at hz2; subst hz2; rfl
          | some y =>
            simp only [better] at hz2
            split at hz2
            · injection hz2 with hz2; subst hz2; rfl
            · injection hz2 with hz2; subst hz2; exact hz _ rfl
    have hne : seqs fb (b :: r) ≠ [] := by
      intro e
      have := h1
      rw [seqs] at e
      have := (List.append_eq_nil_iff.1 e).1
      rw [List.map_eq_nil_iff] at this
      rw [this] at h1
      cases h1
    obtain ⟨s', v', e1, e2⟩ := hmem (seqs fb (b :: r)) none (.inr hne) (fun z hz => by cases hz)
    refine ⟨s', v', e1, ?_, e2⟩
    rw [e1] at h0
    rw [← h0]; rfl
/-- the least cost is that of some sequence, and no other is smaller. -/
theorem fm_le (f : List Nat → Int) : ∀ (l : List (List Nat)) (acc : Acc) (s : List Nat) (v : Int), fm f l acc = some (s, v) → (∀ z, acc = some z → v ≤ z.2) ∧ ∀ t ∈ l, v ≤ f t
  | [], acc, s, v, h => by rw [fm] at h; subst h; exact ⟨fun z hz => by injection hz with hz; subst hz; exact Int.le_refl _, fun t ht => by simp at ht⟩
  | x :: l, acc, s, v, h => by
    rw [fm] at h
    obtain ⟨h1, h2⟩ := fm_le f l _ s v h
    have hb : ∃ z, better acc (x, f x) = some z ∧ z.2 ≤ f x ∧ ∀ y, acc = some y → z.2 ≤ y.2 := by
      cases acc with
      | none => exact ⟨_, rfl, Int.le_refl _, fun y hy => by cases hy⟩
      | some y =>
        simp only [better]
        by_cases hc : f x < y.2
        · rw [if_pos hc]; exact ⟨_, rfl, Int.le_refl _, fun y' hy => by injection hy with hy; subst hy; simp only; omega⟩
        · rw [if_neg hc]; exact ⟨_, rfl, by omega, fun y' hy => by injection hy with hy; subst hy; exact Int.le_refl _⟩
    obtain ⟨z, e, hz1, hz2⟩ := hb
    have hv := h1 z e
    refine ⟨fun y hy => Int.le_trans hv (hz2 y hy), fun t ht => ?_⟩
    rcases List.mem_cons.1 ht with rfl | ht
    · omega
    · exact h2 t ht
end
end Go.Proofs.Ytogbapdioccamaa
