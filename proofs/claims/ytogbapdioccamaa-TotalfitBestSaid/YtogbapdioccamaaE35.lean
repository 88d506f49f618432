/- The best breaks: what they are among all. Plain. -/
import Derived.Test.YtogbapdioccamaaE21
import Derived.Test.YtogbapdioccamaaE24
namespace Go.Proofs.Ytogbapdioccamaa
open Go.RowKit

section
variable (xs : List It) (ms : List Int)
def cosM (s : List Nat) (a : Int) (k : Nat) (c : Int) : Int := costS (Dm xs ms) (Cm xs ms) s a k c
def seqM (r : List Nat) : List (List Nat) := seqs (fbm xs) r
theorem scan_join (r : List Nat) (a : Int) (k : Nat) (c : Int) : ∀ (acc : Option (Int × Nat)),
    scM xs ms r a k c acc = (match scM xs ms r a k c none with | none => acc | some y => betterC acc y) := by
  induction r with
  | nil => intro acc; rfl
  | cons b r ih =>
    intro acc
    unfold scM at ih ⊢
    unfold scan
    have hj : ∀ (acc : Option (Int × Nat)) (x y : Int × Nat), betterC (betterC acc x) y = betterC acc (if y.1 < x.1 then y else x) := by
      intro acc x y
      cases acc with
      | none =>
        unfold betterC
        by_cases h : y.1 < x.1 <;> simp [h]
      | some z =>
        unfold betterC
        by_cases h1 : x.1 < z.1 <;> by_cases h2 : y.1 < x.1 <;> simp only [h1, h2, if_true, if_false]
        · by_cases h3 : y.1 < z.1
          · simp [h3]
          · omega
        · by_cases h3 : y.1 < z.1
          · omega
          · simp [h3]
    generalize (Dm xs ms a k c b + optC (scan (Dm xs ms) (Cm xs ms) (fbm xs) r b (k + 1) (Cm xs ms a k b) none), b) = X
    by_cases hf : fbm xs b = true
    · rw [if_pos hf, if_pos hf]
      rfl
    · rw [if_neg hf, if_neg hf, ih, ih (betterC none X)]
      cases scan (Dm xs ms) (Cm xs ms) (fbm xs) r a k c none with
      | none => rfl
      | some y =>
        simp only
        rw [hj]
        have e : betterC (betterC none X) y = some (if y.1 < X.1 then y else X) := by
          show (if y.1 < X.1 then some y else some X) = _
          split <;> rfl
        rw [e]
theorem ends_tail {b x : Nat} {r : List Nat} (h : Ends (fbm xs) (b :: x :: r)) : Ends (fbm xs) (x :: r) := h
/-- the search's best is the choices' path. -/
theorem fm_path : ∀ (r : List Nat) (a : Int) (k : Nat) (c : Int), (r = [] ∨ Ends (fbm xs) r) → r.Pairwise (· < ·) →
    fm (fun s => cosM xs ms s a k c) (seqM xs r) none = some (pathM xs ms r a k c, cst (scM xs ms r a k c none))
  | [], a, k, c, _, _ => rfl
  | b :: r, a, k, c, he, hs => by
    have he : Ends (fbm xs) (b :: r) := by rcases he with h | h; cases h; exact h
    have hr2 : r = [] ∨ Ends (fbm xs) r := by
      cases r with
      | nil => exact .inl rfl
      | cons x r => exact .inr he
    obtain ⟨hb, hs2⟩ := List.pairwise_cons.1 hs
    have i1 := fm_path r b (k + 1) (Cm xs ms a k b) hr2 hs2
    have hmap : ∀ x : Acc, fm (fun s => cosM xs ms s a k c) ((seqM xs r).map (b :: ·)) x = better x (b :: pathM xs ms r b (k + 1) (Cm xs ms a k b), Dm xs ms a k c b + cst (scM xs ms r b (k + 1) (Cm xs ms a k b) none)) := fun x => by
      rw [fm_none]
      have := fm_map (fun s => cosM xs ms s a k c) (fun s => cosM xs ms s b (k + 1) (Cm xs ms a k b)) b (Dm xs ms a k c b) (fun s => rfl) (seqM xs r) none
      simp only [Option.map_none] at this
      rw [this, i1]
      rfl
    have hsc : scM xs ms (b :: r) a k c none = if fbm xs b = true then some (Dm xs ms a k c b + cst (scM xs ms r b (k + 1) (Cm xs ms a k b) none), b) else scM xs ms r a k c (some (Dm xs ms a k c b + cst (scM xs ms r b (k + 1) (Cm xs ms a k b) none), b)) := by
      rw [← optC_cst]
      rfl
    have haf : after b (b :: r) = r := by unfold after; rw [if_pos rfl]
    have hone : ∀ v : Int, scM xs ms (b :: r) a k c none = some (v, b) → pathM xs ms (b :: r) a k c = b :: pathM xs ms r b (k + 1) (Cm xs ms a k b) := fun v h => by
      have := path_step xs ms (by simp) h
      simp only at this
      rw [haf] at this
      exact this
    unfold seqM
    rw [seqs, fm_append]
    show fm (fun s => cosM xs ms s a k c) (if fbm xs b = true then [] else seqM xs r) (fm (fun s => cosM xs ms s a k c) ((seqM xs r).map (b :: ·)) none) = _
    rw [hmap]
    by_cases hf : fbm xs b = true
    · rw [if_pos hf]
      rw [if_pos hf] at hsc
      rw [hone _ hsc, hsc]
      rfl
    · rw [if_neg hf]
      rw [if_neg hf] at hsc
      have hr : r ≠ [] := by
        intro e
        subst e
        exact hf he
      have i2 := fm_path r a k c hr2 hs2
      rw [fm_none, i2]
      rw [scan_join xs ms r a k c (some (Dm xs ms a k c b + cst (scM xs ms r b (k + 1) (Cm xs ms a k b) none), b))] at hsc
      obtain ⟨y, hy⟩ : ∃ y, scM xs ms r a k c none = some y := by
        cases r with
        | nil => exact absurd rfl hr
        | cons x r => exact Option.ne_none_iff_exists'.1 (scM_ne xs ms)
      rw [hy] at hsc ⊢
      generalize Dm xs ms a k c b + cst (scM xs ms r b (k + 1) (Cm xs ms a k b) none) = V at hsc ⊢
      simp only [betterC] at hsc
      have hl : joinA (better none (b :: pathM xs ms r b (k + 1) (Cm xs ms a k b), V)) (some (pathM xs ms r a k c, cst (some y))) = if y.1 < V then some (pathM xs ms r a k c, y.1) else some (b :: pathM xs ms r b (k + 1) (Cm xs ms a k b), V) := rfl
      rw [hl]
      by_cases hlt : y.1 < V
      · rw [if_pos hlt] at hsc
        rw [if_pos hlt, hsc]
        have hym : y.2 ∈ r := by
          rcases scM_mem xs ms _ _ _ _ _ _ hy with h | h
          · cases h
          · exact h
        have hne : b ≠ y.2 := by have := hb y.2 hym; omega
        rw [path_step xs ms (by simp) hsc, path_step xs ms hr hy]
        rw [show after y.2 (b :: r) = after y.2 r by rw [after, if_neg hne]]
        rfl
      · rw [if_neg hlt] at hsc
        rw [if_neg hlt, hone _ hsc, hsc]
        rfl
/-- the cost of breaks by line numbers is that of the sequence. -/
theorem cos_costN (bl : List Nat) : ∀ (d j : Nat), d = bl.length - j → j ≤ bl.length → cosM xs ms (bl.drop j) (aAt bl j) j (clAt xs ms bl j) = (List.range d).foldr (fun i t => demAt xs ms bl (j + i) + t) 0
  | 0, j, hd, hj => by
    rw [List.drop_eq_nil_of_le (by omega)]
    rfl
  | d + 1, j, hd, hj => by
    have ih := cos_costN bl d (j + 1) (by omega) (by omega)
    rw [drop_at (by omega), List.range_succ_eq_map, List.foldr_cons, List.foldr_map]
    have e : cosM xs ms (gN bl j :: bl.drop (j + 1)) (aAt bl j) j (clAt xs ms bl j) = demAt xs ms bl j + cosM xs ms (bl.drop (j + 1)) (aAt bl (j + 1)) (j + 1) (clAt xs ms bl (j + 1)) := rfl
    rw [e, ih]
    congr 2
    funext i t
    rw [show j + 1 + i = j + (i + 1) by omega]
/-- a sequence: some of the positions, every forced one. -/
theorem seq_sub : ∀ (r : List Nat) (s : List Nat), s ∈ seqM xs r → s.Sublist r ∧ ∀ b ∈ r, fbm xs b = true → b ∈ s
  | [], s, h => by
    unfold seqM seqs at h
    simp only [List.mem_singleton] at h
    subst h
    exact ⟨List.Sublist.refl _, fun b hb => by simp at hb⟩
  | b :: r, s, h => by
    unfold seqM at h
    rw [seqs, List.mem_append] at h
    rcases h with h | h
    · obtain ⟨s', hs', rfl⟩ := List.mem_map.1 h
      obtain ⟨h1, h2⟩ := seq_sub r s' hs'
      refine ⟨h1.cons_cons b, fun x hx hf => ?_⟩
      rcases List.mem_cons.1 hx with rfl | hx
      · simp
      · simp [h2 x hx hf]
    · by_cases hf : fbm xs b = true
      · rw [if_pos hf] at h
        simp at h
      · rw [if_neg hf] at h
        obtain ⟨h1, h2⟩ := seq_sub r s h
        refine ⟨h1.cons b, fun x hx hfx => ?_⟩
        rcases List.mem_cons.1 hx with rfl | hx
        · exact absurd hfx hf
        · exact h2 x hx hfx
/-- .. and all such are sequences. -/
theorem sub_seq : ∀ (r : List Nat) (s : List Nat), s.Sublist r → (∀ b ∈ r, fbm xs b = true → b ∈ s) → r.Pairwise (· < ·) → s ∈ seqM xs r
  | [], s, h, _, _ => by
    have : s = [] := List.eq_nil_of_sublist_nil h
    subst this
    exact List.mem_singleton.2 rfl
  | b :: r, s, h, hf, hs => by
    obtain ⟨hb, hs2⟩ := List.pairwise_cons.1 hs
    unfold seqM
    rw [seqs, List.mem_append]
    cases h with
    | cons _ h =>
      refine .inr ?_
      have hbs : b ∉ s := fun hm => by have := hb b (h.subset hm); omega
      rw [if_neg (fun hfb => hbs (hf b (by simp) hfb))]
      exact sub_seq r s h (fun x hx hfx => hf x (by simp [hx]) hfx) hs2
    | cons_cons _ h =>
      rename_i s'
      refine .inl (List.mem_map.2 ⟨s', sub_seq r s' h (fun x hx hfx => ?_) hs2, rfl⟩)
      have := hf x (by simp [hx]) hfx
      rcases List.mem_cons.1 this with rfl | h1
      · have := hb x hx; omega
      · exact h1
end
end Go.Proofs.Ytogbapdioccamaa
