/- Words, plain: no line overfull, each box in one line, one line for a wide measure. -/
import Derived.Test.YtogbapdioccamaaE38
namespace Go.Proofs.Ytogbapdioccamaa
open Go.RowKit

theorem gT_left {l r : List It} {i : Nat} (h : i < l.length) : gT (l ++ r) i = gT l i := by
  unfold gT; rw [List.getD_eq_getElem?_getD, List.getD_eq_getElem?_getD, List.getElem?_append_left h]
theorem gT_right {l r : List It} {i : Nat} (h : l.length ≤ i) : gT (l ++ r) i = gT r (i - l.length) := by
  unfold gT; rw [List.getD_eq_getElem?_getD, List.getD_eq_getElem?_getD, List.getElem?_append_right h]
def gluL : It := ⟨2, 0, 1000, 0, 0, false⟩
def penL : It := ⟨3, 0, 0, 0, -10000, false⟩
section
variable (ws : List Int)
theorem wp_len : ∀ k, (wordsP ws (k + 1)).length = 2 * k + 1
  | 0 => rfl
  | k + 1 => by
    rw [wordsP, if_pos (Nat.succ_pos k), List.length_append, wp_len k]
    simp only [List.length_cons, List.length_nil]
    omega
theorem wp_box : ∀ k i, i ≤ k → gT (wordsP ws (k + 1)) (2 * i) = boxI (gI ws i)
  | 0, i, h => by
    obtain rfl : i = 0 := by omega
    rfl
  | k + 1, i, h => by
    rw [wordsP, if_pos (Nat.succ_pos k)]
    rcases Nat.lt_or_ge k i with h1 | h1
    · obtain rfl : i = k + 1 := by omega
      rw [gT_right (by rw [wp_len]; omega), wp_len, show 2 * (k + 1) - (2 * k + 1) = 1 by omega]
      rfl
    · rw [gT_left (by rw [wp_len]; omega)]
      exact wp_box k i h1
theorem wp_glue : ∀ k i, i < k → gT (wordsP ws (k + 1)) (2 * i + 1) = glueI
  | 0, i, h => by omega
  | k + 1, i, h => by
    rw [wordsP, if_pos (Nat.succ_pos k)]
    rcases Nat.lt_or_ge i k with h1 | h1
    · rw [gT_left (by rw [wp_len]; omega)]
      exact wp_glue k i h1
    · obtain rfl : i = k := by omega
      rw [gT_right (by rw [wp_len]; omega), wp_len, show 2 * i + 1 - (2 * i + 1) = 0 by omega]
      rfl
section
variable {ws : List Int} {K : Nat} (hK : ws.length = K + 1)
include hK
theorem wf_len : (wordsF ws).length = 2 * K + 3 := by
  unfold wordsF; rw [hK, List.length_append, wp_len]; rfl
theorem wf_box {i : Nat} (h : i ≤ K) : gT (wordsF ws) (2 * i) = boxI (gI ws i) := by
  unfold wordsF; rw [hK, gT_left (by rw [wp_len]; omega), wp_box ws K i h]
theorem wf_glue {i : Nat} (h : i < K) : gT (wordsF ws) (2 * i + 1) = glueI := by
  unfold wordsF; rw [hK, gT_left (by rw [wp_len]; omega), wp_glue ws K i h]
theorem wf_glu : gT (wordsF ws) (2 * K + 1) = gluL := by
  unfold wordsF; rw [hK, gT_right (by rw [wp_len]; omega), wp_len, Nat.sub_self]; rfl
theorem wf_pen : gT (wordsF ws) (2 * K + 2) = penL := by
  unfold wordsF; rw [hK, gT_right (by rw [wp_len]; omega), wp_len, show 2 * K + 2 - (2 * K + 1) = 1 by omega]; rfl
end
/-- what an item of words is. -/
def WIt (x : It) : Prop := x = glueI ∨ x = gluL ∨ x = penL ∨ ∃ w, 1 ≤ w ∧ w ≤ 100 ∧ x = boxI w
theorem wp_all (h : ∀ k, k < ws.length → 1 ≤ gI ws k ∧ gI ws k ≤ 100) : ∀ k, k ≤ ws.length → ∀ x ∈ wordsP ws k, WIt x
  | 0, _, x, hx => by simp [wordsP] at hx
  | k + 1, hk, x, hx => by
    rw [wordsP, List.mem_append] at hx
    rcases hx with hx | hx
    · exact wp_all h k (by omega) x hx
    · have hw := h k (by omega)
      split at hx
      · simp only [List.mem_cons, List.not_mem_nil, or_false] at hx
        rcases hx with rfl | rfl
        · exact .inl rfl
        · exact .inr (.inr (.inr ⟨_, hw.1, hw.2, rfl⟩))
      · simp only [List.mem_cons, List.not_mem_nil, or_false] at hx
        subst hx
        exact .inr (.inr (.inr ⟨_, hw.1, hw.2, rfl⟩))
theorem wf_all (h : ∀ k, k < ws.length → 1 ≤ gI ws k ∧ gI ws k ≤ 100) (x : It) (hx : x ∈ wordsF ws) : WIt x := by
  unfold wordsF lastI at hx
  rw [List.mem_append] at hx
  rcases hx with hx | hx
  · exact wp_all ws h _ (Nat.le_refl _) x hx
  · simp only [List.mem_cons, List.not_mem_nil, or_false] at hx
    rcases hx with rfl | rfl
    · exact .inr (.inl rfl)
    · exact .inr (.inr (.inl rfl))
end
theorem wit_err {x : It} (h : WIt x) : err x = 0 := by
  rcases h with rfl | rfl | rfl | ⟨w, h1, h2, rfl⟩
  · rfl
  · rfl
  · rfl
  · unfold err errI boxI
    simp only
    rw [if_neg (by omega), if_neg (by simp), if_neg (by omega), if_neg (by omega), if_neg (by omega)]
theorem wit_cost {x : It} (h : WIt x) : costE x = 0 := by
  rcases h with rfl | rfl | rfl | ⟨w, h1, h2, rfl⟩ <;> rfl
theorem wit_right {x : It} (h : WIt x) : 0 ≤ wOf x ∧ 0 ≤ x.stretch := by
  rcases h with rfl | rfl | rfl | ⟨w, h1, h2, rfl⟩
  · exact ⟨by decide, by decide⟩
  · exact ⟨by decide, by decide⟩
  · exact ⟨by decide, by decide⟩
  · refine ⟨?_, Int.le_refl _⟩
    show 0 ≤ (if (boxI w).kind = 3 then 0 else (boxI w).width)
    rw [if_neg (by show ¬ (1 : Int) = 3; omega)]
    show 0 ≤ w
    omega
theorem wf_last (ws : List Int) : 0 < (wordsF ws).length ∧ gT (wordsF ws) ((wordsF ws).length - 1) = penL := by
  unfold wordsF
  have h : (wordsP ws ws.length ++ lastI).length = (wordsP ws ws.length).length + 2 := by rw [List.length_append]; rfl
  rw [h]
  refine ⟨by omega, ?_⟩
  rw [gT_right (by omega), show (wordsP ws ws.length).length + 2 - 1 - (wordsP ws ws.length).length = 1 by omega]
  rfl
section
variable {ws : List Int} (hw : ∀ k, k < ws.length → 1 ≤ gI ws k ∧ gI ws k ≤ 100)
include hw
theorem wf_chk : chk (wordsF ws) = 0 := by
  obtain ⟨h1, h2⟩ := wf_last ws
  rw [chk_end (by omega) (fun j hj => wit_err (wf_all ws hw _ (gT_mem hj))), h2]
  rfl
theorem wf_chkB {m : Int} (h1 : 1 ≤ m) (h2 : m ≤ 31680) : chkB (wordsF ws) [m] = 0 := by
  unfold chkB
  rw [if_neg (by rw [wf_chk hw]; simp)]
  unfold chkM
  rw [if_neg (by simp), if_neg (by simp)]
  unfold fstM fstM
  rw [if_neg (by omega)]
end
theorem meas_one (m : Int) (k : Nat) : measOf [m] k = m := by
  unfold measOf
  rw [show min k ([m].length - 1) = 0 by simp]
  rfl
/-- lines that are not too wide are not overfull. -/
theorem over_zero {xs : List It} {m a : Int} {b k : Nat} (h : widthOf xs (fromOf xs a b) b ≤ m) : ¬ 0 < (lineF xs [m] a b k).over := by
  show ¬ 0 < overOf (measOf [m] k - _) _
  rw [meas_one]
  unfold overOf
  rw [if_neg (by omega)]
  omega
theorem ovC_zero {xs : List It} {ms : List Int} {bl : List Nat} : ∀ (K : Nat), (∀ k, k < K → ¬ 0 < (lnAt xs ms bl k).over) → ovC (linesN xs ms bl K) = 0
  | 0, _ => rfl
  | K + 1, h => by rw [ovC_lines, if_neg (h K (by omega)), ovC_zero K (fun k hk => h k (by omega))]
section
variable {ws : List Int} (hw : ∀ k, k < ws.length → 1 ≤ gI ws k ∧ gI ws k ≤ 100)
theorem start_here {xs : List It} {i : Nat} (hi : i < xs.length) (h : (gT xs i).kind = 1 ∨ forcedI (gT xs i) = true) : start xs i = i := by
  unfold start
  obtain ⟨f, hf⟩ : ∃ f, xs.length - i = f + 1 := ⟨xs.length - i - 1, by omega⟩
  rw [hf]
  unfold startF
  rw [if_pos h]
theorem sum_one (f : It → Int) (xs : List It) (i : Nat) : sumTo f xs (i + 1) - sumTo f xs i = f (gT xs i) := by
  show sumTo f xs i + f (gT xs i) - sumTo f xs i = _
  omega
theorem wf_posB {K i : Nat} (hK : ws.length = K + 1) : (i ≤ K → posB (wordsF ws) (2 * i) = false ∧ posB (wordsF ws) (2 * i + 1) = true) ∧ posB (wordsF ws) (2 * K + 2) = true := by
  refine ⟨fun hi => ⟨?_, ?_⟩, ?_⟩
  · unfold posB
    rw [wf_box hK hi]
    rfl
  · unfold posB
    have e : (gT (wordsF ws) (2 * i + 1)).kind = 2 := by
      rcases Nat.lt_or_ge i K with h | h
      · rw [wf_glue hK h]; rfl
      · obtain rfl : i = K := by omega
        rw [wf_glu hK]; rfl
    rw [e, Nat.add_sub_cancel, wf_box hK hi, decide_eq_true (show 0 < 2 * i + 1 by omega)]
    rfl
  · unfold posB
    rw [wf_pen hK]
    rfl
theorem wf_posT {K : Nat} (hK : ws.length = K + 1) : ∀ i, i ≤ K + 1 → posT (wordsF ws) (2 * i) = (List.range i).map (fun j => 2 * j + 1)
  | 0, _ => rfl
  | i + 1, hi => by
    have h := (wf_posB (i := i) hK).1 (by omega)
    rw [show 2 * (i + 1) = 2 * i + 1 + 1 by omega, posT_yes h.2, posT_no h.1, wf_posT hK i (by omega), List.range_succ, List.map_append]
    rfl
theorem wf_posN {K : Nat} (hK : ws.length = K + 1) : posN (wordsF ws) = (List.range (K + 1)).map (fun j => 2 * j + 1) ++ [2 * K + 2] := by
  unfold posN
  rw [wf_len hK, posT_yes (wf_posB (i := 0) hK).2, show 2 * K + 2 = 2 * (K + 1) by omega, wf_posT hK _ (Nat.le_refl _)]
theorem wf_gN {K i : Nat} (hK : ws.length = K + 1) : (i ≤ K → gN (posN (wordsF ws)) i = 2 * i + 1) ∧ gN (posN (wordsF ws)) (K + 1) = 2 * K + 2 ∧ (posN (wordsF ws)).length = K + 2 := by
  rw [wf_posN hK]
  unfold gN
  refine ⟨fun hi => ?_, ?_, ?_⟩
  · rw [List.getD_eq_getElem?_getD, List.getElem?_append_left (by simp; omega), List.getElem?_map, List.getElem?_range (by omega)]
    rfl
  · rw [List.getD_eq_getElem?_getD, List.getElem?_append_right (by simp)]
    simp
  · simp
include hw
/-- the widest breaks: every position: no line is overfull. -/
theorem wf_over {m : Int} (hm : 100 ≤ m) : ∀ k, k < (posN (wordsF ws)).length → ¬ 0 < (lnAt (wordsF ws) [m] (posN (wordsF ws)) k).over := by
  intro k hk
  rcases Nat.eq_zero_or_pos ws.length with h0 | h0
  · obtain rfl : ws = [] := List.eq_nil_of_length_eq_zero h0
    have e : posN (wordsF []) = [1] := rfl
    rw [e] at hk ⊢
    obtain rfl : k = 0 := by simpa using hk
    refine over_zero ?_
    have e2 : widthOf (wordsF []) (fromOf (wordsF []) (aAt [1] 0) (gN [1] 0)) (gN [1] 0) = 0 := rfl
    rw [e2]
    omega
  · obtain ⟨K, hK⟩ : ∃ K, ws.length = K + 1 := ⟨ws.length - 1, by omega⟩
    obtain ⟨h1, h2, h3⟩ := wf_gN (i := k) hK
    rw [h3] at hk
    refine over_zero ?_
    rcases Nat.lt_or_ge k (K + 1) with hlt | hge
    · rw [h1 (by omega)]
      have hf : fromOf (wordsF ws) (aAt (posN (wordsF ws)) k) (2 * k + 1) = 2 * k := by
        unfold fromOf aAt
        by_cases hk0 : k = 0
        · rw [if_pos hk0, if_neg (by omega), hk0]
        · rw [if_neg hk0, if_pos (by omega), (wf_gN (i := k - 1) hK).1 (by omega), show (((2 * (k - 1) + 1 : Nat) : Int) + 1).toNat = 2 * k by omega, start_here (by rw [wf_len hK]; omega) (.inl (by rw [wf_box hK (by omega)]; rfl))]
          omega
      rw [hf]
      have hkk : ¬ (gT (wordsF ws) (2 * k + 1)).kind = 3 := by
        rcases Nat.lt_or_ge k K with h | h
        · rw [wf_glue hK h]; show ¬ (2 : Int) = 3; omega
        · obtain rfl : k = K := by omega
          rw [wf_glu hK]; show ¬ (2 : Int) = 3; omega
      unfold widthOf
      rw [if_neg hkk, sum_one, wf_box hK (by omega)]
      have := (hw k (by omega)).2
      show (gI ws k : Int) + 0 ≤ m
      omega
    · obtain rfl : k = K + 1 := by omega
      rw [h2]
      have hf : fromOf (wordsF ws) (aAt (posN (wordsF ws)) (K + 1)) (2 * K + 2) = 2 * K + 2 := by
        have ea : aAt (posN (wordsF ws)) (K + 1) = ((2 * K + 1 : Nat) : Int) := by
          unfold aAt
          rw [if_neg (by omega), Nat.add_sub_cancel, (wf_gN (i := K) hK).1 (Nat.le_refl _)]
        unfold fromOf
        rw [ea, if_pos (by omega), show (((2 * K + 1 : Nat) : Int) + 1).toNat = 2 * K + 2 by omega]
        have := start_ge (wordsF ws) (2 * K + 2)
        omega
      rw [hf]
      unfold widthOf
      rw [Int.sub_self, wf_pen hK]
      show (0 : Int) + 0 ≤ m
      omega
theorem wf_good {m : Int} (h1 : 1 ≤ m) (h2 : m ≤ 31680) (hn : (wordsF ws).length ≤ 4096) : Good (wordsF ws) [m] (wordsF ws).length 1 := chkB_good rfl rfl hn (wf_chkB hw h1 h2)
end
/-- if some right breaks have no overfull line, the best have none. -/
theorem Good.over2 {xs : List It} {ms : List Int} {n m : Nat} (G : Good xs ms n m) (hl : xs.length = n) (hml : ms.length = m) {t : List Nat} (ht : t ∈ seqM xs (posN xs)) (h0 : ovC (linesN xs ms t t.length) = 0) : ovC (linesN xs ms (breaksL xs ms) (breaksL xs ms).length) = 0 := by
  rcases Nat.eq_zero_or_pos (ovC (linesN xs ms (breaksL xs ms) (breaksL xs ms).length)) with h | h
  · exact h
  · have hb := brok_of_seq hl ht
    obtain ⟨o1, c1⟩ := G.oks hl hml hb
    obtain ⟨o2, c2⟩ := G.oks hl hml (G.brok hl)
    have h1 := cost_none o1 c1 t.length (Nat.le_refl _) h0
    have h2 := cost_some o2 c2 _ (Nat.le_refl _) h
    have h3 := G.le hl ht
    rw [← costN_cos] at h3
    have h4 := (G.seq hl).2
    rw [← costN_cos] at h4
    have l1 := brok_len hl hb
    have l2 := brok_len hl (G.brok hl)
    have := G.n1
    omega
theorem all_seq (xs : List It) : posN xs ∈ seqM xs (posN xs) := sub_seq xs _ _ (List.Sublist.refl _) (fun _ hb _ => hb) (posN_sorted xs)
theorem wf_no {ws : List Int} (hw : ∀ k, k < ws.length → 1 ≤ gI ws k ∧ gI ws k ≤ 100) {m : Int} (hm : 100 ≤ m) (hm2 : m ≤ 31680) (hn : (wordsF ws).length ≤ 4096) : ovC (linesN (wordsF ws) [m] (breaksL (wordsF ws) [m]) (breaksL (wordsF ws) [m]).length) = 0 :=
  (wf_good hw (by omega) hm2 hn).over2 rfl rfl (all_seq _) (ovC_zero _ (fun k hk => wf_over hw hm k hk))
/-- the boxes among the first items. -/
def cB (xs : List It) : Nat → Nat
  | 0 => 0
  | i + 1 => cB xs i + (if (gT xs i).kind = 1 then 1 else 0)
theorem cB_mono (xs : List It) {i : Nat} : ∀ {k : Nat}, i ≤ k → cB xs i ≤ cB xs k
  | 0, h => by
    obtain rfl : i = 0 := by omega
    exact Nat.le_refl _
  | k + 1, h => by
    rcases Nat.lt_or_ge i (k + 1) with h1 | h1
    · have := cB_mono xs (i := i) (k := k) (by omega)
      have e : cB xs (k + 1) = cB xs k + (if (gT xs k).kind = 1 then 1 else 0) := rfl
      omega
    · obtain rfl : i = k + 1 := by omega
      exact Nat.le_refl _
theorem cB_le (xs : List It) : ∀ k, cB xs k ≤ k
  | 0 => Nat.le_refl _
  | k + 1 => by
    have := cB_le xs k
    unfold cB
    split <;> omega
theorem cB_start (xs : List It) : ∀ (f i : Nat), cB xs (startF xs f i) = cB xs i
  | 0, _ => rfl
  | f + 1, i => by
    unfold startF
    split
    · rfl
    · rename_i h
      rw [cB_start xs f (i + 1)]
      show cB xs i + (if (gT xs i).kind = 1 then 1 else 0) = cB xs i
      rw [if_neg (fun e => h (.inl e)), Nat.add_zero]
theorem cB_from (xs : List It) {a : Int} {b : Nat} (h1 : -1 ≤ a) (h2 : a < b) : cB xs (fromOf xs a b) = cB xs (a + 1).toNat := by
  unfold fromOf
  by_cases h0 : 0 ≤ a
  · rw [if_pos h0]
    have h3 := start_ge xs (a + 1).toNat
    have h4 : cB xs (start xs (a + 1).toNat) = cB xs (a + 1).toNat := cB_start xs _ _
    have h5 := cB_mono xs (i := (a + 1).toNat) (k := min (start xs (a + 1).toNat) b) (by omega)
    have h6 := cB_mono xs (i := min (start xs (a + 1).toNat) b) (k := start xs (a + 1).toNat) (by omega)
    omega
  · rw [if_neg h0]
    congr 1
    omega
theorem cB_pos {xs : List It} {b : Nat} (h : posB xs b = true) : cB xs (b + 1) = cB xs b := by
  have hk : ¬ (gT xs b).kind = 1 := fun e => by
    unfold posB at h
    rw [e] at h
    simp at h
  show cB xs b + (if (gT xs b).kind = 1 then 1 else 0) = cB xs b
  rw [if_neg hk, Nat.add_zero]
theorem wf_cB {ws : List Int} {K : Nat} (hK : ws.length = K + 1) : ∀ i, i ≤ K + 1 → cB (wordsF ws) (2 * i) = i
  | 0, _ => rfl
  | i + 1, hi => by
    have ih := wf_cB hK i (by omega)
    have e : (gT (wordsF ws) (2 * i + 1)).kind = 2 := by
      rcases Nat.lt_or_ge i K with h | h
      · rw [wf_glue hK h]; rfl
      · obtain rfl : i = K := by omega
        rw [wf_glu hK]; rfl
    show cB (wordsF ws) (2 * i) + (if (gT (wordsF ws) (2 * i)).kind = 1 then 1 else 0) + (if (gT (wordsF ws) (2 * i + 1)).kind = 1 then 1 else 0) = i + 1
    rw [ih, e, wf_box hK (by omega)]
    rfl
theorem wf_boxes (ws : List Int) : cB (wordsF ws) (wordsF ws).length = ws.length := by
  rcases Nat.eq_zero_or_pos ws.length with h0 | h0
  · obtain rfl : ws = [] := List.eq_nil_of_length_eq_zero h0
    rfl
  · obtain ⟨K, hK⟩ : ∃ K, ws.length = K + 1 := ⟨ws.length - 1, by omega⟩
    rw [wf_len hK]
    show cB (wordsF ws) (2 * (K + 1)) + (if (gT (wordsF ws) (2 * K + 2)).kind = 1 then 1 else 0) = _
    rw [wf_cB hK (K + 1) (Nat.le_refl _), wf_pen hK, hK]
    rfl
/-- the widths and the spaces. -/
def tot (ws : List Int) : Nat → Int
  | 0 => 0
  | k + 1 => tot ws k + 10 + gI ws k
theorem tot_bd {ws : List Int} (hw : ∀ k, k < ws.length → 1 ≤ gI ws k ∧ gI ws k ≤ 100) : ∀ k, k ≤ ws.length → 11 * (k : Int) ≤ tot ws k ∧ tot ws k ≤ 110 * (k : Int)
  | 0, _ => by simp [tot]
  | k + 1, hk => by
    have h1 := tot_bd hw k (by omega)
    have h2 := hw k (by omega)
    unfold tot
    omega
theorem wf_sum {ws : List Int} {K : Nat} (hK : ws.length = K + 1) : ∀ i, i ≤ K → sumTo wOf (wordsF ws) (2 * i + 1) = tot ws (i + 1) - 10
  | 0, _ => by
    show sumTo wOf (wordsF ws) 0 + wOf (gT (wordsF ws) (2 * 0)) = 0 + 10 + gI ws 0 - 10
    rw [wf_box hK (Nat.zero_le _)]
    show 0 + gI ws 0 = _
    omega
  | i + 1, hi => by
    show sumTo wOf (wordsF ws) (2 * i + 1) + wOf (gT (wordsF ws) (2 * i + 1)) + wOf (gT (wordsF ws) (2 * (i + 1))) = tot ws (i + 1) + 10 + gI ws (i + 1) - 10
    rw [wf_sum hK i (by omega), wf_glue hK (by omega), wf_box hK hi]
    show tot ws (i + 1) - 10 + 10 + gI ws (i + 1) = _
    omega
/-- a line that fits nearly. -/
theorem ratio_small {d y z : Int} (h0 : 0 ≤ d) (h1 : d ≤ 11) (hy : 1000 ≤ y) : 0 ≤ ratioOf d y z ∧ ratioOf d y z ≤ 11 := by
  unfold ratioOf
  by_cases hd : d = 0
  · rw [if_pos hd]; omega
  · rw [if_neg hd, if_neg (by omega), if_pos (by omega)]
    have h2 : 0 ≤ d * 1000 / y := Int.ediv_nonneg (by omega) (by omega)
    have h3 : d * 1000 / y ≤ 11 := Int.ediv_le_of_le_mul (by omega) (by omega)
    omega
theorem bad_small {d z r : Int} (h0 : 0 ≤ d) (h1 : 0 ≤ r) (h2 : r ≤ 11) : badOf d z r = 0 := by
  unfold badOf
  rw [if_neg (by omega), show max r (-r) = r by omega]
  have h3 : r * r ≤ 11 * 11 := Int.mul_le_mul h2 h2 h1 (by omega)
  have h4 : r * r * r ≤ 11 * 11 * 11 := Int.mul_le_mul h3 h2 h1 (by omega)
  have h5 : 0 ≤ r * r * r := Int.mul_nonneg (Int.mul_nonneg h1 h1) h1
  have h6 : r * r * r / 10000000 = 0 := Int.ediv_eq_zero_of_lt h5 (by omega)
  rw [h6]
  rfl
theorem sq_pos {b : Int} (h : 0 ≤ b) : 1 ≤ sq b 0 := by
  unfold sq
  rw [if_pos (by omega), Int.add_zero]
  have := Int.mul_le_mul (show (1 : Int) ≤ 1 + b by omega) (show (1 : Int) ≤ 1 + b by omega) (by omega) (by omega)
  omega
theorem one_cost {xs : List It} {ms : List Int} {b : Nat} (hc : costE (gT xs b) = 0) (h0 : 0 ≤ measOf ms 0 - widthOf xs 0 b) (h1 : measOf ms 0 - widthOf xs 0 b ≤ 11) (hy : 1000 ≤ sumTo (·.stretch) xs b) : costN xs ms [b] 1 = 1 := by
  show 0 + demF 31680 xs (lineF xs ms (-1) b 0) b (-1) 1 = 1
  rw [demF_eq, hc, Int.zero_add]
  have hl : lineF xs ms (-1) b 0 = ⟨(0 : Nat), b, b, measOf ms 0, widthOf xs 0 b, ratioOf (measOf ms 0 - widthOf xs 0 b) (sumTo (·.stretch) xs b - 0) (sumTo (·.shrink) xs b - 0), clsOf (ratioOf (measOf ms 0 - widthOf xs 0 b) (sumTo (·.stretch) xs b - 0) (sumTo (·.shrink) xs b - 0)), badOf (measOf ms 0 - widthOf xs 0 b) (sumTo (·.shrink) xs b - 0) (ratioOf (measOf ms 0 - widthOf xs 0 b) (sumTo (·.stretch) xs b - 0) (sumTo (·.shrink) xs b - 0)), overOf (measOf ms 0 - widthOf xs 0 b) (sumTo (·.shrink) xs b - 0), 0⟩ := rfl
  rw [hl]
  obtain ⟨r0, r1⟩ := ratio_small (z := sumTo (·.shrink) xs b - 0) h0 h1 (show 1000 ≤ sumTo (·.stretch) xs b - 0 by omega)
  generalize ratioOf (measOf ms 0 - widthOf xs 0 b) (sumTo (·.stretch) xs b - 0) (sumTo (·.shrink) xs b - 0) = r at *
  simp only
  rw [bad_small h0 r0 r1]
  have e1 : clsOf r = 1 := by unfold clsOf; rw [if_neg (by omega), if_pos (by omega)]
  have e2 : overOf (measOf ms 0 - widthOf xs 0 b) (sumTo (·.shrink) xs b - 0) = 0 := by unfold overOf; rw [if_neg (by omega)]
  rw [e1, e2]
  rfl
theorem cost_len {xs : List It} {ms : List Int} {bl : List Nat} (hok : ∀ k, k < bl.length → LnOk (lnAt xs ms bl k)) (hc : ∀ k, k < bl.length → costE (gT xs (gN bl k)) = 0) : ∀ k, k ≤ bl.length → (k : Int) ≤ costN xs ms bl k
  | 0, _ => by simp [costN]
  | k + 1, hk => by
    have h1 := cost_len hok hc k (by omega)
    have h2 : 1 ≤ demAt xs ms bl k := by
      unfold demAt
      rw [demF_eq, hc k (by omega)]
      have a1 := sq_pos (hok k (by omega)).bad.1
      have a2 : 0 ≤ fl3 (flagAt xs (aAt bl k)) (flagAt xs (gN bl k)) := by unfold fl3; split <;> omega
      have a3 : 0 ≤ cl3 (lnAt xs ms bl k).cls (clAt xs ms bl k) := by unfold cl3; split <;> omega
      have a4 : 0 ≤ ov (lnAt xs ms bl k).over := by
        have := (hok k (by omega)).over.1
        unfold ov
        split <;> omega
      omega
    unfold costN
    omega
theorem wf_one {ws : List Int} (hw : ∀ k, k < ws.length → 1 ≤ gI ws k ∧ gI ws k ≤ 100) (h40 : ws.length ≤ 40) : (breaksL (wordsF ws) [tot ws ws.length + 1]).length = 1 := by
  have hT := tot_bd hw ws.length (Nat.le_refl _)
  have hlen : (wordsF ws).length ≤ 4096 := by
    have := wordsP_len ws ws.length
    unfold wordsF
    rw [List.length_append]
    show _ + 2 ≤ _
    omega
  have G := wf_good hw (m := tot ws ws.length + 1) (by omega) (by omega) hlen
  obtain ⟨hl0, hlast⟩ := wf_last ws
  have hfor : forcedI (gT (wordsF ws) ((wordsF ws).length - 1)) = true := by rw [hlast]; rfl
  have hmem : (wordsF ws).length - 1 ∈ posN (wordsF ws) := posN_mem.2 ⟨by omega, by unfold posB; rw [hlast]; rfl⟩
  have hin : [(wordsF ws).length - 1] ∈ seqM (wordsF ws) (posN (wordsF ws)) := by
    refine sub_seq (wordsF ws) _ _ (List.singleton_sublist.2 hmem) (fun b hb hf => ?_) (posN_sorted _)
    have hb1 := (posN_mem.1 hb).1
    rcases Nat.lt_or_ge b ((wordsF ws).length - 1) with h | h
    · exfalso
      rcases Nat.eq_zero_or_pos ws.length with h0 | h0
      · obtain rfl : ws = [] := List.eq_nil_of_length_eq_zero h0
        have : b = 0 := by have e : (wordsF []).length = 2 := rfl; omega
        subst this
        cases hf
      · obtain ⟨K, hK⟩ : ∃ K, ws.length = K + 1 := ⟨ws.length - 1, by omega⟩
        rw [wf_len hK] at h
        have hk : (gT (wordsF ws) b).kind = 3 := by
          unfold fbm forcedI at hf
          simp only [Bool.and_eq_true, beq_iff_eq] at hf
          exact hf.1
        rcases Nat.mod_two_eq_zero_or_one b with h2 | h2
        · rw [show b = 2 * (b / 2) by omega, wf_box hK (by omega)] at hk
          cases hk
        · rcases Nat.lt_or_ge (b / 2) K with h3 | h3
          · rw [show b = 2 * (b / 2) + 1 by omega, wf_glue hK h3] at hk
            cases hk
          · rw [show b = 2 * K + 1 by omega, wf_glu hK] at hk
            cases hk
    · have : b = (wordsF ws).length - 1 := by omega
      simp [this]
  have hone : costN (wordsF ws) [tot ws ws.length + 1] [(wordsF ws).length - 1] 1 = 1 := by
    have hst : ∀ k, k ≤ (wordsF ws).length → 0 ≤ sumTo (·.stretch) (wordsF ws) k := fun k hk => by
      have := sumTo_mono (f := (·.stretch)) (l := wordsF ws) (fun x hx => (wit_right (wf_all ws hw x hx)).2) (Nat.zero_le k) hk
      exact this
    rcases Nat.eq_zero_or_pos ws.length with h0 | h0
    · obtain rfl : ws = [] := List.eq_nil_of_length_eq_zero h0
      decide +kernel
    · obtain ⟨K, hK⟩ : ∃ K, ws.length = K + 1 := ⟨ws.length - 1, by omega⟩
      have hw1 : widthOf (wordsF ws) 0 ((wordsF ws).length - 1) = tot ws ws.length - 10 := by
        rw [wf_len hK, show 2 * K + 3 - 1 = 2 * K + 2 by omega]
        unfold widthOf
        rw [wf_pen hK]
        show sumTo wOf (wordsF ws) (2 * K + 1) + wOf (gT (wordsF ws) (2 * K + 1)) - 0 + 0 = _
        rw [wf_sum hK K (Nat.le_refl _), wf_glu hK, hK]
        show _ + 0 - 0 + 0 = _
        omega
      refine one_cost (by rw [hlast]; rfl) (by rw [meas_one, hw1]; omega) (by rw [meas_one, hw1]; omega) ?_
      rw [wf_len hK, show 2 * K + 3 - 1 = 2 * K + 1 + 1 by omega]
      show 1000 ≤ sumTo (·.stretch) (wordsF ws) (2 * K + 1) + (gT (wordsF ws) (2 * K + 1)).stretch
      rw [wf_glu hK]
      have := hst (2 * K + 1) (by rw [wf_len hK]; omega)
      show 1000 ≤ _ + (1000 : Int)
      omega
  have h1 := G.le rfl hin
  rw [← costN_cos] at h1
  rw [show [(wordsF ws).length - 1].length = 1 from rfl, hone] at h1
  have h2 := (G.seq rfl).2
  rw [← costN_cos] at h2
  have hb := G.brok rfl
  obtain ⟨o1, _⟩ := G.oks rfl rfl hb
  have h3 := cost_len o1 (fun k hk => wit_cost (wf_all ws hw _ (gT_mem (hb.rise.1 k hk)))) _ (Nat.le_refl _)
  have h4 := List.length_pos_of_mem (hb.all _ hmem hfor)
  omega
end Go.Proofs.Ytogbapdioccamaa
