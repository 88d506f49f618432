/- Scaled items and measures, plain. -/
import Derived.Test.YtogbapdioccamaaE47
namespace Go.Proofs.Ytogbapdioccamaa
open Go.RowKit

def scI (f : Int) (x : It) : It := ⟨x.kind, f * x.width, f * x.stretch, f * x.shrink, x.cost, x.flag⟩
theorem scI_0 (f : Int) : scI f it0 = it0 := by unfold scI it0; simp
theorem gT_map (f : Int) (xs : List It) (i : Nat) : gT (xs.map (scI f)) i = scI f (gT xs i) := by
  unfold gT
  rw [List.getD_eq_getElem?_getD, List.getD_eq_getElem?_getD, List.getElem?_map]
  cases xs[i]? with
  | none => exact (scI_0 f).symm
  | some x => rfl
section
variable (f : Int) (xs : List It) (ms : List Int)
theorem sc_forced (i : Nat) : forcedI (gT (xs.map (scI f)) i) = forcedI (gT xs i) := by rw [gT_map]; rfl
theorem sc_posB (i : Nat) : posB (xs.map (scI f)) i = posB xs i := by unfold posB; rw [gT_map, gT_map]; rfl
theorem sc_posN : posN (xs.map (scI f)) = posN xs := by
  unfold posN posT
  rw [List.length_map]
  congr 1
  exact funext (sc_posB f xs)
theorem sc_fbm (i : Nat) : fbm (xs.map (scI f)) i = fbm xs i := by unfold fbm; rw [sc_forced]
theorem sc_seqs (fb fb' : Nat → Bool) (h : ∀ i, fb i = fb' i) : fb = fb' := funext h
theorem sc_seqM (r : List Nat) : seqM (xs.map (scI f)) r = seqM xs r := by unfold seqM; rw [sc_seqs _ _ (sc_fbm f xs)]
theorem sc_startF : ∀ (n i : Nat), startF (xs.map (scI f)) n i = startF xs n i
  | 0, _ => rfl
  | n + 1, i => by
    unfold startF
    rw [sc_forced, sc_startF n (i + 1), gT_map]
    rfl
theorem sc_from (a : Int) (b : Nat) : fromOf (xs.map (scI f)) a b = fromOf xs a b := by
  unfold fromOf start
  rw [List.length_map, sc_startF]
theorem sc_sum (g : It → Int) (h : ∀ x, g (scI f x) = f * g x) : ∀ k, sumTo g (xs.map (scI f)) k = f * sumTo g xs k
  | 0 => by simp [sumTo]
  | k + 1 => by
    unfold sumTo
    rw [sc_sum g h k, gT_map, h, Int.mul_add]
theorem sc_wOf (x : It) : wOf (scI f x) = f * wOf x := by
  show (if x.kind = 3 then (0 : Int) else f * x.width) = f * (if x.kind = 3 then 0 else x.width)
  split <;> simp
theorem sc_width (fr b : Nat) : widthOf (xs.map (scI f)) fr b = f * widthOf xs fr b := by
  unfold widthOf
  rw [sc_sum f xs _ (sc_wOf f), sc_sum f xs _ (sc_wOf f), gT_map]
  show f * _ - f * _ + (if (gT xs b).kind = 3 then f * (gT xs b).width else 0) = _
  rw [Int.mul_add, Int.mul_sub]
  split <;> simp
theorem sc_meas (k : Nat) : measOf (ms.map (f * ·)) k = f * measOf ms k := by
  unfold measOf
  rw [List.length_map, List.getD_eq_getElem?_getD, List.getD_eq_getElem?_getD, List.getElem?_map]
  cases ms[min k (ms.length - 1)]? with
  | none => simp
  | some x => rfl
end
section
variable {f : Int} (hf : 0 < f)
include hf
theorem sc_pos {d : Int} : 0 < f * d ↔ 0 < d := ⟨fun h => by
    rcases Int.lt_or_le 0 d with h1 | h1
    · exact h1
    · have h2 := Int.mul_le_mul_of_nonneg_left h1 (Int.le_of_lt hf)
      rw [Int.mul_zero] at h2
      omega, fun h => Int.mul_pos hf h⟩
theorem sc_zero {d : Int} : f * d = 0 ↔ d = 0 := ⟨fun h => (Int.mul_eq_zero.1 h).resolve_left (by omega), fun h => by rw [h, Int.mul_zero]⟩
theorem sc_le {a b : Int} : f * a ≤ f * b ↔ a ≤ b := ⟨fun h => Int.le_of_mul_le_mul_left h hf, fun h => Int.mul_le_mul_of_nonneg_left h (Int.le_of_lt hf)⟩
theorem sc_ratio (d y z : Int) : ratioOf (f * d) (f * y) (f * z) = ratioOf d y z := by
  unfold ratioOf
  have e1 : f * d * 1000 / (f * y) = d * 1000 / y := by rw [Int.mul_assoc]; exact Int.mul_ediv_mul_of_pos _ _ hf
  have e2 : -(f * d) * 1000 / (f * z) = -d * 1000 / z := by rw [← Int.mul_neg, Int.mul_assoc]; exact Int.mul_ediv_mul_of_pos _ _ hf
  rw [e1, e2, ← Int.mul_neg]
  simp only [sc_zero hf, sc_pos hf, sc_le hf]
theorem sc_over (d z : Int) : overOf (f * d) (f * z) = f * overOf d z := by
  unfold overOf
  have h1 : f * d < 0 ↔ d < 0 := by
    have := sc_pos hf (d := -d)
    rw [Int.mul_neg] at this
    omega
  have h2 : f * z < -(f * d) ↔ z < -d := by
    have := sc_le hf (a := -d) (b := z)
    rw [Int.mul_neg] at this
    omega
  rw [show -(f * d) - f * z = f * (-d - z) by rw [Int.mul_sub, Int.mul_neg]]
  simp only [h1, h2]
  split <;> simp
theorem sc_bad (d z r : Int) : badOf (f * d) (f * z) r = badOf d z r := by
  unfold badOf
  have h1 : f * d < 0 ↔ d < 0 := by
    have := sc_pos hf (d := -d)
    rw [Int.mul_neg] at this
    omega
  have h2 : f * z < -(f * d) ↔ z < -d := by
    have := sc_le hf (a := -d) (b := z)
    rw [Int.mul_neg] at this
    omega
  simp only [h1, h2]
/-- a line of scaled items. -/
theorem sc_line (xs : List It) (ms : List Int) (a : Int) (b k : Nat) : let x := lineF xs ms a b k; let y := lineF (xs.map (scI f)) (ms.map (f * ·)) a b k; y.ratio = x.ratio ∧ y.cls = x.cls ∧ y.bad = x.bad ∧ y.over = f * x.over ∧ y.br = x.br := by
  have hd : measOf (ms.map (f * ·)) k - widthOf (xs.map (scI f)) (fromOf (xs.map (scI f)) a b) b = f * (measOf ms k - widthOf xs (fromOf xs a b) b) := by
    rw [sc_meas, sc_from, sc_width, Int.mul_sub]
  have hy : sumTo (·.stretch) (xs.map (scI f)) b - sumTo (·.stretch) (xs.map (scI f)) (fromOf (xs.map (scI f)) a b) = f * (sumTo (·.stretch) xs b - sumTo (·.stretch) xs (fromOf xs a b)) := by
    rw [sc_sum f xs (·.stretch) (fun _ => rfl), sc_sum f xs (·.stretch) (fun _ => rfl), sc_from, Int.mul_sub]
  have hz : sumTo (·.shrink) (xs.map (scI f)) b - sumTo (·.shrink) (xs.map (scI f)) (fromOf (xs.map (scI f)) a b) = f * (sumTo (·.shrink) xs b - sumTo (·.shrink) xs (fromOf xs a b)) := by
    rw [sc_sum f xs (·.shrink) (fun _ => rfl), sc_sum f xs (·.shrink) (fun _ => rfl), sc_from, Int.mul_sub]
  have hr : (lineF (xs.map (scI f)) (ms.map (f * ·)) a b k).ratio = (lineF xs ms a b k).ratio := by
    show ratioOf _ _ _ = ratioOf _ _ _
    rw [hd, hy, hz, sc_ratio hf]
  refine ⟨hr, ?_, ?_, ?_, rfl⟩
  · show clsOf (lineF (xs.map (scI f)) (ms.map (f * ·)) a b k).ratio = clsOf (lineF xs ms a b k).ratio
    rw [hr]
  · show badOf _ _ (lineF (xs.map (scI f)) (ms.map (f * ·)) a b k).ratio = badOf _ _ (lineF xs ms a b k).ratio
    rw [hr, hd, hz, sc_bad hf]
  · show overOf _ _ = f * overOf _ _
    rw [hd, hz, sc_over hf]
variable {xs : List It} {ms : List Int} {bl : List Nat}
theorem sc_ln (k : Nat) : (lnAt (xs.map (scI f)) (ms.map (f * ·)) bl k).ratio = (lnAt xs ms bl k).ratio ∧ (lnAt (xs.map (scI f)) (ms.map (f * ·)) bl k).cls = (lnAt xs ms bl k).cls ∧ (lnAt (xs.map (scI f)) (ms.map (f * ·)) bl k).bad = (lnAt xs ms bl k).bad ∧ (lnAt (xs.map (scI f)) (ms.map (f * ·)) bl k).over = f * (lnAt xs ms bl k).over := by
  obtain ⟨h1, h2, h3, h4, _⟩ := sc_line hf xs ms (aAt bl k) (gN bl k) k
  exact ⟨h1, h2, h3, h4⟩
theorem sc_dem (k : Nat) (h : ¬ 0 < (lnAt xs ms bl k).over) : demAt (xs.map (scI f)) (ms.map (f * ·)) bl k = demAt xs ms bl k := by
  obtain ⟨_, h2, h3, h4⟩ := sc_ln hf (xs := xs) (ms := ms) (bl := bl) k
  have h5 : ¬ 0 < (lnAt (xs.map (scI f)) (ms.map (f * ·)) bl k).over := by rw [h4, sc_pos hf]; exact h
  have hc : clAt (xs.map (scI f)) (ms.map (f * ·)) bl k = clAt xs ms bl k := by
    unfold clAt
    split
    · rfl
    · exact (sc_ln hf (xs := xs) (ms := ms) (bl := bl) (k - 1)).2.1
  unfold demAt
  rw [demF_eq, demF_eq, h2, h3, hc, gT_map]
  have e1 : costE (scI f (gT xs (gN bl k))) = costE (gT xs (gN bl k)) := rfl
  have e2 : ∀ a, flagAt (xs.map (scI f)) a = flagAt xs a := fun a => by unfold flagAt; rw [gT_map]; rfl
  rw [e1, e2, e2]
  unfold ov
  rw [if_neg h, if_neg h5]
theorem sc_cost : ∀ k, ovC (linesN xs ms bl k) = 0 → costN (xs.map (scI f)) (ms.map (f * ·)) bl k = costN xs ms bl k
  | 0, _ => rfl
  | k + 1, h => by
    rw [ovC_lines] at h
    have h2 : ¬ 0 < (lnAt xs ms bl k).over := fun h3 => by rw [if_pos h3] at h; omega
    unfold costN
    rw [sc_cost k (by omega), sc_dem hf k h2]
theorem sc_ovC : ∀ k, ovC (linesN (xs.map (scI f)) (ms.map (f * ·)) bl k) = ovC (linesN xs ms bl k)
  | 0 => rfl
  | k + 1 => by
    rw [ovC_lines, ovC_lines, sc_ovC k, (sc_ln hf k).2.2.2]
    simp only [sc_pos hf]
end
def bigA (v : Int) (acc : Acc) : Prop := ∀ z, acc = some z → v < z.2
theorem better_big {v : Int} {acc : Acc} (h : bigA v acc) {x : List Nat × Int} (hx : v < x.2) : bigA v (better acc x) := by
  intro z hz
  cases acc with
  | none => simp only [better, Option.some.injEq] at hz; rw [← hz]; exact hx
  | some y =>
    simp only [better] at hz
    split at hz
    · injection hz with hz; rw [← hz]; exact hx
    · injection hz with hz; rw [← hz]; exact h y rfl
theorem better_take {v : Int} {acc : Acc} (h : bigA v acc) {x : List Nat × Int} (hx : x.2 ≤ v) : better acc x = some x := by
  cases acc with
  | none => rfl
  | some y =>
    simp only [better]
    rw [if_pos (by have := h y rfl; omega)]
/-- two costs that differ only where both are too great have the same best. -/
theorem fm_same {F1 F2 : List Nat → Int} {s0 : List Nat} {v : Int} : ∀ (l : List (List Nat)) (a1 a2 : Acc), (a1 = a2 ∨ (bigA v a1 ∧ bigA v a2)) → (∀ s ∈ l, F1 s = F2 s ∨ (v < F1 s ∧ v < F2 s)) → fm F1 l a1 = some (s0, v) → fm F2 l a2 = some (s0, v)
  | [], a1, a2, h, _, h1 => by
    rw [fm] at h1 ⊢
    rcases h with h | ⟨h, _⟩
    · rw [← h]; exact h1
    · have := h _ h1
      exact absurd this (Int.lt_irrefl _)
  | s :: l, a1, a2, h, hl, h1 => by
    rw [fm] at h1 ⊢
    refine fm_same l _ _ ?_ (fun t ht => hl t (by simp [ht])) h1
    rcases hl s (by simp) with e | ⟨e1, e2⟩
    · rw [← e]
      rcases h with h | ⟨b1, b2⟩
      · exact .inl (by rw [h])
      · rcases Int.lt_or_le v (F1 s) with hv | hv
        · exact .inr ⟨better_big b1 hv, better_big b2 hv⟩
        · exact .inl (by rw [better_take b1 (by exact hv), better_take b2 (by exact hv)])
    · rcases h with h | ⟨b1, b2⟩
      · subst h
        cases a1 with
        | none => exact .inr ⟨fun z hz => by simp only [better, Option.some.injEq] at hz; rw [← hz]; exact e1, fun z hz => by simp only [better, Option.some.injEq] at hz; rw [← hz]; exact e2⟩
        | some z =>
          rcases Int.lt_or_le v z.2 with hv | hv
          · have hb : bigA v (some z) := fun y hy => by injection hy with hy; rw [← hy]; exact hv
            exact .inr ⟨better_big hb e1, better_big hb e2⟩
          · simp only [better]
            rw [if_neg (by omega), if_neg (by omega)]
            exact .inl rfl
      · exact .inr ⟨better_big b1 e1, better_big b2 e2⟩
theorem sc_good {f : Int} (hf : 0 < f) {xs : List It} {ms : List Int} {n m : Nat} (G : Good xs ms n m) (hl : xs.length = n) (hml : ms.length = m) (G2 : Good (xs.map (scI f)) (ms.map (f * ·)) n m)
    (h0 : ovC (linesN xs ms (breaksL xs ms) (breaksL xs ms).length) = 0) : breaksL (xs.map (scI f)) (ms.map (f * ·)) = breaksL xs ms := by
  have hl2 : (xs.map (scI f)).length = n := by rw [List.length_map]; exact hl
  have hml2 : (ms.map (f * ·)).length = m := by rw [List.length_map]; exact hml
  have h1 := G.fm_ hl
  have h2 := G2.fm_ hl2
  rw [sc_seqM, sc_posN] at h2
  have hbest : bestV xs ms ≤ 410000000 * 4096 := by
    have hb := G.brok hl
    obtain ⟨o1, c1⟩ := G.oks hl hml hb
    have h3 := cost_none o1 c1 _ (Nat.le_refl _) h0
    have h4 := (G.seq hl).2
    rw [← costN_cos] at h4
    have l1 := brok_len hl hb
    have := G.n1
    omega
  have h3 := fm_same (F2 := fun s => cosM (xs.map (scI f)) (ms.map (f * ·)) s (-1) 0 1) _ none none (.inl rfl) (fun s hs => by
    have hb := brok_of_seq hl hs
    have hs2 : s ∈ seqM (xs.map (scI f)) (posN (xs.map (scI f))) := by rw [sc_seqM, sc_posN]; exact hs
    have hb2 := brok_of_seq hl2 hs2
    obtain ⟨o1, c1⟩ := G.oks hl hml hb
    obtain ⟨o2, c2⟩ := G2.oks hl2 hml2 hb2
    show cosM xs ms s (-1) 0 1 = cosM (xs.map (scI f)) (ms.map (f * ·)) s (-1) 0 1 ∨ _ < cosM xs ms s (-1) 0 1 ∧ _ < cosM (xs.map (scI f)) (ms.map (f * ·)) s (-1) 0 1
    rw [← costN_cos, ← costN_cos]
    have l1 := brok_len hl hb
    have := G.n1
    rcases Nat.eq_zero_or_pos (ovC (linesN xs ms s s.length)) with h | h
    · exact .inl (sc_cost hf _ h).symm
    · have e1 := cost_some o1 c1 _ (Nat.le_refl _) h
      have e2 := cost_some o2 c2 _ (Nat.le_refl _) (by rw [sc_ovC hf]; exact h)
      exact .inr ⟨by omega, by omega⟩) h1
  rw [h3] at h2
  injection h2 with h2
  injection h2 with h2
  exact h2.symm
theorem sc_brok {f : Int} {xs : List It} {n : Nat} {bl : List Nat} (h : BrOk xs n bl) : BrOk (xs.map (scI f)) n bl :=
  ⟨h.rise, fun b hb => by rw [sc_posN]; exact h.pos b hb, fun b hb hf => by rw [sc_posN] at hb; rw [sc_forced] at hf; exact h.all b hb hf⟩
end Go.Proofs.Ytogbapdioccamaa
