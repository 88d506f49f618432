/- The plain laws of UTF-8: what is encoded is decoded; the runtime's own decoding. -/
import Derived.Test.YtbeollddmglkcaaP4
import Derived.Laws.RangeAny
namespace Go.Proofs.Ytbeollddmglkcaa
open Go
theorem decF_ok (l : List Int) (p : Int) (z : Nat) (h : decF l = (p, z, true)) :
    (∃ c r, l = c :: r ∧ c < 128 ∧ p = c ∧ z = 1) ∨
    (∃ c d r, l = c :: d :: r ∧ 194 ≤ c ∧ c < 224 ∧ 128 ≤ d ∧ d ≤ 191 ∧ p = c % 32 * 64 + d % 64 ∧ z = 2) ∨
    (∃ c d e r, l = c :: d :: e :: r ∧ 224 ≤ c ∧ c < 240 ∧ tailLo c ≤ d ∧ d ≤ tailHi c ∧ 128 ≤ e ∧ e ≤ 191 ∧ p = (c % 16 * 64 + d % 64) * 64 + e % 64 ∧ z = 3) ∨
    (∃ c d e f r, l = c :: d :: e :: f :: r ∧ 240 ≤ c ∧ c ≤ 244 ∧ tailLo c ≤ d ∧ d ≤ tailHi c ∧ 128 ≤ e ∧ e ≤ 191 ∧ 128 ≤ f ∧ f ≤ 191 ∧ p = ((c % 8 * 64 + d % 64) * 64 + e % 64) * 64 + f % 64 ∧ z = 4) := by
  cases l with
  | nil => simp [decF] at h
  | cons c cs =>
    have hN : (tailN c = 0) ∨ (tailN c = 1 ∧ c < 128) ∨ (tailN c = 2 ∧ 194 ≤ c ∧ c < 224) ∨ (tailN c = 3 ∧ 224 ≤ c ∧ c < 240) ∨ (tailN c = 4 ∧ 240 ≤ c ∧ c ≤ 244) := by
      unfold tailN; (repeat' split) <;> omega
    rw [decF] at h
    rcases hN with h0 | ⟨h0, h1⟩ | ⟨h0, h1, h2⟩ | ⟨h0, h1, h2⟩ | ⟨h0, h1, h2⟩
    · rw [if_pos h0] at h; simp at h
    · rw [if_neg (by omega), if_pos h0] at h
      simp only [Prod.mk.injEq, and_true] at h
      exact .inl ⟨c, cs, rfl, h1, h.1.symm, h.2.symm⟩
    · rw [if_neg (by omega), if_neg (by omega), if_pos h0, h0] at h
      cases cs with
      | nil => simp [decL] at h
      | cons d r =>
        rw [show ((2 : Int).toNat - 1) = 0 + 1 from rfl, decL] at h
        by_cases hd : d < tailLo c ∨ tailHi c < d
        · rw [if_pos hd] at h; simp at h
        · rw [if_neg hd, decL] at h
          simp only [Prod.mk.injEq, and_true] at h
          have e1 : tailLo c = 128 := by unfold tailLo; (repeat' split) <;> omega
          have e2 : tailHi c = 191 := by unfold tailHi; (repeat' split) <;> omega
          exact .inr (.inl ⟨c, d, r, rfl, h1, h2, by omega, by omega, h.1.symm, h.2.symm⟩)
    · rw [if_neg (by omega), if_neg (by omega), if_neg (by omega), if_pos h0, h0] at h
      cases cs with
      | nil => simp [decL] at h
      | cons d r =>
        rw [show ((3 : Int).toNat - 1) = 1 + 1 from rfl, decL] at h
        by_cases hd : d < tailLo c ∨ tailHi c < d
        · rw [if_pos hd] at h; simp at h
        · rw [if_neg hd] at h
          cases r with
          | nil => simp [decL] at h
          | cons e r =>
            rw [show (1 : Nat) = 0 + 1 from rfl, decL] at h
            by_cases he : e < 128 ∨ 191 < e
            · rw [if_pos he] at h; simp at h
            · rw [if_neg he, decL] at h
              simp only [Prod.mk.injEq, and_true] at h
              exact .inr (.inr (.inl ⟨c, d, e, r, rfl, h1, h2, by omega, by omega, by omega, by omega, h.1.symm, h.2.symm⟩))
    · rw [if_neg (by omega), if_neg (by omega), if_neg (by omega), if_neg (by omega), h0] at h
      cases cs with
      | nil => simp [decL] at h
      | cons d r =>
        rw [show ((4 : Int).toNat - 1) = 2 + 1 from rfl, decL] at h
        by_cases hd : d < tailLo c ∨ tailHi c < d
        · rw [if_pos hd] at h; simp at h
        · rw [if_neg hd] at h
          cases r with
          | nil => simp [decL] at h
          | cons e r =>
            rw [show (2 : Nat) = 1 + 1 from rfl, decL] at h
            by_cases he : e < 128 ∨ 191 < e
            · rw [if_pos he] at h; simp at h
            · rw [if_neg he] at h
              cases r with
              | nil => simp [decL] at h
              | cons f r =>
                rw [show (1 : Nat) = 0 + 1 from rfl, decL] at h
                by_cases hf : f < 128 ∨ 191 < f
                · rw [if_pos hf] at h; simp at h
                · rw [if_neg hf, decL] at h
                  simp only [Prod.mk.injEq, and_true] at h
                  exact .inr (.inr (.inr ⟨c, d, e, f, r, rfl, h1, h2, by omega, by omega, by omega, by omega, by omega, by omega, h.1.symm, h.2.symm⟩))

theorem tail_bd (c : Int) : 128 ≤ tailLo c ∧ tailHi c ≤ 191 := by constructor <;> (first | unfold tailLo | unfold tailHi) <;> (repeat' split) <;> omega
/-- what is decoded is a code point. -/
theorem decF_point (l : List Int) (p : Int) (z : Nat) (hl : ∀ c ∈ l, 0 ≤ c ∧ c ≤ 255) (h : decF l = (p, z, true)) : isPoint p = true := by
  rw [isPoint_iff]
  rcases decF_ok l p z h with ⟨c, r, rfl, h1, rfl, _⟩ | ⟨c, d, r, rfl, h1, h2, h3, h4, rfl, _⟩ | ⟨c, d, e, r, rfl, h1, h2, h3, h4, h5, h6, rfl, _⟩ | ⟨c, d, e, f, r, rfl, h1, h2, h3, h4, h5, h6, h7, h8, rfl, _⟩
  · have := hl p (by simp); omega
  · have := hl c (by simp); omega
  · have := tail_bd c
    unfold tailLo at h3; unfold tailHi at h4
    (repeat' split at h3) <;> (repeat' split at h4) <;> omega
  · have := tail_bd c
    unfold tailLo at h3; unfold tailHi at h4
    (repeat' split at h3) <;> (repeat' split at h4) <;> omega

theorem decF_enc (p : Int) (r : List Int) (h : isPoint p = true) : decF (encU p ++ r) = (p, (encU p).length, true) := by
  rw [isPoint_iff] at h
  obtain ⟨h0, h1, h2⟩ := h
  unfold encU
  by_cases c1 : p < 128
  · rw [if_pos c1, List.cons_append, decF, if_neg (by unfold tailN; rw [if_pos c1]; omega), if_pos (by unfold tailN; rw [if_pos c1])]; rfl
  · rw [if_neg c1]
    by_cases c2 : p < 2048
    · rw [if_pos c2]
      have hn : tailN (192 + p / 64) = 2 := by unfold tailN; (repeat' split) <;> omega
      have e1 : tailLo (192 + p / 64) = 128 := by unfold tailLo; (repeat' split) <;> omega
      have e2 : tailHi (192 + p / 64) = 191 := by unfold tailHi; (repeat' split) <;> omega
      rw [List.cons_append, List.cons_append, decF, if_neg (by omega), if_neg (by omega), if_pos hn, hn, show ((2 : Int).toNat - 1) = 0 + 1 from rfl, decL, e1, e2, if_neg (by omega), decL]
      simp only [List.length_cons, List.length_nil, Prod.mk.injEq, and_true]
      omega
    · rw [if_neg c2]
      by_cases c3 : p < 65536
      · rw [if_pos c3]
        have hn : tailN (224 + p / 4096) = 3 := by unfold tailN; (repeat' split) <;> omega
        have e1 : tailLo (224 + p / 4096) ≤ 128 + p / 64 % 64 := by unfold tailLo; (repeat' split) <;> omega
        have e2 : 128 + p / 64 % 64 ≤ tailHi (224 + p / 4096) := by unfold tailHi; (repeat' split) <;> omega
        rw [List.cons_append, List.cons_append, List.cons_append, decF, if_neg (by omega), if_neg (by omega), if_neg (by omega), if_pos hn, hn, show ((3 : Int).toNat - 1) = 1 + 1 from rfl, decL, if_neg (by omega),
          show (1 : Nat) = 0 + 1 from rfl, decL, if_neg (by omega), decL]
        simp only [List.length_cons, List.length_nil, Prod.mk.injEq, and_true]
        omega
      · rw [if_neg c3]
        have hn : tailN (240 + p / 262144) = 4 := by unfold tailN; (repeat' split) <;> omega
        have e1 : tailLo (240 + p / 262144) ≤ 128 + p / 4096 % 64 := by unfold tailLo; (repeat' split) <;> omega
        have e2 : 128 + p / 4096 % 64 ≤ tailHi (240 + p / 262144) := by unfold tailHi; (repeat' split) <;> omega
        rw [List.cons_append, List.cons_append, List.cons_append, List.cons_append, decF, if_neg (by omega), if_neg (by omega), if_neg (by omega), if_neg (by omega), hn, show ((4 : Int).toNat - 1) = 2 + 1 from rfl, decL, if_neg (by omega),
          show (2 : Nat) = 1 + 1 from rfl, decL, if_neg (by omega), show (1 : Nat) = 0 + 1 from rfl, decL, if_neg (by omega), decL]
        simp only [List.length_cons, List.length_nil, Prod.mk.injEq, and_true]
        omega
theorem ptsO_enc (p : Int) (r : List Int) (h : isPoint p = true) : ptsO (encU p ++ r) = (ptsO r).map (p :: ·) := by
  have hd := decF_enc p r h
  have hl := encU_len p
  obtain ⟨c, cs, hc⟩ : ∃ c cs, encU p ++ r = c :: cs := by
    cases he : encU p with
    | nil => rw [he] at hl; simp at hl
    | cons c cs => exact ⟨c, cs ++ r, rfl⟩
  rw [hc, ptsO_cons, ← hc, hd, if_pos rfl, List.drop_left]
theorem ptsO_encs : ∀ ps : List Int, ps.all isPoint = true → ptsO (ps.flatMap encU) = some ps
  | [], _ => rfl
  | p :: ps, h => by
    rw [List.all_cons, Bool.and_eq_true] at h
    rw [List.flatMap_cons, ptsO_enc p _ h.1, ptsO_encs ps h.2]; rfl
theorem ptsO_all (l : List Int) (hl : ∀ c ∈ l, 0 ≤ c ∧ c ≤ 255) (ps : List Int) (h : ptsO l = some ps) : ps.all isPoint = true := by
  generalize hn : l.length = n
  induction n using Nat.strongRecOn generalizing l ps with
  | _ n ih =>
    cases l with
    | nil => simp [ptsO, ptsF] at h; subst h; rfl
    | cons c cs =>
      rw [ptsO_cons] at h
      by_cases hd : (decF (c :: cs)).2.2 = true
      · rw [if_pos hd] at h
        obtain ⟨qs, hq, rfl⟩ := Option.map_eq_some_iff.1 h
        have hz := decF_sz _ hd
        have hl2 : ((c :: cs).drop (decF (c :: cs)).2.1).length < n := by rw [List.length_drop, hn]; simp only [List.length_cons] at hn; omega
        have h2 := ih _ hl2 _ (fun x hx => hl x (List.mem_of_mem_drop hx)) qs hq rfl
        have h3 := decF_point (c :: cs) (decF (c :: cs)).1 (decF (c :: cs)).2.1 hl (by rw [← hd])
        rw [List.all_cons, h2, h3]; rfl
      · rw [if_neg hd] at h; cases h

/-- the runtime's decoding, where the strict one goes through. -/
theorem get_byts (s : ByteArray) (i : Nat) (x : Int) (h : (byts s)[i]? = some x) : ((s.get! i).toNat : Int) = x ∧ i < s.size := by
  have hi : i < s.size := by have := (List.getElem?_eq_some_iff.1 h).1; rw [byts_len] at this; exact this
  refine ⟨?_, hi⟩
  have e := get_at s i hi
  rw [Nat.add_zero] at e
  rw [e]
  unfold byts at h
  rw [List.getElem?_map] at h
  have h2 : s.data.toList[i]? = some (s[i]'hi) := by
    rw [Array.getElem?_toList, Array.getElem?_eq_getElem (by exact hi)]; rfl
  rw [h2] at h
  injection h
theorem drop_get {l : List Int} {k j : Nat} {m : List Int} {x : Int} (h : l.drop k = m) (hx : m[j]? = some x) : l[k + j]? = some x := by
  rw [← hx, ← h, List.getElem?_drop]
theorem decode_eq (s : ByteArray) (k : Nat) (p : Int) (z : Nat) (h : decF ((byts s).drop k) = (p, z, true)) : Utf8.decode s k = (p.toNat, z) := by
  have hb : ∀ c ∈ (byts s).drop k, 0 ≤ c ∧ c ≤ 255 := by
    intro c hc
    have := List.mem_of_mem_drop hc
    unfold byts at this
    obtain ⟨u, _, rfl⟩ := List.mem_map.1 this
    have := u.toNat_lt
    omega
  have hpt := decF_point _ _ _ hb h
  rw [isPoint_iff] at hpt
  generalize hl : (byts s).drop k = l at h hb
  rcases decF_ok l p z h with ⟨c, r, rfl, h1, rfl, rfl⟩ | ⟨c, d, r, rfl, h1, h2, h3, h4, rfl, rfl⟩ | ⟨c, d, e, r, rfl, h1, h2, h3, h4, h5, h6, hp, rfl⟩ | ⟨c, d, e, f, r, rfl, h1, h2, h3, h4, h5, h6, h7, h8, hp, rfl⟩
  · obtain ⟨g0, _⟩ := get_byts s (k + 0) p (drop_get hl rfl)
    have n0 : (s.get! (k + 0)).toNat = p.toNat := by omega
    have hp0 := hb p (by simp)
    clear g0
    unfold Utf8.decode
    simp only [n0]
    clear n0
    rw [if_pos (by omega)]
  · obtain ⟨g0, _⟩ := get_byts s (k + 0) c (drop_get hl rfl)
    obtain ⟨g1, i1⟩ := get_byts s (k + 1) d (drop_get hl rfl)
    have n0 : (s.get! (k + 0)).toNat = c.toNat := by omega
    have n1 : (s.get! (k + 1)).toNat = d.toNat := by omega
    have hc0 := hb c (by simp)
    clear g0 g1
    unfold Utf8.decode
    simp only [n0, n1]
    clear n0 n1
    rw [if_neg (by omega), if_pos (by simp; omega), if_pos (by omega)]
    rw [Prod.mk.injEq]
    exact ⟨by omega, rfl⟩
  · obtain ⟨g0, _⟩ := get_byts s (k + 0) c (drop_get hl rfl)
    obtain ⟨g1, i1⟩ := get_byts s (k + 1) d (drop_get hl rfl)
    obtain ⟨g2, i2⟩ := get_byts s (k + 2) e (drop_get hl rfl)
    have t := tail_bd c
    have hlow : 2048 ≤ p := by unfold tailLo at h3; (repeat' split at h3) <;> omega
    have n0 : (s.get! (k + 0)).toNat = c.toNat := by omega
    have n1 : (s.get! (k + 1)).toNat = d.toNat := by omega
    have n2 : (s.get! (k + 2)).toNat = e.toNat := by omega
    have hc0 := hb c (by simp)
    clear g0 g1 g2
    unfold Utf8.decode
    simp only [n0, n1, n2]
    clear n0 n1 n2
    rw [if_neg (by omega), if_neg (by simp; omega), if_pos (by simp; omega), if_pos (by simp [Utf8.valid]; omega)]
    rw [Prod.mk.injEq]
    exact ⟨by omega, rfl⟩
  · obtain ⟨g0, _⟩ := get_byts s (k + 0) c (drop_get hl rfl)
    obtain ⟨g1, i1⟩ := get_byts s (k + 1) d (drop_get hl rfl)
    obtain ⟨g2, i2⟩ := get_byts s (k + 2) e (drop_get hl rfl)
    obtain ⟨g3, i3⟩ := get_byts s (k + 3) f (drop_get hl rfl)
    have t := tail_bd c
    have hlow : 65536 ≤ p := by unfold tailLo at h3; (repeat' split at h3) <;> omega
    have n0 : (s.get! (k + 0)).toNat = c.toNat := by omega
    have n1 : (s.get! (k + 1)).toNat = d.toNat := by omega
    have n2 : (s.get! (k + 2)).toNat = e.toNat := by omega
    have n3 : (s.get! (k + 3)).toNat = f.toNat := by omega
    have hc0 := hb c (by simp)
    clear g0 g1 g2 g3
    unfold Utf8.decode
    simp only [n0, n1, n2, n3]
    clear n0 n1 n2 n3
    rw [if_neg (by omega), if_neg (by simp; omega), if_neg (by simp; omega), if_pos (by simp; omega), if_pos (by simp [Utf8.valid]; omega)]
    rw [Prod.mk.injEq]
    exact ⟨by omega, rfl⟩
end Go.Proofs.Ytbeollddmglkcaa
