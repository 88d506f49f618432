/- The plain laws of UTF-8: what is decoded, what is encoded. -/
import Derived.Lib.RuneBytes
import Derived.IntWalk
namespace Go.Proofs.Ytjpbmeonkfkgdaa
open Go
def tailLo (c : Int) : Int := if c = 224 then 160 else if c = 240 then 144 else 128
def tailHi (c : Int) : Int := if c = 237 then 159 else if c = 244 then 143 else 191
def tailN (c : Int) : Int := if c < 128 then 1 else if c < 194 ∨ 244 < c then 0 else if c < 224 then 2 else if c < 240 then 3 else 4
def decL : Nat → List Int → Int → Nat → Int → Int → Int × Nat × Bool
  | 0, _, p, sz, _, _ => (p, sz, true)
  | _ + 1, [], _, sz, _, _ => (0, sz, false)
  | f + 1, c :: cs, p, sz, lo, hi => if c < lo ∨ hi < c then (0, sz, false) else decL f cs (p * 64 + c % 64) (sz + 1) 128 191
/-- what stands at the head of some bytes: the code point, its size, and whether it is complete. -/
def decF : List Int → Int × Nat × Bool
  | [] => (0, 0, false)
  | c :: cs => if tailN c = 0 then (0, 0, false) else if tailN c = 1 then (c, 1, true) else
      decL ((tailN c).toNat - 1) cs (if tailN c = 2 then c % 32 else if tailN c = 3 then c % 16 else c % 8) 1 (tailLo c) (tailHi c)
theorem decL_sz : ∀ (f : Nat) (cs : List Int) (p : Int) (sz : Nat) (lo hi : Int), (decL f cs p sz lo hi).2.2 = true → (decL f cs p sz lo hi).2.1 = sz + f ∧ f ≤ cs.length
  | 0, _, _, _, _, _, _ => ⟨rfl, Nat.zero_le _⟩
  | f + 1, [], _, _, _, _, h => by simp [decL] at h
  | f + 1, c :: cs, p, sz, lo, hi, h => by
    rw [decL] at h ⊢
    by_cases hc : c < lo ∨ hi < c
    · rw [if_pos hc] at h; cases h
    · rw [if_neg hc] at h ⊢
      obtain ⟨h1, h2⟩ := decL_sz f cs _ _ _ _ h
      exact ⟨by omega, by simp; omega⟩
theorem decF_sz (l : List Int) (h : (decF l).2.2 = true) : 1 ≤ (decF l).2.1 ∧ (decF l).2.1 ≤ l.length ∧ (decF l).2.1 ≤ 4 := by
  cases l with
  | nil => cases h
  | cons c cs =>
    rw [decF] at h ⊢
    by_cases h0 : tailN c = 0
    · rw [if_pos h0] at h; cases h
    · rw [if_neg h0] at h ⊢
      by_cases h1 : tailN c = 1
      · rw [if_pos h1]; simp
      · rw [if_neg h1] at h ⊢
        obtain ⟨e1, e2⟩ := decL_sz _ _ _ _ _ _ h
        have hN : tailN c = 2 ∨ tailN c = 3 ∨ tailN c = 4 := by
          have : tailN c = 0 ∨ tailN c = 1 ∨ tailN c = 2 ∨ tailN c = 3 ∨ tailN c = 4 := by unfold tailN; (repeat' split) <;> omega
          omega
        rw [e1]
        simp only [List.length_cons]
        omega
def firstF : Nat → Nat → List Int → Int
  | 0, _, _ => -1
  | _ + 1, _, [] => -1
  | f + 1, at_, c :: cs => if (decF (c :: cs)).2.2 then firstF f (at_ + (decF (c :: cs)).2.1) ((c :: cs).drop (decF (c :: cs)).2.1) else (at_ : Int)
def ptsF : Nat → List Int → Option (List Int)
  | 0, _ => none
  | _ + 1, [] => some []
  | f + 1, c :: cs => if (decF (c :: cs)).2.2 then (ptsF f ((c :: cs).drop (decF (c :: cs)).2.1)).map ((decF (c :: cs)).1 :: ·) else none
def ptsO (l : List Int) : Option (List Int) := ptsF (l.length + 1) l
theorem ptsF_eq : ∀ (f f' : Nat) (l : List Int), l.length < f → l.length < f' → ptsF f l = ptsF f' l
  | 0, _, _, h, _ => absurd h (by omega)
  | _ + 1, 0, _, _, h => absurd h (by omega)
  | f + 1, f' + 1, [], _, _ => rfl
  | f + 1, f' + 1, c :: cs, h, h' => by
    rw [ptsF, ptsF]
    by_cases hd : (decF (c :: cs)).2.2 = true
    · rw [if_pos hd, if_pos hd]
      have hz := decF_sz _ hd
      have hl : ((c :: cs).drop (decF (c :: cs)).2.1).length ≤ cs.length := by rw [List.length_drop, List.length_cons]; omega
      simp only [List.length_cons] at h h'
      rw [ptsF_eq f f' _ (by omega) (by omega)]
    · rw [if_neg hd, if_neg hd]
theorem ptsO_cons (c : Int) (cs : List Int) : ptsO (c :: cs) = if (decF (c :: cs)).2.2 then (ptsO ((c :: cs).drop (decF (c :: cs)).2.1)).map ((decF (c :: cs)).1 :: ·) else none := by
  unfold ptsO
  conv => lhs; rw [ptsF]
  by_cases hd : (decF (c :: cs)).2.2 = true
  · rw [if_pos hd, if_pos hd]
    have hz := decF_sz _ hd
    have hl : ((c :: cs).drop (decF (c :: cs)).2.1).length ≤ cs.length := by rw [List.length_drop, List.length_cons]; omega
    rw [ptsF_eq (c :: cs).length _ _ (by rw [List.length_cons]; omega) (Nat.lt_succ_self _)]
  · rw [if_neg hd, if_neg hd]
theorem firstF_neg : ∀ (f at_ : Nat) (l : List Int), l.length < f → (firstF f at_ l < 0 ↔ (ptsO l).isSome = true)
  | 0, _, _, h => absurd h (by omega)
  | f + 1, at_, [], _ => by simp [firstF, ptsO, ptsF]
  | f + 1, at_, c :: cs, h => by
    rw [firstF, ptsO_cons]
    by_cases hd : (decF (c :: cs)).2.2 = true
    · rw [if_pos hd, if_pos hd]
      have hz := decF_sz _ hd
      have hl : ((c :: cs).drop (decF (c :: cs)).2.1).length ≤ cs.length := by rw [List.length_drop, List.length_cons]; omega
      simp only [List.length_cons] at h
      rw [firstF_neg f _ _ (by omega), Option.isSome_map]
    · rw [if_neg hd, if_neg hd]; simp
def encU (p : Int) : List Int :=
  if p < 128 then [p] else if p < 2048 then [192 + p / 64, 128 + p % 64] else if p < 65536 then [224 + p / 4096, 128 + p / 64 % 64, 128 + p % 64]
  else [240 + p / 262144, 128 + p / 4096 % 64, 128 + p / 64 % 64, 128 + p % 64]
def isPoint (p : Int) : Bool := decide (0 ≤ p) && (decide (p ≤ 1114111) && !decide (p / 2048 = 27))
theorem isPoint_iff (p : Int) : isPoint p = true ↔ 0 ≤ p ∧ p ≤ 1114111 ∧ ¬ (55296 ≤ p ∧ p < 57344) := by
  unfold isPoint; simp; omega
/-- the string with some bytes. -/
def mkS (ns : List Int) : ByteArray := ns.foldl (fun r n => r.push (UInt8.ofNat n.toNat)) ByteArray.empty
def byts (s : ByteArray) : List Int := s.data.toList.map (fun c => (c.toNat : Int))
theorem mkS_data (ns : List Int) : ∀ r : ByteArray, (ns.foldl (fun r n => r.push (UInt8.ofNat n.toNat)) r).data.toList = r.data.toList ++ ns.map (fun n => UInt8.ofNat n.toNat) := by
  induction ns with
  | nil => intro r; simp
  | cons n ns ih =>
    intro r
    rw [List.foldl_cons, ih]
    show (r.data.push _).toList ++ _ = _
    simp
theorem byts_mkS (ns : List Int) (h : ∀ n ∈ ns, 0 ≤ n ∧ n ≤ 255) : byts (mkS ns) = ns := by
  unfold byts mkS
  rw [mkS_data, List.map_append, List.map_map]
  show [] ++ _ = ns
  rw [List.nil_append]
  conv => rhs; rw [← List.map_id ns]
  refine List.map_congr_left fun n hn => ?_
  have := h n hn
  simp only [Function.comp_def, id]
  rw [UInt8.toNat_ofNat_of_lt' (by show n.toNat < 256; omega)]
  omega
theorem byts_inj {a b : ByteArray} (h : byts a = byts b) : a = b := by
  have h2 : a.data.toList = b.data.toList := by
    unfold byts at h
    refine List.map_inj_right (fun x y hxy => ?_) |>.1 h
    have : x.toNat = y.toNat := by omega
    exact UInt8.toNat_inj.1 this
  cases a; cases b
  congr 1
  exact Array.toList_inj.1 h2
theorem byts_len (s : ByteArray) : (byts s).length = s.size := by unfold byts; rw [List.length_map, Array.length_toList]; rfl
theorem encU_bytes (p : Int) (h0 : 0 ≤ p) (h1 : p ≤ 1114111) : ∀ n ∈ encU p, 0 ≤ n ∧ n ≤ 255 := by
  intro n hn
  unfold encU at hn
  (repeat' split at hn) <;> simp at hn <;> omega
theorem encU_len (p : Int) : 1 ≤ (encU p).length ∧ (encU p).length ≤ 4 := by unfold encU; (repeat' split) <;> simp
end Go.Proofs.Ytjpbmeonkfkgdaa
