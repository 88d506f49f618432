/- Templates, plain: the scanner's parts. -/
import Derived.Test.YtjpbmeonkfkgdaaP4
namespace Go.Proofs.Ytjpbmeonkfkgdaa

structure Pt where
  lit : List UInt8
  lev : Int
  plain : Bool
  deriving DecidableEq
def flushP (lit : List UInt8) (ps : List Pt) : List Pt := if lit = [] then ps else ps ++ [⟨lit, 0, false⟩]
def digB (c : UInt8) : Bool := decide (49 ≤ (c.toNat : Int)) && decide ((c.toNat : Int) ≤ 57)
def placeP (lit : List UInt8) (ps : List Pt) (c : UInt8) (pl : Bool) : List Pt := flushP lit ps ++ [⟨[], (c.toNat : Int) - 48, pl⟩]
/-- the scan from a rest on: the literal, the parts, the places, the error. -/
def scanP : Nat → List UInt8 → List UInt8 → List Pt → Nat → List UInt8 × List Pt × Nat × Int
  | 0, _, lit, ps, pl => (lit, ps, pl, 0)
  | _ + 1, [], lit, ps, pl => (lit, ps, pl, 0)
  | f + 1, c :: r, lit, ps, pl =>
    if c = 37 then
      match r with
      | [] => (lit, ps, pl, 14)
      | d :: r2 =>
        if d = 37 then scanP f r2 (lit ++ [37]) ps pl
        else if digB d = true then scanP f r2 [] (placeP lit ps d false) (pl + 1)
        else if d = 100 then
          match r2 with
          | [] => (lit, ps, pl, 14)
          | k :: r3 => if digB k = true then scanP f r3 [] (placeP lit ps k true) (pl + 1) else (lit, ps, pl, 14)
        else (lit, ps, pl, 14)
    else scanP f r (lit ++ [c]) ps pl
def scanR (l : List UInt8) : List Pt × Int :=
  let x := scanP (l.length + 1) l [] [] 0
  (flushP x.1 x.2.1, if x.2.2.2 = 0 ∧ 9 < x.2.2.1 then 9 else x.2.2.2)
def ctlB (c : UInt8) : Bool := decide ((c.toNat : Int) < 32) || decide ((c.toNat : Int) = 127)
/-- what Parse returns. -/
def parseE (s : ByteArray) : Int :=
  if 64 < s.size then 10 else if (ptsO (byts s)).isSome = false then 12 else if s.data.toList.any ctlB = true then 5 else (scanR s.data.toList).2
def parseP (s : ByteArray) : List Pt := if parseE s = 0 then (scanR s.data.toList).1 else []
/-- what Check returns. -/
def checkE (s : ByteArray) (level : Int) : Int :=
  if level < 1 ∨ 9 < level then 2 else if parseE s = 0 ∧ (parseP s).any (fun p => decide (level < p.lev)) = true then 6 else parseE s
theorem scanP_fuel : ∀ (f f' : Nat) (l : List UInt8) (lit : List UInt8) (ps : List Pt) (pl : Nat), l.length < f → l.length < f' → scanP f l lit ps pl = scanP f' l lit ps pl
  | 0, _, _, _, _, _, h, _ => absurd h (Nat.not_lt_zero _)
  | _, 0, _, _, _, _, _, h => absurd h (Nat.not_lt_zero _)
  | f + 1, f' + 1, [], lit, ps, pl, _, _ => rfl
  | f + 1, f' + 1, c :: r, lit, ps, pl, h, h' => by
    have h1 : r.length < f := by simp only [List.length_cons] at h; omega
    have h2 : r.length < f' := by simp only [List.length_cons] at h'; omega
    unfold scanP
    by_cases hc : c = 37
    · rw [if_pos hc, if_pos hc]
      match r, h1, h2 with
      | [], _, _ => rfl
      | d :: r2, h1, h2 =>
        have h3 : r2.length < f := by simp only [List.length_cons] at h1; omega
        have h4 : r2.length < f' := by simp only [List.length_cons] at h2; omega
        simp only
        by_cases hd : d = 37
        · rw [if_pos hd, if_pos hd]
          exact scanP_fuel f f' r2 _ _ _ h3 h4
        · rw [if_neg hd, if_neg hd]
          by_cases hg : digB d = true
          · rw [if_pos hg, if_pos hg]
            exact scanP_fuel f f' r2 _ _ _ h3 h4
          · rw [if_neg hg, if_neg hg]
            by_cases h100 : d = 100
            · rw [if_pos h100, if_pos h100]
              match r2, h3, h4 with
              | [], _, _ => rfl
              | k :: r3, h3, h4 =>
                simp only
                by_cases hk : digB k = true
                · rw [if_pos hk, if_pos hk]
                  exact scanP_fuel f f' r3 _ _ _ (by simp only [List.length_cons] at h3; omega) (by simp only [List.length_cons] at h4; omega)
                · rw [if_neg hk, if_neg hk]
            · rw [if_neg h100, if_neg h100]
    · rw [if_neg hc, if_neg hc]
      exact scanP_fuel f f' r _ _ _ h1 h2
theorem t1 : checkE ⟨#[37, 49]⟩ 1 = 0 := by decide +kernel
theorem t2 : checkE ⟨#[37, 49, 46]⟩ 1 = 0 := by decide +kernel
theorem t3 : checkE ⟨#[37, 49, 46, 37, 50]⟩ 2 = 0 := by decide +kernel
end Go.Proofs.Ytjpbmeonkfkgdaa
