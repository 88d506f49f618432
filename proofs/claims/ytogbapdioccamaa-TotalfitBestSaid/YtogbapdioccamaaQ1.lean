/- The plain law of total fit: items, lines, demerits. -/
import Derived.IntWalk
namespace Go.Proofs.Ytogbapdioccamaa
structure It where
  kind : Int
  width : Int
  stretch : Int
  shrink : Int
  cost : Int
  flag : Bool
structure Ln where
  fr : Int
  to : Int
  br : Int
  meas : Int
  width : Int
  ratio : Int
  cls : Int
  bad : Int
  over : Int
  dem : Int
def it0 : It := ⟨0, 0, 0, 0, 0, false⟩
def gT (l : List It) (i : Nat) : It := l.getD i it0
theorem gT_some {l : List It} {i : Nat} (h : i < l.length) : l[i]? = some (gT l i) := by
  unfold gT; rw [List.getD_eq_getElem?_getD, List.getElem?_eq_getElem h]; rfl
theorem gT_mem {l : List It} {i : Nat} (h : i < l.length) : gT l i ∈ l := List.mem_of_getElem? (gT_some h)
/-- the error of an item: 0, or the number of the first error. MT: the greatest width. -/
def errI (MT eK eF eR : Int) (x : It) : Int :=
  if x.kind < 1 ∨ 3 < x.kind then eK
  else if (x.kind = 1 ∧ (x.stretch ≠ 0 ∨ x.shrink ≠ 0 ∨ x.cost ≠ 0 ∨ x.flag = true)) ∨ (x.kind = 2 ∧ (x.cost ≠ 0 ∨ x.flag = true)) ∨ (x.kind = 3 ∧ (x.stretch ≠ 0 ∨ x.shrink ≠ 0)) then eF
  else if x.width < 0 ∨ MT < x.width then eR
  else if x.kind = 2 ∧ (x.stretch < 0 ∨ 1048576 < x.stretch ∨ x.shrink < 0 ∨ x.width < x.shrink) then eR
  else if x.kind = 3 ∧ (x.cost < -10000 ∨ 10000 < x.cost) then eR
  else 0
def forcedI (x : It) : Bool := x.kind == 3 && x.cost == -10000
/-- what a right item is. -/
structure Right (MT : Int) (x : It) : Prop where
  k1 : 1 ≤ x.kind
  k3 : x.kind ≤ 3
  w0 : 0 ≤ x.width
  w1 : x.width ≤ MT
  y0 : 0 ≤ x.stretch
  y1 : x.stretch ≤ 1048576
  z0 : 0 ≤ x.shrink
  z1 : x.shrink ≤ x.width
  c0 : -10000 ≤ x.cost
  c1 : x.cost ≤ 10000
  noG : x.kind ≠ 2 → x.stretch = 0 ∧ x.shrink = 0
  noP : x.kind ≠ 3 → x.cost = 0 ∧ x.flag = false
theorem right_of {MT eK eF eR : Int} {x : It} (h : errI MT eK eF eR x = 0) (hK : eK ≠ 0) (hF : eF ≠ 0) (hR : eR ≠ 0) : Right MT x := by
  unfold errI at h
  by_cases a1 : x.kind < 1 ∨ 3 < x.kind
  · rw [if_pos a1] at h; exact absurd h hK
  rw [if_neg a1] at h
  by_cases a2 : (x.kind = 1 ∧ (x.stretch ≠ 0 ∨ x.shrink ≠ 0 ∨ x.cost ≠ 0 ∨ x.flag = true)) ∨ (x.kind = 2 ∧ (x.cost ≠ 0 ∨ x.flag = true)) ∨ (x.kind = 3 ∧ (x.stretch ≠ 0 ∨ x.shrink ≠ 0))
  · rw [if_pos a2] at h; exact absurd h hF
  rw [if_neg a2] at h
  by_cases a3 : x.width < 0 ∨ MT < x.width
  · rw [if_pos a3] at h; exact absurd h hR
  rw [if_neg a3] at h
  by_cases a4 : x.kind = 2 ∧ (x.stretch < 0 ∨ 1048576 < x.stretch ∨ x.shrink < 0 ∨ x.width < x.shrink)
  · rw [if_pos a4] at h; exact absurd h hR
  rw [if_neg a4] at h
  by_cases a5 : x.kind = 3 ∧ (x.cost < -10000 ∨ 10000 < x.cost)
  · rw [if_pos a5] at h; exact absurd h hR
  have hf : x.flag = true ∨ x.flag = false := by cases x.flag <;> simp
  rcases hf with hf | hf
  · simp only [hf, or_true, and_true] at a2
    exact ⟨by omega, by omega, by omega, by omega, by omega, by omega, by omega, by omega, by omega, by omega, fun hk => by omega, fun hk => by omega⟩
  · simp only [hf, Bool.false_eq_true, or_false] at a2
    exact ⟨by omega, by omega, by omega, by omega, by omega, by omega, by omega, by omega, by omega, by omega, fun hk => by omega, fun hk => ⟨by omega, hf⟩⟩
/-- sums over the items from i on, before k. -/
def wOf (x : It) : Int := if x.kind = 3 then 0 else x.width
def sumTo (f : It → Int) (l : List It) : Nat → Int
  | 0 => 0
  | i + 1 => sumTo f l i + f (gT l i)
theorem sumTo_bd {f : It → Int} {l : List It} {M : Int} (h0 : ∀ x ∈ l, 0 ≤ f x ∧ f x ≤ M) : ∀ {i : Nat}, i ≤ l.length → 0 ≤ sumTo f l i ∧ sumTo f l i ≤ i * M
  | 0, _ => by simp [sumTo]
  | i + 1, h => by
    have h1 := sumTo_bd h0 (i := i) (by omega)
    have h2 := h0 _ (gT_mem (l := l) (i := i) (by omega))
    unfold sumTo
    have : ((i + 1 : Nat) : Int) * M = i * M + M := by rw [Int.natCast_add, Int.add_mul]; simp
    omega
theorem sumTo_mono {f : It → Int} {l : List It} (h0 : ∀ x ∈ l, 0 ≤ f x) {i : Nat} : ∀ {k : Nat}, i ≤ k → k ≤ l.length → sumTo f l i ≤ sumTo f l k
  | 0, h, _ => by
    have : i = 0 := by omega
    subst this; exact Int.le_refl _
  | k + 1, h, hk => by
    rcases Nat.lt_or_ge i (k + 1) with h1 | h1
    · have h2 := sumTo_mono h0 (i := i) (k := k) (by omega) (by omega)
      have h3 := h0 _ (gT_mem (l := l) (i := k) (by omega))
      have e : sumTo f l (k + 1) = sumTo f l k + f (gT l k) := rfl
      omega
    · have : i = k + 1 := by omega
      subst this; exact Int.le_refl _
/-- the item with which a line begins: f steps at most from i on. -/
def startF (l : List It) : Nat → Nat → Nat
  | 0, i => i
  | f + 1, i => if (gT l i).kind = 1 ∨ forcedI (gT l i) = true then i else startF l f (i + 1)
def start (l : List It) (i : Nat) : Nat := startF l (l.length - i) i
/-- how well a line fits: ratio, over, badness. -/
def ratioOf (d y z : Int) : Int := if d = 0 then 0 else if 0 < d ∧ y = 0 then 10000 else if 0 < d then min (d * 1000 / y) 10000 else if -d ≤ z then -(-d * 1000 / z) else -1000
def overOf (d z : Int) : Int := if d < 0 ∧ z < -d then -d - z else 0
def badOf (d z r : Int) : Int := if d < 0 ∧ z < -d then 10000 else min (max r (-r) * max r (-r) * max r (-r) / 10000000) 10000
def clsOf (r : Int) : Int := if r < -500 then 0 else if r ≤ 500 then 1 else if r ≤ 1000 then 2 else 3
def measOf (m : List Int) (k : Nat) : Int := m.getD (min k (m.length - 1)) 0
def fromOf (l : List It) (a : Int) (b : Nat) : Nat := if 0 ≤ a then min (start l (a + 1).toNat) b else 0
def widthOf (l : List It) (f b : Nat) : Int := sumTo wOf l b - sumTo wOf l f + (if (gT l b).kind = 3 then (gT l b).width else 0)
/-- the line between two breaks, without its demerits. -/
def lineF (l : List It) (m : List Int) (a : Int) (b k : Nat) : Ln :=
  let f := fromOf l a b
  let w := widthOf l f b
  let d := measOf m k - w
  let y := sumTo (·.stretch) l b - sumTo (·.stretch) l f
  let z := sumTo (·.shrink) l b - sumTo (·.shrink) l f
  let r := ratioOf d y z
  ⟨f, b, b, measOf m k, w, r, clsOf r, badOf d z r, overOf d z, 0⟩
def flagAt (l : List It) (a : Int) : Bool := decide (0 ≤ a) && ((gT l a.toNat).kind == 3 && (gT l a.toNat).flag)
def demF (MT : Int) (l : List It) (x : Ln) (b : Nat) (before : Int) (cls : Int) : Int :=
  let c := if (gT l b).kind = 3 ∧ forcedI (gT l b) = false then (gT l b).cost else 0
  (if 0 ≤ c then (1 + x.bad + c) * (1 + x.bad + c) else (1 + x.bad) * (1 + x.bad) - c * c)
    + (if flagAt l before = true ∧ flagAt l b = true then 3000 else 0) + (if 1 < max (x.cls - cls) (cls - x.cls) then 3000 else 0)
    + (if 0 < x.over then 10000000000000 + 1000000000 * min x.over MT else 0)
end Go.Proofs.Ytogbapdioccamaa
