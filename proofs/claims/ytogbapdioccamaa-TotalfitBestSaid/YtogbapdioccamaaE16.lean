/- choose: what it keeps. -/
import Derived.Test.YtogbapdioccamaaE15
import Derived.Test.YtogbapdioccamaaQ2
namespace Go.Proofs.Ytogbapdioccamaa
open Go.RowKit

def cst (o : Option (Int × Nat)) : Int := match o with | none => 0 | some x => x.1
def nxt (o : Option (Int × Nat)) : Int := match o with | none => 0 | some x => (x.2 : Int)
/-- the choice among the next breaks, for costs v; it ends at a forced one. -/
def scanG (fb : Nat → Bool) (v : Nat → Int) : List Nat → Option (Int × Nat) → Option (Int × Nat)
  | [], acc => acc
  | b :: r, acc => if fb b = true then betterC acc (v b, b) else scanG fb v r (betterC acc (v b, b))
abbrev AccT := Nat → Option (Int × Nat)
def accB (A : AccT) : Array Value := #[.bool (A 0).isSome, .bool (A 1).isSome, .bool (A 2).isSome, .bool (A 3).isSome]
def accL (A : AccT) : Array Value := #[.int .i64 (cst (A 0)), .int .i64 (nxt (A 0)), .int .i64 (cst (A 1)), .int .i64 (nxt (A 1)), .int .i64 (cst (A 2)), .int .i64 (nxt (A 2)), .int .i64 (cst (A 3)), .int .i64 (nxt (A 3))]
def setA (A : AccT) (c : Nat) (x : Int × Nat) : AccT := fun i => if i = c then some x else A i
theorem four {c : Nat} (h : c < 4) : c = 0 ∨ c = 1 ∨ c = 2 ∨ c = 3 := by omega
theorem accB_at (A : AccT) {c : Nat} (h : c < 4) : (accB A)[c]? = some (.bool (A c).isSome) := by rcases four h with rfl | rfl | rfl | rfl <;> rfl
theorem accL_at0 (A : AccT) {c : Nat} (h : c < 4) : (accL A)[c * 2]? = some (.int .i64 (cst (A c))) := by rcases four h with rfl | rfl | rfl | rfl <;> rfl
theorem accL_at1 (A : AccT) {c : Nat} (h : c < 4) : (accL A)[c * 2 + 1]? = some (.int .i64 (nxt (A c))) := by rcases four h with rfl | rfl | rfl | rfl <;> rfl
theorem accB_set (A : AccT) {c : Nat} (h : c < 4) (x : Int × Nat) : (accB A).setIfInBounds c (.bool true) = accB (setA A c x) := by rcases four h with rfl | rfl | rfl | rfl <;> rfl
theorem accL_set (A : AccT) {c : Nat} (h : c < 4) (x : Int) (y : Nat) : ((accL A).setIfInBounds (c * 2) (.int .i64 x)).setIfInBounds (c * 2 + 1) (.int .i64 y) = accL (setA A c (x, y)) := by rcases four h with rfl | rfl | rfl | rfl <;> rfl
theorem setA_same (A : AccT) (c : Nat) (x : Int × Nat) : setA A c x c = some x := if_pos rfl
theorem setA_other (A : AccT) {c i : Nat} (x : Int × Nat) (h : i ≠ c) : setA A c x i = A i := if_neg h
/-- behind w the call has made its two tables. -/
structure CW (w wx : World) (A : AccT) : Prop where
  b0 : Blk wx w.heap.size 95 (accB A)
  b1 : Blk wx (w.heap.size + 1) 96 (accL A)
  bw : Below w.heap.size w wx
section
variable {w wx wy : World} {A : AccT}
theorem CW.drewN (h : CW w wx A) (d : Nat) : CW w (wx.drewN d) A := ⟨h.b0.drewN d, h.b1.drewN d, below_drewN h.bw d⟩
theorem CW.below (h : CW w wx A) (hb : Below wx.heap.size wx wy) : CW w wy A := ⟨h.b0.below hb, h.b1.below hb, below_trans' h.bw h.bw.size hb⟩
theorem CW.new (w : World) : CW w ((w.alloc (.cells (accB fun _ => none) 95)).alloc (.cells (accL fun _ => none) 96)) (fun _ => none) :=
  ⟨(Blk.new _ _ _).alloc _, Blk.new2 _ _ _ _, ((Below.refl _ _).alloc (Nat.le_refl _) _).alloc (by simp) _⟩
theorem CW.put (h : CW w wx A) {c : Nat} (hc : c < 4) (x : Int) (y : Nat) :
    CW w (((wx.setCell ⟨w.heap.size, c, none⟩ (.bool true)).setCell ⟨w.heap.size + 1, c * 2, none⟩ (.int .i64 x)).setCell ⟨w.heap.size + 1, c * 2 + 1, none⟩ (.int .i64 y)) (setA A c (x, y)) := by
  have h0 := h.b0.set_ c (.bool true)
  rw [accB_set A hc (x, y)] at h0
  have h1 := ((h.b1.other (g' := w.heap.size) (by omega) c (.bool true)).set_ (c * 2) (.int .i64 x)).set_ (c * 2 + 1) (.int .i64 y)
  rw [accL_set A hc x y] at h1
  exact ⟨(h0.other (by omega) _ _).other (by omega) _ _, h1, setBw (setBw (setBw h.bw (Nat.le_refl _) _ _) (by omega) _ _) (by omega) _ _⟩
end
theorem dem_bd {xs : List It} {x : Ln} {b : Nat} {a c : Int} (hx : LnOk x) (hc : -10000 ≤ (gT xs b).cost ∧ (gT xs b).cost ≤ 10000) : -200000000 ≤ demF 31680 xs x b a c ∧ demF 31680 xs x b a c ≤ 50000000000000 := by
  rw [demF_eq]
  have h1 := sq_bd hx.bad (costE_bd hc)
  have h2 : 0 ≤ fl3 (flagAt xs a) (flagAt xs b) ∧ fl3 (flagAt xs a) (flagAt xs b) ≤ 3000 := by unfold fl3; split <;> omega
  have h3 : 0 ≤ cl3 x.cls c ∧ cl3 x.cls c ≤ 3000 := by unfold cl3; split <;> omega
  have h4 : 0 ≤ ov x.over ∧ ov x.over ≤ 41680000000000 := by unfold ov; split <;> omega
  omega
/-- the costs of choose. -/
def vC (xs : List It) (ms : List Int) (f : Int → Int → Int → Int × Int) (a : Int) (k nk : Nat) (c : Nat) (b : Nat) : Int :=
  (f b nk (lineF xs ms a b k).cls).1 + demF 31680 xs (lineF xs ms a b k) b a c
/-- the map behind choose. -/
def chF (xs : List It) (ms : List Int) (f : Int → Int → Int → Int × Int) (a : Int) (k nk : Nat) (l : List Nat) : Int → Int → Int → Int × Int :=
  fun a' k' c' => if a' = a ∧ k' = k ∧ 0 ≤ c' ∧ c' < 4 then (cst (scanG (fun b => forcedI (gT xs b)) (vC xs ms f a k nk c'.toNat) l none), nxt (scanG (fun b => forcedI (gT xs b)) (vC xs ms f a k nk c'.toNat) l none)) else f a' k' c'
/-- .. when c of the four classes are written. -/
def chP (f : Int → Int → Int → Int × Int) (a : Int) (k : Nat) (A : AccT) (n : Nat) : Int → Int → Int → Int × Int :=
  fun a' k' c' => if a' = a ∧ k' = k ∧ 0 ≤ c' ∧ c' < n then (cst (A c'.toNat), nxt (A c'.toNat)) else f a' k' c'
theorem chP_zero (f : Int → Int → Int → Int × Int) (a : Int) (k : Nat) (A : AccT) : chP f a k A 0 = f := by
  funext a' k' c'
  unfold chP
  rw [if_neg (by omega)]
theorem chP_succ (f : Int → Int → Int → Int × Int) (a : Int) (k : Nat) (A : AccT) (n : Nat) : upd (chP f a k A n) a k n (cst (A n), nxt (A n)) = chP f a k A (n + 1) := by
  funext a' k' c'
  unfold upd chP
  by_cases h : a' = a ∧ k' = (k : Int) ∧ c' = (n : Int)
  · obtain ⟨rfl, rfl, rfl⟩ := h
    rw [if_pos ⟨rfl, rfl, rfl⟩, if_pos ⟨rfl, rfl, by omega, by omega⟩]
    simp
  · rw [if_neg h]
    by_cases h2 : a' = a ∧ k' = (k : Int) ∧ 0 ≤ c' ∧ c' < (n : Int)
    · rw [if_pos h2, if_pos ⟨h2.1, h2.2.1, h2.2.2.1, by omega⟩]
    · rw [if_neg h2, if_neg (by omega)]
theorem scanG_nil {fb : Nat → Bool} {v : Nat → Int} {acc : Option (Int × Nat)} : scanG fb v [] acc = acc := rfl
theorem drop_at {l : List Nat} {j : Nat} (h : j < l.length) : l.drop j = gN l j :: l.drop (j + 1) := by
  rw [List.drop_eq_getElem_cons h]
  have := gN_some h
  rw [List.getElem?_eq_getElem h] at this
  injection this with this
  rw [this]
end Go.Proofs.Ytogbapdioccamaa
