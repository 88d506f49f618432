/- Effects and counters: plain, and as rows of cells. -/
import Derived.Test.YtjpbmeonkfkgdaaF12
namespace Go.Proofs.Ytjpbmeonkfkgdaa
open Go.RowKit

structure Ch where
  fx : Bool
  st : Bool
  num : Int
  add : Int
  deriving DecidableEq
def chZ : Ch := ⟨false, false, 0, 0⟩
abbrev Eff := Nat → Ch
def effZ : Eff := fun _ => chZ
def chC (c : Ch) : List Value := [.bool c.fx, .bool c.st, .int .i64 c.num, .int .i64 c.add]
def upd {α : Type} (E : Nat → α) (k : Nat) (c : α) : Nat → α := fun i => if i = k then c else E i
def effL (E : Eff) : List Value := [.bool (E 0).fx, .bool (E 0).st, .int .i64 (E 0).num, .int .i64 (E 0).add, .bool (E 1).fx, .bool (E 1).st, .int .i64 (E 1).num, .int .i64 (E 1).add, .bool (E 2).fx, .bool (E 2).st, .int .i64 (E 2).num, .int .i64 (E 2).add, .bool (E 3).fx, .bool (E 3).st, .int .i64 (E 3).num, .int .i64 (E 3).add, .bool (E 4).fx, .bool (E 4).st, .int .i64 (E 4).num, .int .i64 (E 4).add, .bool (E 5).fx, .bool (E 5).st, .int .i64 (E 5).num, .int .i64 (E 5).add, .bool (E 6).fx, .bool (E 6).st, .int .i64 (E 6).num, .int .i64 (E 6).add, .bool (E 7).fx, .bool (E 7).st, .int .i64 (E 7).num, .int .i64 (E 7).add, .bool (E 8).fx, .bool (E 8).st, .int .i64 (E 8).num, .int .i64 (E 8).add]
def effA (E : Eff) : Array Value := (effL E).toArray
theorem effA_size (E : Eff) : (effA E).size = 36 := rfl
theorem effA_one (E : Eff) : (effA E).all (·.oneCell') = true := by simp [effA, effL, Value.oneCell']
theorem effA_congr {E F : Eff} (h : ∀ i, i < 9 → E i = F i) : effA E = effA F := by
  unfold effA effL
  rw [h 0 (by omega), h 1 (by omega), h 2 (by omega), h 3 (by omega), h 4 (by omega), h 5 (by omega), h 6 (by omega), h 7 (by omega), h 8 (by omega)]
theorem lt9 {p : Nat → Prop} (h0 : p 0) (h1 : p 1) (h2 : p 2) (h3 : p 3) (h4 : p 4) (h5 : p 5) (h6 : p 6) (h7 : p 7) (h8 : p 8) (k : Nat) (hk : k < 9) : p k := by
  match k, hk with
  | 0, _ => exact h0
  | 1, _ => exact h1
  | 2, _ => exact h2
  | 3, _ => exact h3
  | 4, _ => exact h4
  | 5, _ => exact h5
  | 6, _ => exact h6
  | 7, _ => exact h7
  | 8, _ => exact h8
theorem effA_0 (E : Eff) : ∀ k, k < 9 → (effA E)[k * 4]? = some (.bool (E k).fx) := lt9 rfl rfl rfl rfl rfl rfl rfl rfl rfl
theorem effA_1 (E : Eff) : ∀ k, k < 9 → (effA E)[k * 4 + 1]? = some (.bool (E k).st) := lt9 rfl rfl rfl rfl rfl rfl rfl rfl rfl
theorem effA_2 (E : Eff) : ∀ k, k < 9 → (effA E)[k * 4 + 2]? = some (.int .i64 (E k).num) := lt9 rfl rfl rfl rfl rfl rfl rfl rfl rfl
theorem effA_3 (E : Eff) : ∀ k, k < 9 → (effA E)[k * 4 + 3]? = some (.int .i64 (E k).add) := lt9 rfl rfl rfl rfl rfl rfl rfl rfl rfl
theorem effA_upd (E : Eff) (a b : Bool) (n m : Int) : ∀ k, k < 9 → ((((effA E).setIfInBounds (k * 4) (.bool a)).setIfInBounds (k * 4 + 1) (.bool b)).setIfInBounds (k * 4 + 2) (.int .i64 n)).setIfInBounds (k * 4 + 3) (.int .i64 m) = effA (upd E k ⟨a, b, n, m⟩) := lt9 rfl rfl rfl rfl rfl rfl rfl rfl rfl
/-- an effect in memory: a block of 36 cells. -/
theorem Blk.eff {w : World} {g : Nat} {t : TypeId} {E : Eff} (h : Blk w g t (effA E)) {k : Nat} (hk : k < 9) :
    w.cell? ⟨g, k * 4, none⟩ = some (.bool (E k).fx) ∧ w.cell? ⟨g, k * 4 + 1, none⟩ = some (.bool (E k).st) ∧ w.cell? ⟨g, k * 4 + 2, none⟩ = some (.int .i64 (E k).num) ∧ w.cell? ⟨g, k * 4 + 3, none⟩ = some (.int .i64 (E k).add) :=
  ⟨h.cell _ (effA_0 E k hk), h.cell _ (effA_1 E k hk), h.cell _ (effA_2 E k hk), h.cell _ (effA_3 E k hk)⟩
def stepF (start : Int) (c : Ch) (n : Int) (b : Bool) : Int × Bool := if c.fx = true then (c.num, c.st) else if c.add = 0 then (n, b) else if b = true then (n + c.add, true) else (start + c.add - 1, true)
def thenC (start : Int) (x y : Ch) : Ch := if y.fx = true then y else if x.fx = true then ⟨true, (stepF start y x.num x.st).2, (stepF start y x.num x.st).1, 0⟩ else ⟨false, false, 0, x.add + y.add⟩
def thenE (ls : List Lv) (k : Nat) (x y : Eff) : Eff := fun i => if i < k then thenC (gL ls i).start (x i) (y i) else chZ
theorem thenE_succ (ls : List Lv) (k : Nat) (x y : Eff) : thenE ls (k + 1) x y = upd (thenE ls k x y) k (thenC (gL ls k).start (x k) (y k)) := by
  funext i
  unfold thenE upd
  by_cases h : i = k
  · subst h; rw [if_pos (by omega), if_pos rfl]
  · by_cases h2 : i < k
    · rw [if_pos (by omega), if_neg h]; exact (if_pos h2).symm
    · rw [if_neg (by omega), if_neg h]; exact (if_neg h2).symm
set_option maxHeartbeats 4000000 in
theorem step_any (start : Int) (c : Ch) (n : Int) (b : Bool) (w : World) (h0 : IntKind.i64.wrap (n + c.add) = n + c.add) (h1 : IntKind.i64.wrap (start + c.add) = start + c.add) (h2 : IntKind.i64.wrap (start + c.add - 1) = start + c.add - 1) :
    Calls Try.prog 19 #[.int .i64 start, .agg #[.bool c.fx, .bool c.st, .int .i64 c.num, .int .i64 c.add], .int .i64 n, .bool b] w fun e w' => e = .returned (.tuple #[.int .i64 (stepF start c n b).1, .bool (stepF start c n b).2]) ∧ Below w.heap.size w w' := by
  obtain ⟨fx, st, num, add⟩ := c
  simp only at h0 h1 h2
  have hb := (Below.refl _ w).alloc (Nat.le_refl _) (.cells #[.bool fx, .bool st, .int .i64 num, .int .i64 add] 31)
  have HS := Lib.hid (show stepF start ⟨fx, st, num, add⟩ n b = if fx = true then (num, st) else if add = 0 then (n, b) else if b = true then (n + add, true) else (start + add - 1, true) from rfl)
  cases fx
  · by_cases ha : add = 0
    · subst ha
      go_enter Try.func19, Try.ntmps19
      go_wp2_with fail
      go_ret2
      rw [HS.out]
      exact ⟨rfl, hb⟩
    · cases b
      · go_enter Try.func19, Try.ntmps19
        go_wp2_with fail
        go_ret2
        rw [HS.out]
        exact ⟨by simp [ha], hb⟩
      · go_enter Try.func19, Try.ntmps19
        go_wp2_with fail
        go_ret2
        rw [HS.out]
        exact ⟨by simp [ha], hb⟩
  · go_enter Try.func19, Try.ntmps19
    go_upto_region 2 with fail
    go_quiet (fail)
    go_wp2_with fail
    go_ret2
    rw [HS.out]
    exact ⟨rfl, below_drewN hb _⟩
end Go.Proofs.Ytjpbmeonkfkgdaa
