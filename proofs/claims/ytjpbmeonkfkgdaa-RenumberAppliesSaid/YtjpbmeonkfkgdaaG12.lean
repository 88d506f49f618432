/- The definition of an effect's fold, as the law computes it: foldE level by level. -/
import Derived.Test.YtjpbmeonkfkgdaaG6
import Derived.Test.YtjpbmeonkfkgdaaG7
namespace Go.Proofs.Ytjpbmeonkfkgdaa
open Go.RowKit

theorem thenE_at {ls : List Lv} {n : Nat} {x y : Eff} {j : Nat} (h : j < n) : thenE ls n x y j = thenC (gL ls j).start (x j) (y j) := by
  show (if j < n then _ else _) = _
  rw [if_pos h]
theorem effF_at (ls : List Lv) (n L : Nat) (r : Int) (j : Nat) : effF ls n L r j = if j = L then (if 0 < r then ⟨true, true, r, 0⟩ else ⟨false, false, 0, 1⟩) else if L < j ∧ j < n ∧ (L : Int) + 1 ≤ (gL ls j).restart then ⟨true, false, 0, 0⟩ else chZ := rfl
/-- one paragraph more, at the level j. -/
theorem foldJ_succ {ls : List Lv} {n : Nat} {ms : List Mk} {i j : Nat} (hi : i < ms.length) (hj : j < n) : foldE ls n (ms.take (i + 1)) j = thenC (gL ls j).start (foldE ls n (ms.take i) j) (effF ls n ((gM ms i).level - 1).toNat (gM ms i).restart j) := by
  rw [foldE_take ls n ms hi, thenE_at hj]; rfl
def NrC (c : Ch) : Prop := (c.fx = false → c.st = false ∧ c.num = 0) ∧ (c.fx = true → c.add = 0)
theorem thenC_restart (s : Int) (c : Ch) (n : Nat) {ls : List Lv} {L j : Nat} {q : Int} (hL : L = j) (hq : 0 < q) : thenC s c (effF ls n L q j) = ⟨true, true, q, 0⟩ := by
  rw [effF_at, if_pos hL.symm, if_pos hq]; rfl
theorem thenC_same (s : Int) (c : Ch) (n : Nat) {ls : List Lv} {L j : Nat} (hL : L = j) : thenC s c (effF ls n L 0 j) = if c.fx = true then (if c.st = true then ⟨true, true, c.num + 1, 0⟩ else ⟨true, true, s, 0⟩) else ⟨false, false, 0, c.add + 1⟩ := by
  rw [effF_at, if_pos hL.symm, if_neg (by omega)]
  obtain ⟨f, t, m, a⟩ := c
  cases f <;> cases t <;> simp [thenC, stepF]
  all_goals omega
theorem thenC_reset (s : Int) (c : Ch) (n : Nat) {ls : List Lv} {L j : Nat} {q : Int} (hL : L < j) (hj : j < n) (hr : (L : Int) + 1 ≤ (gL ls j).restart) : thenC s c (effF ls n L q j) = ⟨true, false, 0, 0⟩ := by
  rw [effF_at, if_neg (by omega), if_pos ⟨hL, hj, hr⟩]; rfl
theorem thenC_none (s : Int) (c : Ch) (n : Nat) {ls : List Lv} {L j : Nat} {q : Int} (hc : NrC c) (hL : ¬ L = j) (hr : ¬ (L < j ∧ (L : Int) + 1 ≤ (gL ls j).restart)) : thenC s c (effF ls n L q j) = c := by
  rw [effF_at, if_neg (fun e => hL e.symm), if_neg (fun h => hr ⟨h.1, h.2.2⟩)]
  obtain ⟨f, t, m, a⟩ := c
  obtain ⟨h1, h2⟩ := hc
  cases f
  · obtain ⟨rfl, rfl⟩ := h1 rfl
    simp [thenC, chZ]
  · have := h2 rfl
    simp only at this
    subst this
    simp [thenC, stepF, chZ]
def foldJ (F : Eff) (j : Nat) : Eff := fun k => if k < j then F k else chZ
theorem foldJ_zero (F : Eff) : foldJ F 0 = effZ := by funext k; unfold foldJ; rw [if_neg (by omega)]; rfl
theorem foldJ_step (F : Eff) (j : Nat) : foldJ F (j + 1) = upd (foldJ F j) j (F j) := by
  funext k
  rw [upd_at]
  unfold foldJ
  by_cases h : k = j
  · subst h; rw [if_pos (by omega), if_pos rfl]
  · rw [if_neg h]
    by_cases h2 : k < j
    · rw [if_pos (by omega), if_pos h2]
    · rw [if_neg (by omega), if_neg h2]
theorem foldJ_end {F : Eff} {n : Nat} (hF : ∀ i, n ≤ i → F i = chZ) : foldJ F n = F := by
  funext k
  unfold foldJ
  by_cases h : k < n
  · rw [if_pos h]
  · rw [if_neg h, hF k (by omega)]
theorem foldJ_first (F : Eff) (j : Nat) : upd (foldJ F j) j chZ = foldJ F j := by
  funext k
  rw [upd_at]
  by_cases h : k = j
  · subst h; rw [if_pos rfl]; unfold foldJ; rw [if_neg (by omega)]
  · rw [if_neg h]
theorem effA_n (E : Eff) (n : Int) : ∀ k, k < 9 → (effA E).setIfInBounds (k * 4 + 2) (.int .i64 n) = effA (upd E k ⟨(E k).fx, (E k).st, n, (E k).add⟩) := lt9 rfl rfl rfl rfl rfl rfl rfl rfl rfl
theorem effA_a (E : Eff) (n : Int) : ∀ k, k < 9 → (effA E).setIfInBounds (k * 4 + 3) (.int .i64 n) = effA (upd E k ⟨(E k).fx, (E k).st, (E k).num, n⟩) := lt9 rfl rfl rfl rfl rfl rfl rfl rfl rfl
theorem effA_sn (E : Eff) (b : Bool) (n : Int) : ∀ k, k < 9 → ((effA E).setIfInBounds (k * 4 + 1) (.bool b)).setIfInBounds (k * 4 + 2) (.int .i64 n) = effA (upd E k ⟨(E k).fx, b, n, (E k).add⟩) := lt9 rfl rfl rfl rfl rfl rfl rfl rfl rfl
theorem upd_self (E : Eff) (k : Nat) (c : Ch) : upd E k c k = c := by rw [upd_at, if_pos rfl]
/-- the cell 'num' alone. -/
theorem EW.num {w : World} {B p6 p7 : Nat} {Z : Eff} {c : Ch} {k : Nat} (h : EW w B p6 p7 (upd Z k c)) (hk : k < 9) (m : Int) : EW (w.setCell ⟨p7, k * 4 + 2, none⟩ (.int .i64 m)) B p6 p7 (upd Z k ⟨c.fx, c.st, m, c.add⟩) := by
  have e := h.b7.set_ (k * 4 + 2) (.int .i64 m)
  rw [effA_n _ _ k hk, upd_upd, upd_self] at e
  exact ⟨h.b6.keep (gset w p7 _ _) (fun e => h.n6 (by injection e)), e, h.n6, h.m6, h.m7⟩
theorem EW.add_ {w : World} {B p6 p7 : Nat} {Z : Eff} {c : Ch} {k : Nat} (h : EW w B p6 p7 (upd Z k c)) (hk : k < 9) (m : Int) : EW (w.setCell ⟨p7, k * 4 + 3, none⟩ (.int .i64 m)) B p6 p7 (upd Z k ⟨c.fx, c.st, c.num, m⟩) := by
  have e := h.b7.set_ (k * 4 + 3) (.int .i64 m)
  rw [effA_a _ _ k hk, upd_upd, upd_self] at e
  exact ⟨h.b6.keep (gset w p7 _ _) (fun e => h.n6 (by injection e)), e, h.n6, h.m6, h.m7⟩
theorem EW.stn {w : World} {B p6 p7 : Nat} {Z : Eff} {c : Ch} {k : Nat} (h : EW w B p6 p7 (upd Z k c)) (hk : k < 9) (b : Bool) (m : Int) : EW ((w.setCell ⟨p7, k * 4 + 1, none⟩ (.bool b)).setCell ⟨p7, k * 4 + 2, none⟩ (.int .i64 m)) B p6 p7 (upd Z k ⟨c.fx, b, m, c.add⟩) := by
  have e := (h.b7.set_ (k * 4 + 1) (.bool b)).set_ (k * 4 + 2) (.int .i64 m)
  rw [effA_sn _ _ _ k hk, upd_upd, upd_self] at e
  exact ⟨h.b6.keep (only_set (gset w p7 _ _) _ _) (fun e => h.n6 (by injection e)), e, h.n6, h.m6, h.m7⟩
end Go.Proofs.Ytjpbmeonkfkgdaa
