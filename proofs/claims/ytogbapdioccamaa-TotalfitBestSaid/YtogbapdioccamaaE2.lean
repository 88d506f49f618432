/- Check, CheckMeasures and those of the model. -/
import Derived.Test.YtogbapdioccamaaE1
namespace Go.Proofs.Ytogbapdioccamaa
open Go.RowKit

theorem Sl.it {w : World} {A : Option Addr} {n : Nat} {xs : List It} (h : Sl w 6 itC A n xs) {k : Nat} (hk : k < n) :
    ∃ ad, A = some ad ∧ ad.block < w.heap.size ∧ w.cell? (ad.add (k * 6)) = some (.int .i64 (gT xs k).kind) ∧ w.cell? ⟨(ad.add (k * 6)).block, (ad.add (k * 6)).off + 1, none⟩ = some (.int .i64 (gT xs k).width) ∧ w.cell? ⟨(ad.add (k * 6)).block, (ad.add (k * 6)).off + 2, none⟩ = some (.int .i64 (gT xs k).stretch) ∧
      w.cell? ⟨(ad.add (k * 6)).block, (ad.add (k * 6)).off + 3, none⟩ = some (.int .i64 (gT xs k).shrink) ∧ w.cell? ⟨(ad.add (k * 6)).block, (ad.add (k * 6)).off + 4, none⟩ = some (.int .i64 (gT xs k).cost) ∧ w.cell? ⟨(ad.add (k * 6)).block, (ad.add (k * 6)).off + 5, none⟩ = some (.bool (gT xs k).flag) := by
  obtain ⟨ad, e, hl, x, hx, hc⟩ := h.at_ hk
  have hg : gT xs k = x := by unfold gT; rw [List.getD_eq_getElem?_getD, hx]; rfl
  rw [hg]
  have f : ∀ j u, 0 < j → (itC x)[j]? = some u → w.cell? ⟨(ad.add (k * 6)).block, (ad.add (k * 6)).off + j, none⟩ = some u := fun j u hj hu => by
    have : w.cell? ((ad.add (k * 6)).add j) = w.cell? ⟨(ad.add (k * 6)).block, (ad.add (k * 6)).off + j, none⟩ := by
      unfold Addr.add; simp [Nat.ne_of_gt hj]
    rw [← this, add_add_]; exact hc j u hu
  exact ⟨ad, e, hl, hc 0 _ rfl, f 1 _ (by omega) rfl, f 2 _ (by omega) rfl, f 3 _ (by omega) rfl, f 4 _ (by omega) rfl, f 5 _ (by omega) rfl⟩

/-- the first error of items. -/
def fstE : List It → Int
  | [] => 0
  | x :: l => if err x ≠ 0 then err x else fstE l
theorem fstE_at : ∀ (xs : List It) (k : Nat), k < xs.length → (∀ j, j < k → err (gT xs j) = 0) → err (gT xs k) ≠ 0 → fstE xs = err (gT xs k)
  | [], k, h, _, _ => absurd h (Nat.not_lt_zero _)
  | x :: l, 0, _, _, h => by unfold fstE; exact if_pos h
  | x :: l, k + 1, hk, h0, h => by
    unfold fstE
    rw [if_neg (by have : err x = 0 := h0 0 (by omega); simpa using this)]
    exact fstE_at l k (by simpa using hk) (fun j hj => h0 (j + 1) (by omega)) h
theorem fstE_none : ∀ (xs : List It), (∀ j, j < xs.length → err (gT xs j) = 0) → fstE xs = 0
  | [], _ => rfl
  | x :: l, h0 => by
    unfold fstE
    rw [if_neg (by have : err x = 0 := h0 0 (by simp); simpa using this)]
    exact fstE_none l (fun j hj => h0 (j + 1) (by simpa using hj))
theorem fstE_zero : ∀ (xs : List It), fstE xs = 0 → ∀ j, j < xs.length → err (gT xs j) = 0
  | [], _, j, hj => absurd hj (Nat.not_lt_zero _)
  | x :: l, h, j, hj => by
    unfold fstE at h
    by_cases he : err x ≠ 0
    · rw [if_pos he] at h; exact absurd h he
    · rw [if_neg he] at h
      cases j with
      | zero => exact Decidable.of_not_not he
      | succ j => exact fstE_zero l h j (by simpa using hj)
def chk (xs : List It) : Int :=
  if xs.length = 0 then 11 else if fstE xs ≠ 0 then fstE xs else if (gT xs (xs.length - 1)).kind = 3 ∧ (gT xs (xs.length - 1)).cost = -10000 then 0 else 6
theorem chk_nil {xs : List It} (h : xs.length = 0) : chk xs = 11 := if_pos h
theorem chk_at {xs : List It} {k : Nat} (hk : k < xs.length) (h0 : ∀ j, j < k → err (gT xs j) = 0) (h : err (gT xs k) ≠ 0) : chk xs = err (gT xs k) := by
  unfold chk; rw [if_neg (by omega), fstE_at xs k hk h0 h, if_pos h]
theorem chk_end {xs : List It} (hn : xs.length ≠ 0) (h0 : ∀ j, j < xs.length → err (gT xs j) = 0) : chk xs = if (gT xs (xs.length - 1)).kind = 3 ∧ (gT xs (xs.length - 1)).cost = -10000 then 0 else 6 := by
  unfold chk; rw [if_neg hn, fstE_none xs h0, if_neg (by simp)]
def fstM : List Int → Int
  | [] => 0
  | m :: l => if m < 1 ∨ 31680 < m then 32 else fstM l
theorem fstM_at : ∀ (xs : List Int) (k : Nat), k < xs.length → (gI xs k < 1 ∨ 31680 < gI xs k) → fstM xs = 32
  | [], k, h, _ => absurd h (Nat.not_lt_zero _)
  | x :: l, 0, _, h => by unfold fstM; exact if_pos h
  | x :: l, k + 1, hk, h => by
    unfold fstM
    split
    · rfl
    · exact fstM_at l k (by simpa using hk) h
theorem fstM_none : ∀ (xs : List Int), (∀ j, j < xs.length → 1 ≤ gI xs j ∧ gI xs j ≤ 31680) → fstM xs = 0
  | [], _ => rfl
  | x :: l, h0 => by
    unfold fstM
    rw [if_neg (by have := h0 0 (by simp); simp only [gI, List.getD_cons_zero] at this; omega)]
    exact fstM_none l (fun j hj => h0 (j + 1) (by simpa using hj))
theorem fstM_zero : ∀ (xs : List Int), fstM xs = 0 → ∀ j, j < xs.length → 1 ≤ gI xs j ∧ gI xs j ≤ 31680
  | [], _, j, hj => absurd hj (Nat.not_lt_zero _)
  | x :: l, h, j, hj => by
    unfold fstM at h
    by_cases he : x < 1 ∨ 31680 < x
    · rw [if_pos he] at h; exact absurd h (by omega)
    · rw [if_neg he] at h
      cases j with
      | zero => simp only [gI, List.getD_cons_zero]; omega
      | succ j => exact fstM_zero l h j (by simpa using hj)
def chkM (ms : List Int) : Int := if ms.length = 0 then 11 else if 8 < ms.length then 9 else fstM ms
def chkB (xs : List It) (ms : List Int) : Int := if chk xs ≠ 0 then chk xs else chkM ms

theorem forced_any (x : It) (w : World) :
    Calls Try.prog 38 #[itV x] w fun e w' => e = .returned (.bool (decide (x.kind = 3 ∧ x.cost = -10000))) ∧ Below w.heap.size w w' := by
  obtain ⟨k, wi, y, z, c, fl⟩ := x
  unfold itV
  by_cases h1 : k = 3
  · by_cases h2 : c = -10000
    · subst h1 h2
      go_enter Try.func38, Try.ntmps38
      go_wp2
      go_ret
      exact ⟨rfl, (Below.refl _ _).alloc (by simp) _⟩
    · subst h1
      have h3 : (c == -10000) = false := by simpa using h2
      go_enter Try.func38, Try.ntmps38
      go_wp2
      go_ret
      exact ⟨ret_bool (by simp [h2]), (Below.refl _ _).alloc (by simp) _⟩
  · have h3 : (k == 3) = false := by simpa using h1
    go_enter Try.func38, Try.ntmps38
    go_wp2
    go_ret
    exact ⟨ret_bool (by simp [h1]), (Below.refl _ _).alloc (by simp) _⟩
end Go.Proofs.Ytogbapdioccamaa
