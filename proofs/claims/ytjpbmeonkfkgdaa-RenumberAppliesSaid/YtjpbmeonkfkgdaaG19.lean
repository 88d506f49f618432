/- Counters: plain, and as rows of cells. -/
import Derived.Test.YtjpbmeonkfkgdaaG12
import Derived.Test.YtjpbmeonkfkgdaaG14
namespace Go.Proofs.Ytjpbmeonkfkgdaa
open Go.RowKit

/-- the state of a list's numbering: the number of a level, and whether it has started. -/
abbrev Cn := Nat → Int × Bool
def cnZ : Cn := fun _ => (0, false)
def cnL (c : Cn) : List Value := [.int .i64 (c 0).1, .int .i64 (c 1).1, .int .i64 (c 2).1, .int .i64 (c 3).1, .int .i64 (c 4).1, .int .i64 (c 5).1, .int .i64 (c 6).1, .int .i64 (c 7).1, .int .i64 (c 8).1, .bool (c 0).2, .bool (c 1).2, .bool (c 2).2, .bool (c 3).2, .bool (c 4).2, .bool (c 5).2, .bool (c 6).2, .bool (c 7).2, .bool (c 8).2]
def cnA (c : Cn) : Array Value := (cnL c).toArray
theorem cnA_L (c : Cn) : cnA c = (cnL c).toArray := rfl
theorem cnA_size (c : Cn) : (cnA c).size = 18 := rfl
theorem cnA_one (c : Cn) : (cnA c).all (·.oneCell') = true := by simp [cnA, cnL, Value.oneCell']
theorem cnL_one (c : Cn) : ∀ v ∈ cnL c, v.oneCell' = true := by intro v hv; simp [cnL] at hv; rcases hv with rfl | rfl | rfl | rfl | rfl | rfl | rfl | rfl | rfl | rfl | rfl | rfl | rfl | rfl | rfl | rfl | rfl | rfl <;> rfl
theorem cnA_congr {c d : Cn} (h : ∀ i, i < 9 → c i = d i) : cnA c = cnA d := by
  unfold cnA cnL
  rw [h 0 (by omega), h 1 (by omega), h 2 (by omega), h 3 (by omega), h 4 (by omega), h 5 (by omega), h 6 (by omega), h 7 (by omega), h 8 (by omega)]
theorem cnA_0 (c : Cn) : ∀ k, k < 9 → (cnA c)[k]? = some (.int .i64 (c k).1) := lt9 rfl rfl rfl rfl rfl rfl rfl rfl rfl
theorem cnA_1 (c : Cn) : ∀ k, k < 9 → (cnA c)[9 + k]? = some (.bool (c k).2) := lt9 rfl rfl rfl rfl rfl rfl rfl rfl rfl
theorem cnA_n (c : Cn) (n : Int) : ∀ k, k < 9 → (cnA c).setIfInBounds k (.int .i64 n) = cnA (upd c k (n, (c k).2)) := lt9 rfl rfl rfl rfl rfl rfl rfl rfl rfl
theorem cnA_s (c : Cn) (b : Bool) : ∀ k, k < 9 → (cnA c).setIfInBounds (9 + k) (.bool b) = cnA (upd c k ((c k).1, b)) := lt9 rfl rfl rfl rfl rfl rfl rfl rfl rfl
theorem Blk.cn {w : World} {g : Nat} {t : TypeId} {c : Cn} (h : Blk w g t (cnA c)) {k : Nat} (hk : k < 9) :
    w.cell? ⟨g, k, none⟩ = some (.int .i64 (c k).1) ∧ w.cell? ⟨g, 9 + k, none⟩ = some (.bool (c k).2) := ⟨h.cell _ (cnA_0 c k hk), h.cell _ (cnA_1 c k hk)⟩
theorem Blk.setn {w : World} {g : Nat} {t : TypeId} {c : Cn} (h : Blk w g t (cnA c)) {k : Nat} (hk : k < 9) (n : Int) : Blk (w.setCell ⟨g, k, none⟩ (.int .i64 n)) g t (cnA (upd c k (n, (c k).2))) := by
  have := h.set_ k (.int .i64 n)
  rw [cnA_n c n k hk] at this
  exact this
theorem Blk.sets {w : World} {g : Nat} {t : TypeId} {c : Cn} (h : Blk w g t (cnA c)) {k : Nat} (hk : k < 9) (b : Bool) : Blk (w.setCell ⟨g, 9 + k, none⟩ (.bool b)) g t (cnA (upd c k ((c k).1, b))) := by
  have := h.set_ (9 + k) (.bool b)
  rw [cnA_s c b k hk] at this
  exact this
theorem upd_upd' {α : Type} (E : Nat → α) (k : Nat) (c d : α) : upd (upd E k c) k d = upd E k d := by
  funext i
  by_cases h : i = k
  · simp [upd_at, h]
  · simp [upd_at, h]
theorem upd_self' {α : Type} (E : Nat → α) (k : Nat) (c : α) : upd E k c k = c := by rw [upd_at, if_pos rfl]
/-- both cells of a level. -/
theorem Blk.setns {w : World} {g : Nat} {t : TypeId} {c : Cn} (h : Blk w g t (cnA c)) {k : Nat} (hk : k < 9) (n : Int) (b : Bool) : Blk ((w.setCell ⟨g, k, none⟩ (.int .i64 n)).setCell ⟨g, 9 + k, none⟩ (.bool b)) g t (cnA (upd c k (n, b))) := by
  have := (h.setn hk n).sets hk b
  rw [upd_self', upd_upd'] at this
  exact this
theorem Blk.setsn {w : World} {g : Nat} {t : TypeId} {c : Cn} (h : Blk w g t (cnA c)) {k : Nat} (hk : k < 9) (n : Int) (b : Bool) : Blk ((w.setCell ⟨g, 9 + k, none⟩ (.bool b)).setCell ⟨g, k, none⟩ (.int .i64 n)) g t (cnA (upd c k (n, b))) := by
  have := (h.sets hk b).setn hk n
  rw [upd_self', upd_upd'] at this
  exact this
/-- the state behind an effect. -/
def applyE (ls : List Lv) (n : Nat) (E : Eff) (c : Cn) : Cn := fun i => if i < n then stepF (gL ls i).start (E i) (c i).1 (c i).2 else c i
def applyT (ls : List Lv) (k : Nat) (E : Eff) (c : Cn) : Cn := applyE ls k E c
theorem applyE_succ (ls : List Lv) (k : Nat) (E : Eff) (c : Cn) : applyE ls (k + 1) E c = upd (applyE ls k E c) k (stepF (gL ls k).start (E k) (c k).1 (c k).2) := by
  funext i
  rw [upd_at]
  unfold applyE
  by_cases h : i = k
  · subst h; rw [if_pos (by omega), if_pos rfl]
  · rw [if_neg h]
    by_cases h2 : i < k
    · rw [if_pos (by omega), if_pos h2]
    · rw [if_neg (by omega), if_neg h2]
theorem applyE_at (ls : List Lv) (k : Nat) (E : Eff) (c : Cn) : applyE ls k E c k = c k := by unfold applyE; rw [if_neg (by omega)]
/-- one paragraph more. -/
def nextC (ls : List Lv) (n : Nat) (c : Cn) (L : Nat) (r : Int) : Cn := fun i => if i = L then (if r ≠ 0 then (r, true) else if (c i).2 = true then ((c i).1 + 1, true) else ((gL ls i).start, true)) else if L < i ∧ i < n ∧ (L : Int) + 1 ≤ (gL ls i).restart then (0, false) else c i
theorem apply_next (ls : List Lv) (n : Nat) (c : Cn) (L : Nat) (r : Int) (hL : L < n) (hr : 0 ≤ r) : applyE ls n (effF ls n L r) c = nextC ls n c L r := by
  funext i
  have e1 : applyE ls n (effF ls n L r) c i = if i < n then stepF (gL ls i).start (effF ls n L r i) (c i).1 (c i).2 else c i := rfl
  have e2 : nextC ls n c L r i = if i = L then (if r ≠ 0 then (r, true) else if (c i).2 = true then ((c i).1 + 1, true) else ((gL ls i).start, true)) else if L < i ∧ i < n ∧ (L : Int) + 1 ≤ (gL ls i).restart then (0, false) else c i := rfl
  rw [e1, e2, effF_at]
  by_cases h : i = L
  · subst h
    rw [if_pos hL, if_pos rfl, if_pos rfl]
    by_cases h0 : 0 < r
    · rw [if_pos h0, if_pos (by omega)]; rfl
    · rw [if_neg h0, if_neg (by omega)]
      unfold stepF
      cases hs : (c i).2 <;> simp
  · rw [if_neg h, if_neg h]
    by_cases h2 : L < i ∧ i < n ∧ (L : Int) + 1 ≤ (gL ls i).restart
    · rw [if_pos h2.2.1, if_pos h2, if_pos h2]; rfl
    · rw [if_neg h2, if_neg h2]
      split
      · rfl
      · rfl
theorem step_then (s : Int) (x y : Ch) (n : Int) (b : Bool) (hx : 0 ≤ x.add) (hy : 0 ≤ y.add) : stepF s (thenC s x y) n b = stepF s y (stepF s x n b).1 (stepF s x n b).2 := by
  obtain ⟨xf, xs, xn, xa⟩ := x
  obtain ⟨yf, ys, yn, ya⟩ := y
  simp only at hx hy
  cases yf
  · cases xf
    · by_cases h0 : xa = 0
      · subst h0
        simp [thenC, stepF]
      · by_cases h1 : ya = 0
        · subst h1
          simp [thenC, stepF, h0]
        · have h2 : ¬ xa + ya = 0 := by omega
          cases b
          · simp [thenC, stepF, h0, h1, h2]; omega
          · simp [thenC, stepF, h0, h1, h2]; omega
    · simp [thenC, stepF]
  · simp [thenC, stepF]
theorem apply_then {ls : List Lv} {n : Nat} {x y : Eff} (c : Cn) (hx : Nrm n x) (hy : Nrm n y) : applyE ls n (thenE ls n x y) c = applyE ls n y (applyE ls n x c) := by
  funext i
  unfold applyE
  by_cases h : i < n
  · rw [if_pos h, if_pos h, if_pos h, thenE_at h]
    exact step_then _ _ _ _ _ (hx i).2.2.1 (hy i).2.2.1
  · rw [if_neg h, if_neg h, if_neg h]
def countC (ls : List Lv) (n : Nat) (c : Cn) (ms : List Mk) : Cn := ms.foldl (fun c m => nextC ls n c (m.level - 1).toNat m.restart) c
theorem countC_take (ls : List Lv) (n : Nat) (c : Cn) (ms : List Mk) {i : Nat} (h : i < ms.length) : countC ls n c (ms.take (i + 1)) = nextC ls n (countC ls n c (ms.take i)) ((gM ms i).level - 1).toNat (gM ms i).restart := by
  have : gM ms i = ms[i] := by unfold gM; rw [List.getD_eq_getElem?_getD, List.getElem?_eq_getElem h]; rfl
  unfold countC
  rw [List.take_succ_eq_append_getElem h, List.foldl_append, List.foldl_cons, List.foldl_nil, this]
theorem apply_fold {ls : List Lv} {n : Nat} {ms : List Mk} (c : Cn) (hm : MkOk n ms) : ∀ i, i ≤ ms.length → applyE ls n (foldE ls n (ms.take i)) c = countC ls n c (ms.take i)
  | 0, _ => by
    funext i
    show (if i < n then stepF _ chZ _ _ else _) = c i
    split
    · rfl
    · rfl
  | i + 1, h => by
    have hi := hm i h
    rw [foldE_take ls n ms h, countC_take ls n c ms h, apply_then c (nrm_fold hm i (by omega)) (show Nrm n (effM ls n (gM ms i)) from nrm_eff ls n _ _ (by omega)), apply_fold c hm i (by omega)]
    exact apply_next ls n _ _ _ (by omega) hi.2.2.1
theorem apply_fold_all {ls : List Lv} {n : Nat} {ms : List Mk} (c : Cn) (hm : MkOk n ms) : applyE ls n (foldE ls n ms) c = countC ls n c ms := by
  have := apply_fold (ls := ls) c hm ms.length (Nat.le_refl _)
  rw [List.take_length] at this
  exact this
/-- the numbers of a state are from 0 to M. -/
def CnOk (M : Int) (c : Cn) : Prop := ∀ i, 0 ≤ (c i).1 ∧ (c i).1 ≤ M
theorem cnZ_ok {M : Int} (h : 0 ≤ M) : CnOk M cnZ := fun _ => ⟨Int.le_refl _, h⟩
theorem next_ok {ls : List Lv} {n L : Nat} {r M : Int} {c : Cn} (hL : LvOk n ls) (h : L < n) (h0 : 0 ≤ r) (h1 : r ≤ 32767) (hM : 32767 ≤ M) (hc : CnOk M c) : CnOk (M + 1) (nextC ls n c L r) := by
  intro i
  have := hc i
  unfold nextC
  by_cases e : i = L
  · rw [if_pos e]
    split
    · exact ⟨h0, by show r ≤ _; omega⟩
    · split
      · exact ⟨by show 0 ≤ (c i).1 + 1; omega, by show (c i).1 + 1 ≤ _; omega⟩
      · have := hL i (by omega)
        exact ⟨this.1, by show (gL ls i).start ≤ _; omega⟩
  · rw [if_neg e]
    split
    · exact ⟨Int.le_refl _, by show (0 : Int) ≤ _; omega⟩
    · exact ⟨this.1, by omega⟩
theorem count_ok {ls : List Lv} {n : Nat} {M : Int} {c : Cn} {ms : List Mk} (hL : LvOk n ls) (hm : MkOk n ms) (hM : 32767 ≤ M) (hc : CnOk M c) : ∀ i, i ≤ ms.length → CnOk (M + i) (countC ls n c (ms.take i))
  | 0, _ => fun i => by have := hc i; exact ⟨this.1, by show (c i).1 ≤ M + 0; omega⟩
  | i + 1, h => by
    have hi := hm i h
    rw [countC_take ls n c ms h]
    have := next_ok (L := ((gM ms i).level - 1).toNat) hL (by omega) hi.2.2.1 hi.2.2.2 (by omega) (count_ok hL hm hM hc i (by omega))
    intro j
    have := this j
    exact ⟨this.1, by omega⟩
end Go.Proofs.Ytjpbmeonkfkgdaa
