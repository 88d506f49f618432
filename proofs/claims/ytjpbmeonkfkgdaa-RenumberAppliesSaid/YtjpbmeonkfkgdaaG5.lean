/- The law's effect: the fold of Of and Then. -/
import Derived.Test.YtjpbmeonkfkgdaaG4
import Derived.Deep.RegionLaw
import Derived.Deep.WholeRow
namespace Go.Proofs.Ytjpbmeonkfkgdaa
open Go.RowKit

structure Mk where
  list : Int
  level : Int
  restart : Int
def mkC (m : Mk) : List Value := [.int .i64 m.list, .int .i64 m.level, .int .i64 m.restart]
theorem mkC_len (m : Mk) : (mkC m).length = 3 := rfl
theorem mkC_one (m : Mk) : ∀ u ∈ mkC m, u.oneCell' = true := by intro u hu; simp [mkC] at hu; rcases hu with rfl | rfl | rfl <;> rfl
def gM (ms : List Mk) (k : Nat) : Mk := ms.getD k ⟨0, 0, 0⟩
def MkOk (n : Nat) (ms : List Mk) : Prop := ∀ i, i < ms.length → 1 ≤ (gM ms i).level ∧ (gM ms i).level ≤ n ∧ 0 ≤ (gM ms i).restart ∧ (gM ms i).restart ≤ 32767
theorem Sl.mk_ {w : World} {A : Option Addr} {n : Nat} {xs : List Mk} (h : Sl w 3 mkC A n xs) {k : Nat} (hk : k < n) :
    ∃ ad, A = some ad ∧ ad.block < w.heap.size ∧ w.cell? (ad.add (k * 3)) = some (.int .i64 (gM xs k).list) ∧ w.cell? ⟨(ad.add (k * 3)).block, (ad.add (k * 3)).off + 1, none⟩ = some (.int .i64 (gM xs k).level) ∧ w.cell? ⟨(ad.add (k * 3)).block, (ad.add (k * 3)).off + 2, none⟩ = some (.int .i64 (gM xs k).restart) := by
  obtain ⟨ad, e, hl, x, hx, hc⟩ := h.at_ hk
  have hg : gM xs k = x := by unfold gM; rw [List.getD_eq_getElem?_getD, hx]; rfl
  rw [hg]
  have f : ∀ j u, 0 < j → (mkC x)[j]? = some u → w.cell? ⟨(ad.add (k * 3)).block, (ad.add (k * 3)).off + j, none⟩ = some u := fun j u hj hu => by
    have : w.cell? ((ad.add (k * 3)).add j) = w.cell? ⟨(ad.add (k * 3)).block, (ad.add (k * 3)).off + j, none⟩ := by
      unfold Addr.add; simp [Nat.ne_of_gt hj]
    rw [← this, add_add_]; exact hc j u hu
  exact ⟨ad, e, hl, hc 0 _ rfl, f 1 _ (by omega) rfl, f 2 _ (by omega) rfl⟩
def effM (ls : List Lv) (n : Nat) (m : Mk) : Eff := effF ls n (m.level - 1).toNat m.restart
def foldE (ls : List Lv) (n : Nat) (ms : List Mk) : Eff := ms.foldl (fun e m => thenE ls n e (effM ls n m)) effZ
theorem foldE_take (ls : List Lv) (n : Nat) (ms : List Mk) {i : Nat} (h : i < ms.length) : foldE ls n (ms.take (i + 1)) = thenE ls n (foldE ls n (ms.take i)) (effM ls n (gM ms i)) := by
  have : gM ms i = ms[i] := by unfold gM; rw [List.getD_eq_getElem?_getD, List.getElem?_eq_getElem h]; rfl
  unfold foldE
  rw [List.take_succ_eq_append_getElem h, List.foldl_append, List.foldl_cons, List.foldl_nil, this]
theorem chZ_ok {M : Int} (h : 0 ≤ M) : ChOk M chZ := by unfold ChOk chZ; exact ⟨Int.le_refl _, by show (0 : Int) ≤ _; omega, Int.le_refl _, h⟩
theorem thenE_ok {ls : List Lv} {n : Nat} {M K : Int} {x y : Eff} (hL : LvOk n ls) (hx : ∀ i, ChOk M (x i)) (hy : ∀ i, ChOk K (y i)) (hM : 0 ≤ M) (hK : 0 ≤ K) : ∀ i, ChOk (M + K) (thenE ls n x y i) := by
  intro i
  unfold thenE
  by_cases h : i < n
  · rw [if_pos h]
    obtain ⟨a1, a2, a3, a4⟩ := hx i
    obtain ⟨b1, b2, b3, b4⟩ := hy i
    obtain ⟨s1, s2⟩ := hL i h
    unfold thenC
    by_cases f : (y i).fx = true
    · rw [if_pos f]; exact ⟨b1, by omega, b3, by omega⟩
    · rw [if_neg f]
      by_cases g : (x i).fx = true
      · rw [if_pos g]
        unfold stepF
        rw [if_neg f]
        by_cases z : (y i).add = 0
        · rw [if_pos z]; exact ⟨a1, by show (x i).num ≤ _; omega, by show (0 : Int) ≤ 0; omega, by show (0 : Int) ≤ _; omega⟩
        · rw [if_neg z]
          by_cases t : (x i).st = true
          · rw [if_pos t]; exact ⟨by show 0 ≤ (x i).num + (y i).add; omega, by show (x i).num + (y i).add ≤ _; omega, by show (0 : Int) ≤ 0; omega, by show (0 : Int) ≤ _; omega⟩
          · rw [if_neg t]; exact ⟨by show 0 ≤ (gL ls i).start + (y i).add - 1; omega, by show (gL ls i).start + (y i).add - 1 ≤ _; omega, by show (0 : Int) ≤ 0; omega, by show (0 : Int) ≤ _; omega⟩
      · rw [if_neg g]; exact ⟨by show (0 : Int) ≤ 0; omega, by show (0 : Int) ≤ _; omega, by show 0 ≤ (x i).add + (y i).add; omega, by show (x i).add + (y i).add ≤ _; omega⟩
  · rw [if_neg h]; exact chZ_ok (by omega)
theorem effF_ok (ls : List Lv) (n L : Nat) {r : Int} (h0 : 0 ≤ r) (h1 : r ≤ 32767) : ∀ i, ChOk 1 (effF ls n L r i) := by
  intro i
  show ChOk 1 (effP ls L r n i)
  rw [effP_at]
  split
  · split
    · exact ⟨h0, by show r ≤ _; omega, by show (0 : Int) ≤ 0; omega, by show (0 : Int) ≤ 1; omega⟩
    · exact ⟨by show (0 : Int) ≤ 0; omega, by show (0 : Int) ≤ _; omega, by show (0 : Int) ≤ 1; omega, by show (1 : Int) ≤ 1; omega⟩
  · split
    · exact ⟨by show (0 : Int) ≤ 0; omega, by show (0 : Int) ≤ _; omega, by show (0 : Int) ≤ 0; omega, by show (0 : Int) ≤ 1; omega⟩
    · exact chZ_ok (by omega)
theorem foldE_ok {ls : List Lv} {n : Nat} {ms : List Mk} (hL : LvOk n ls) (hm : MkOk n ms) : ∀ i, i ≤ ms.length → ∀ j, ChOk i (foldE ls n (ms.take i) j)
  | 0, _ => fun j => chZ_ok (by omega)
  | i + 1, h => by
    rw [foldE_take ls n ms h]
    have := thenE_ok hL (foldE_ok hL hm i (by omega)) (effF_ok ls n ((gM ms i).level - 1).toNat (hm i h).2.2.1 (hm i h).2.2.2) (by omega) (by omega)
    exact this
end Go.Proofs.Ytjpbmeonkfkgdaa
