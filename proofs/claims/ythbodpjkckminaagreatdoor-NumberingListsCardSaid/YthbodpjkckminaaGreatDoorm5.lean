/- Effects and counters: plain, and as rows of cells. renumber.Then. renumber.effect, the law's effectOf, checkMark, Of. renumber.checkMark, Of. The law's effect: the fold of Of and Then. The law's effect. Effects, plain: Then is associative, the zero effect neutral. The definition of an effect's fold, as the law computes it: foldE level by level. Two effects compared: the run of '==' at arrays of nine changes. Counters: plain, and as rows of cells. -/
import Derived.Test.YthbodpjkckminaaGreatDoorm4
import Derived.Laws.CopyOwn
import Derived.Deep.RegionLaw
import Derived.Deep.WholeRow
import Derived.Laws.StructEq
namespace Go.Proofs.YthbodpjkckminaaGreatDoor
open Go.RowKit

structure Ch where
  fx : Bool
  st : Bool
  num : Int
  add : Int
  deriving DecidableEq
def chZ : Ch := ⟨false, false, 0, 0⟩
abbrev Eff := Nat → Ch
def effZ : Eff := fun _ => chZ
def chC (c : Ch) : List Value := [.bool c.fx, .bool c.st, .int .i64 c.num, .int .i64 c.add]
def upd {α : Type} (E : Nat → α) (k : Nat) (c : α) : Nat → α := fun i => if i = k then c else E i
def effL (E : Eff) : List Value := [.bool (E 0).fx, .bool (E 0).st, .int .i64 (E 0).num, .int .i64 (E 0).add, .bool (E 1).fx, .bool (E 1).st, .int .i64 (E 1).num, .int .i64 (E 1).add, .bool (E 2).fx, .bool (E 2).st, .int .i64 (E 2).num, .int .i64 (E 2).add, .bool (E 3).fx, .bool (E 3).st, .int .i64 (E 3).num, .int .i64 (E 3).add, .bool (E 4).fx, .bool (E 4).st, .int .i64 (E 4).num, .int .i64 (E 4).add, .bool (E 5).fx, .bool (E 5).st, .int .i64 (E 5).num, .int .i64 (E 5).add, .bool (E 6).fx, .bool (E 6).st, .int .i64 (E 6).num, .int .i64 (E 6).add, .bool (E 7).fx, .bool (E 7).st, .int .i64 (E 7).num, .int .i64 (E 7).add, .bool (E 8).fx, .bool (E 8).st, .int .i64 (E 8).num, .int .i64 (E 8).add]
def effA (E : Eff) : Array Value := (effL E).toArray
theorem effA_size (E : Eff) : (effA E).size = 36 := rfl
theorem effA_one (E : Eff) : (effA E).all (·.oneCell') = true := by simp [effA, effL, Value.oneCell']
theorem effA_congr {E F : Eff} (h : ∀ i, i < 9 → E i = F i) : effA E = effA F := by
  unfold effA effL
  rw [h 0 (by omega), h 1 (by omega), h 2 (by omega), h 3 (by omega), h 4 (by omega), h 5 (by omega), h 6 (by omega), h 7 (by omega), h 8 (by omega)]
theorem lt9 {p : Nat → Prop} (h0 : p 0) (h1 : p 1) (h2 : p 2) (h3 : p 3) (h4 : p 4) (h5 : p 5) (h6 : p 6) (h7 : p 7) (h8 : p 8) (k : Nat) (hk : k < 9) : p k := by
  match k, hk with
  | 0, _ => exact h0
  | 1, _ => exact h1
  | 2, _ => exact h2
  | 3, _ => exact h3
  | 4, _ => exact h4
  | 5, _ => exact h5
  | 6, _ => exact h6
  | 7, _ => exact h7
  | 8, _ => exact h8
theorem effA_0 (E : Eff) : ∀ k, k < 9 → (effA E)[k * 4]? = some (.bool (E k).fx) := lt9 rfl rfl rfl rfl rfl rfl rfl rfl rfl
theorem effA_1 (E : Eff) : ∀ k, k < 9 → (effA E)[k * 4 + 1]? = some (.bool (E k).st) := lt9 rfl rfl rfl rfl rfl rfl rfl rfl rfl
theorem effA_2 (E : Eff) : ∀ k, k < 9 → (effA E)[k * 4 + 2]? = some (.int .i64 (E k).num) := lt9 rfl rfl rfl rfl rfl rfl rfl rfl rfl
theorem effA_3 (E : Eff) : ∀ k, k < 9 → (effA E)[k * 4 + 3]? = some (.int .i64 (E k).add) := lt9 rfl rfl rfl rfl rfl rfl rfl rfl rfl
theorem effA_upd (E : Eff) (a b : Bool) (n m : Int) : ∀ k, k < 9 → ((((effA E).setIfInBounds (k * 4) (.bool a)).setIfInBounds (k * 4 + 1) (.bool b)).setIfInBounds (k * 4 + 2) (.int .i64 n)).setIfInBounds (k * 4 + 3) (.int .i64 m) = effA (upd E k ⟨a, b, n, m⟩) := lt9 rfl rfl rfl rfl rfl rfl rfl rfl rfl
/-- an effect in memory: a block of 36 cells. -/
theorem Blk.eff {w : World} {g : Nat} {t : TypeId} {E : Eff} (h : Blk w g t (effA E)) {k : Nat} (hk : k < 9) :
    w.cell? ⟨g, k * 4, none⟩ = some (.bool (E k).fx) ∧ w.cell? ⟨g, k * 4 + 1, none⟩ = some (.bool (E k).st) ∧ w.cell? ⟨g, k * 4 + 2, none⟩ = some (.int .i64 (E k).num) ∧ w.cell? ⟨g, k * 4 + 3, none⟩ = some (.int .i64 (E k).add) :=
  ⟨h.cell _ (effA_0 E k hk), h.cell _ (effA_1 E k hk), h.cell _ (effA_2 E k hk), h.cell _ (effA_3 E k hk)⟩
def stepF (start : Int) (c : Ch) (n : Int) (b : Bool) : Int × Bool := if c.fx = true then (c.num, c.st) else if c.add = 0 then (n, b) else if b = true then (n + c.add, true) else (start + c.add - 1, true)
def thenC (start : Int) (x y : Ch) : Ch := if y.fx = true then y else if x.fx = true then ⟨true, (stepF start y x.num x.st).2, (stepF start y x.num x.st).1, 0⟩ else ⟨false, false, 0, x.add + y.add⟩
def thenE (ls : List Lv) (k : Nat) (x y : Eff) : Eff := fun i => if i < k then thenC (gL ls i).start (x i) (y i) else chZ
theorem thenE_succ (ls : List Lv) (k : Nat) (x y : Eff) : thenE ls (k + 1) x y = upd (thenE ls k x y) k (thenC (gL ls k).start (x k) (y k)) := by
  funext i
  unfold thenE upd
  by_cases h : i = k
  · subst h; rw [if_pos (by omega), if_pos rfl]
  · by_cases h2 : i < k
    · rw [if_pos (by omega), if_neg h]; exact (if_pos h2).symm
    · rw [if_neg (by omega), if_neg h]; exact (if_neg h2).symm
end Go.Proofs.YthbodpjkckminaaGreatDoor

namespace Go.Proofs.YthbodpjkckminaaGreatDoor
open Go.RowKit

def ChOk (M : Int) (c : Ch) : Prop := 0 ≤ c.num ∧ c.num ≤ 32767 + M ∧ 0 ≤ c.add ∧ c.add ≤ M
def LvOk (n : Nat) (ls : List Lv) : Prop := ∀ i, i < n → 0 ≤ (gL ls i).start ∧ (gL ls i).start ≤ 32767
theorem only_set4 (w : World) (g k : Nat) (a b c d : Value) : w.grownBy ((((w.setCell ⟨g, k, none⟩ a).setCell ⟨g, k + 1, none⟩ b).setCell ⟨g, k + 2, none⟩ c).setCell ⟨g, k + 3, none⟩ d) (some g) :=
  only_set (only_set (only_set (gset w g k a) _ b) _ c) _ d
theorem cell_set4 (w : World) {g h : Nat} (hn : h ≠ g) (k j : Nat) (a b c d : Value) : ((((w.setCell ⟨g, k, none⟩ a).setCell ⟨g, k + 1, none⟩ b).setCell ⟨g, k + 2, none⟩ c).setCell ⟨g, k + 3, none⟩ d).cell? ⟨h, j, none⟩ = w.cell? ⟨h, j, none⟩ := by
  rw [World.cell?_setCell_other (h := fun e => hn (by injection e with e; exact e.symm)), World.cell?_setCell_other (h := fun e => hn (by injection e with e; exact e.symm)), World.cell?_setCell_other (h := fun e => hn (by injection e with e; exact e.symm)), World.cell?_setCell_other (h := fun e => hn (by injection e with e; exact e.symm))]
theorem cell_set4d (w : World) {g h : Nat} (hn : h ≠ g) (k j : Nat) (a b c d v : Value) (e : w.cell? ⟨h, j, none⟩ = some v) : ((((w.setCell ⟨g, k, none⟩ a).setCell ⟨g, k + 1, none⟩ b).setCell ⟨g, k + 2, none⟩ c).setCell ⟨g, k + 3, none⟩ d).drew.cell? ⟨h, j, none⟩ = some v := (cell_set4 w hn k j a b c d).trans e
theorem Blk.set4 {w : World} {g : Nat} {t : TypeId} {E : Eff} (h : Blk w g t (effA E)) {k : Nat} (hk : k < 9) (a b : Bool) (n m : Int) : Blk ((((w.setCell ⟨g, k * 4, none⟩ (.bool a)).setCell ⟨g, k * 4 + 1, none⟩ (.bool b)).setCell ⟨g, k * 4 + 2, none⟩ (.int .i64 n)).setCell ⟨g, k * 4 + 3, none⟩ (.int .i64 m)) g t (effA (upd E k ⟨a, b, n, m⟩)) := by
  have := (((h.set_ (k * 4) (.bool a)).set_ (k * 4 + 1) (.bool b)).set_ (k * 4 + 2) (.int .i64 n)).set_ (k * 4 + 3) (.int .i64 m)
  rw [effA_upd E a b n m k hk] at this
  exact this
theorem below_set4 {B : Nat} {w0 w : World} (h : Below B w0 w) {g : Nat} (hg : B ≤ g) (k : Nat) (a b c d : Value) : Below B w0 ((((w.setCell ⟨g, k, none⟩ a).setCell ⟨g, k + 1, none⟩ b).setCell ⟨g, k + 2, none⟩ c).setCell ⟨g, k + 3, none⟩ d) :=
  (((h.setCell (p := ⟨g, k, none⟩) hg a).setCell (p := ⟨g, k + 1, none⟩) hg b).setCell (p := ⟨g, k + 2, none⟩) hg c).setCell (p := ⟨g, k + 3, none⟩) hg d
end Go.Proofs.YthbodpjkckminaaGreatDoor

namespace Go.Proofs.YthbodpjkckminaaGreatDoor
open Go.RowKit

def effP (ls : List Lv) (L : Nat) (restart : Int) (j : Nat) : Eff := fun k => if k = L then (if 0 < restart then ⟨true, true, restart, 0⟩ else ⟨false, false, 0, 1⟩) else if L < k ∧ k < j ∧ (L : Int) + 1 ≤ (gL ls k).restart then ⟨true, false, 0, 0⟩ else chZ
/-- the effect of a paragraph of the level L + 1. -/
def effF (ls : List Lv) (n L : Nat) (restart : Int) : Eff := effP ls L restart n
theorem effP_at (ls : List Lv) (L : Nat) (restart : Int) (j k : Nat) : effP ls L restart j k = if k = L then (if 0 < restart then ⟨true, true, restart, 0⟩ else ⟨false, false, 0, 1⟩) else if L < k ∧ k < j ∧ (L : Int) + 1 ≤ (gL ls k).restart then ⟨true, false, 0, 0⟩ else chZ := rfl
theorem upd_at {α : Type} (E : Nat → α) (k : Nat) (c : α) (i : Nat) : upd E k c i = if i = k then c else E i := rfl
theorem effP_start (ls : List Lv) (L : Nat) (restart : Int) (c : Ch) (hc : c = if 0 < restart then ⟨true, true, restart, 0⟩ else ⟨false, false, 0, 1⟩) : effP ls L restart (L + 1) = upd effZ L c := by
  funext k
  rw [effP_at, upd_at]
  by_cases h : k = L
  · rw [if_pos h, if_pos h]; exact hc.symm
  · rw [if_neg h, if_neg h, if_neg (by omega)]; rfl
theorem effP_in (ls : List Lv) (L : Nat) (restart : Int) {j : Nat} (hj : L < j) (h : (L : Int) + 1 ≤ (gL ls j).restart) : effP ls L restart (j + 1) = upd (effP ls L restart j) j ⟨true, false, 0, 0⟩ := by
  funext k
  rw [effP_at, upd_at]
  by_cases e : k = j
  · subst e; rw [if_neg (by omega), if_pos ⟨hj, by omega, h⟩, if_pos rfl]
  · rw [if_neg e, effP_at]
    by_cases e2 : k = L
    · rw [if_pos e2, if_pos e2]
    · rw [if_neg e2, if_neg e2]
      by_cases e3 : L < k ∧ k < j ∧ (L : Int) + 1 ≤ (gL ls k).restart
      · rw [if_pos ⟨e3.1, by omega, e3.2.2⟩, if_pos e3]
      · rw [if_neg (fun q => e3 ⟨q.1, by omega, q.2.2⟩), if_neg e3]
theorem effP_out (ls : List Lv) (L : Nat) (restart : Int) {j : Nat} (h : ¬ (L : Int) + 1 ≤ (gL ls j).restart) : effP ls L restart (j + 1) = effP ls L restart j := by
  funext k
  rw [effP_at, effP_at]
  by_cases e2 : k = L
  · rw [if_pos e2, if_pos e2]
  · rw [if_neg e2, if_neg e2]
    by_cases e3 : L < k ∧ k < j ∧ (L : Int) + 1 ≤ (gL ls k).restart
    · rw [if_pos ⟨e3.1, by omega, e3.2.2⟩, if_pos e3]
    · refine (if_neg (fun q => e3 ⟨q.1, ?_, q.2.2⟩)).trans (if_neg e3).symm
      have : k ≠ j := fun e => h (e ▸ q.2.2)
      omega
theorem upd_upd {α : Type} (E : Nat → α) (k : Nat) (c d : α) : upd (upd E k c) k d = upd E k d := by
  funext i
  by_cases h : i = k
  · simp [upd_at, h]
  · simp [upd_at, h]

end Go.Proofs.YthbodpjkckminaaGreatDoor

namespace Go.Proofs.YthbodpjkckminaaGreatDoor
open Go.RowKit

section
variable {P : Program}
theorem results_cell_tmp {fn : Func} {p q : Tmp} {ty : TypeId} (h : fn.results = #[.cell p ty, .tmp q]) (tmps : Array Value) (w : World) (g : Nat) (t : TypeId) (cs : Array Value) (fr : Nat × Nat) (d : TypeDesc)
    (hp : tmps.getD p undef = .pointer (some ⟨g, 0, none⟩)) (hg : w.heap[g]? = some (.cells cs t fr))
    (hu : P.underlying ty = some d) (hd : (match d with | .struct _ | .array _ _ => true | _ => false) = true) (hi : (P.info? ty).map (·.size) = some cs.size) :
    (results fn tmps).run P w = .ok (.tuple #[.agg cs, tmps.getD q undef]) w := by
  have hp' : tmps[p]?.getD undef = .pointer (some ⟨g, 0, none⟩) := by simpa using hp
  simp [results, h, hp', asAddr, run_loadVar_row w g t ty cs fr d hg hu hd hi]
end
def mkE (n : Nat) (level restart : Int) : Int := if level < 1 ∨ (n : Int) < level then 2 else if restart < 0 ∨ 32767 < restart then 5 else 0
def ofE (ls : List Lv) (n : Nat) (level restart : Int) : Int := if clE ls ≠ 0 then clE ls else mkE n level restart
def ofF (ls : List Lv) (n : Nat) (level restart : Int) : Eff := if ofE ls n level restart = 0 then effF ls n (level - 1).toNat restart else effZ
theorem clE_len {ls : List Lv} (h : clE ls = 0) : 0 < ls.length ∧ ls.length ≤ 9 := by
  unfold clE at h
  by_cases h0 : ls.length = 0
  · rw [if_pos h0] at h; omega
  · rw [if_neg h0] at h
    by_cases h9 : 9 < ls.length
    · rw [if_pos h9] at h; omega
    · omega
end Go.Proofs.YthbodpjkckminaaGreatDoor

namespace Go.Proofs.YthbodpjkckminaaGreatDoor
open Go.RowKit

structure Mk where
  list : Int
  level : Int
  restart : Int
def mkC (m : Mk) : List Value := [.int .i64 m.list, .int .i64 m.level, .int .i64 m.restart]
theorem mkC_len (m : Mk) : (mkC m).length = 3 := rfl
theorem mkC_one (m : Mk) : ∀ u ∈ mkC m, u.oneCell' = true := by intro u hu; simp [mkC] at hu; rcases hu with rfl | rfl | rfl <;> rfl
def gM (ms : List Mk) (k : Nat) : Mk := ms.getD k ⟨0, 0, 0⟩
def MkOk (n : Nat) (ms : List Mk) : Prop := ∀ i, i < ms.length → 1 ≤ (gM ms i).level ∧ (gM ms i).level ≤ n ∧ 0 ≤ (gM ms i).restart ∧ (gM ms i).restart ≤ 32767
theorem Sl.mk_ {w : World} {A : Option Addr} {n : Nat} {xs : List Mk} (h : Sl w 3 mkC A n xs) {k : Nat} (hk : k < n) :
    ∃ ad, A = some ad ∧ ad.block < w.heap.size ∧ w.cell? (ad.add (k * 3)) = some (.int .i64 (gM xs k).list) ∧ w.cell? ⟨(ad.add (k * 3)).block, (ad.add (k * 3)).off + 1, none⟩ = some (.int .i64 (gM xs k).level) ∧ w.cell? ⟨(ad.add (k * 3)).block, (ad.add (k * 3)).off + 2, none⟩ = some (.int .i64 (gM xs k).restart) := by
  obtain ⟨ad, e, hl, x, hx, hc⟩ := h.at_ hk
  have hg : gM xs k = x := by unfold gM; rw [List.getD_eq_getElem?_getD, hx]; rfl
  rw [hg]
  have f : ∀ j u, 0 < j → (mkC x)[j]? = some u → w.cell? ⟨(ad.add (k * 3)).block, (ad.add (k * 3)).off + j, none⟩ = some u := fun j u hj hu => by
    have : w.cell? ((ad.add (k * 3)).add j) = w.cell? ⟨(ad.add (k * 3)).block, (ad.add (k * 3)).off + j, none⟩ := by
      unfold Addr.add; simp [Nat.ne_of_gt hj]
    rw [← this, add_add_]; exact hc j u hu
  exact ⟨ad, e, hl, hc 0 _ rfl, f 1 _ (by omega) rfl, f 2 _ (by omega) rfl⟩
def effM (ls : List Lv) (n : Nat) (m : Mk) : Eff := effF ls n (m.level - 1).toNat m.restart
def foldE (ls : List Lv) (n : Nat) (ms : List Mk) : Eff := ms.foldl (fun e m => thenE ls n e (effM ls n m)) effZ
theorem foldE_take (ls : List Lv) (n : Nat) (ms : List Mk) {i : Nat} (h : i < ms.length) : foldE ls n (ms.take (i + 1)) = thenE ls n (foldE ls n (ms.take i)) (effM ls n (gM ms i)) := by
  have : gM ms i = ms[i] := by unfold gM; rw [List.getD_eq_getElem?_getD, List.getElem?_eq_getElem h]; rfl
  unfold foldE
  rw [List.take_succ_eq_append_getElem h, List.foldl_append, List.foldl_cons, List.foldl_nil, this]
theorem chZ_ok {M : Int} (h : 0 ≤ M) : ChOk M chZ := by unfold ChOk chZ; exact ⟨Int.le_refl _, by show (0 : Int) ≤ _; omega, Int.le_refl _, h⟩
theorem thenE_ok {ls : List Lv} {n : Nat} {M K : Int} {x y : Eff} (hL : LvOk n ls) (hx : ∀ i, ChOk M (x i)) (hy : ∀ i, ChOk K (y i)) (hM : 0 ≤ M) (hK : 0 ≤ K) : ∀ i, ChOk (M + K) (thenE ls n x y i) := by
  intro i
  unfold thenE
  by_cases h : i < n
  · rw [if_pos h]
    obtain ⟨a1, a2, a3, a4⟩ := hx i
    obtain ⟨b1, b2, b3, b4⟩ := hy i
    obtain ⟨s1, s2⟩ := hL i h
    unfold thenC
    by_cases f : (y i).fx = true
    · rw [if_pos f]; exact ⟨b1, by omega, b3, by omega⟩
    · rw [if_neg f]
      by_cases g : (x i).fx = true
      · rw [if_pos g]
        unfold stepF
        rw [if_neg f]
        by_cases z : (y i).add = 0
        · rw [if_pos z]; exact ⟨a1, by show (x i).num ≤ _; omega, by show (0 : Int) ≤ 0; omega, by show (0 : Int) ≤ _; omega⟩
        · rw [if_neg z]
          by_cases t : (x i).st = true
          · rw [if_pos t]; exact ⟨by show 0 ≤ (x i).num + (y i).add; omega, by show (x i).num + (y i).add ≤ _; omega, by show (0 : Int) ≤ 0; omega, by show (0 : Int) ≤ _; omega⟩
          · rw [if_neg t]; exact ⟨by show 0 ≤ (gL ls i).start + (y i).add - 1; omega, by show (gL ls i).start + (y i).add - 1 ≤ _; omega, by show (0 : Int) ≤ 0; omega, by show (0 : Int) ≤ _; omega⟩
      · rw [if_neg g]; exact ⟨by show (0 : Int) ≤ 0; omega, by show (0 : Int) ≤ _; omega, by show 0 ≤ (x i).add + (y i).add; omega, by show (x i).add + (y i).add ≤ _; omega⟩
  · rw [if_neg h]; exact chZ_ok (by omega)
theorem effF_ok (ls : List Lv) (n L : Nat) {r : Int} (h0 : 0 ≤ r) (h1 : r ≤ 32767) : ∀ i, ChOk 1 (effF ls n L r i) := by
  intro i
  show ChOk 1 (effP ls L r n i)
  rw [effP_at]
  split
  · split
    · exact ⟨h0, by show r ≤ _; omega, by show (0 : Int) ≤ 0; omega, by show (0 : Int) ≤ 1; omega⟩
    · exact ⟨by show (0 : Int) ≤ 0; omega, by show (0 : Int) ≤ _; omega, by show (0 : Int) ≤ 1; omega, by show (1 : Int) ≤ 1; omega⟩
  · split
    · exact ⟨by show (0 : Int) ≤ 0; omega, by show (0 : Int) ≤ _; omega, by show (0 : Int) ≤ 0; omega, by show (0 : Int) ≤ 1; omega⟩
    · exact chZ_ok (by omega)
theorem foldE_ok {ls : List Lv} {n : Nat} {ms : List Mk} (hL : LvOk n ls) (hm : MkOk n ms) : ∀ i, i ≤ ms.length → ∀ j, ChOk i (foldE ls n (ms.take i) j)
  | 0, _ => fun j => chZ_ok (by omega)
  | i + 1, h => by
    rw [foldE_take ls n ms h]
    have := thenE_ok hL (foldE_ok hL hm i (by omega)) (effF_ok ls n ((gM ms i).level - 1).toNat (hm i h).2.2.1 (hm i h).2.2.2) (by omega) (by omega)
    exact this
end Go.Proofs.YthbodpjkckminaaGreatDoor

namespace Go.Proofs.YthbodpjkckminaaGreatDoor
open Go.RowKit

theorem effL_len (E : Eff) : (effL E).length = 36 := rfl
theorem effL_one (E : Eff) : ∀ v ∈ effL E, v.oneCell' = true := by intro v hv; simp [effL] at hv; rcases hv with rfl | rfl | rfl | rfl | rfl | rfl | rfl | rfl | rfl | rfl | rfl | rfl | rfl | rfl | rfl | rfl | rfl | rfl | rfl | rfl | rfl | rfl | rfl | rfl | rfl | rfl | rfl | rfl | rfl | rfl | rfl | rfl | rfl | rfl | rfl | rfl <;> rfl
theorem effA_L (E : Eff) : effA E = (effL E).toArray := rfl
theorem Blk.setCells_ {g : Nat} {t : TypeId} : ∀ (vs pre old : List Value) (w : World), Blk w g t (pre ++ old).toArray → old.length = vs.length → Blk (w.setCells g pre.length vs) g t (pre ++ vs).toArray
  | [], pre, [], w, h, _ => h
  | [], _, _ :: _, _, _, hl => by simp at hl
  | _ :: _, _, [], _, _, hl => by simp at hl
  | v :: r, pre, u :: old, w, h, hl => by
    have h1 := h.set_ pre.length v
    have e : (pre ++ u :: old).toArray.setIfInBounds pre.length v = ((pre ++ [v]) ++ old).toArray := by simp
    rw [e] at h1
    have := Blk.setCells_ r (pre ++ [v]) old _ h1 (by simpa using hl)
    rw [List.length_append, List.append_assoc] at this
    exact this
theorem Blk.there_ {w : World} {g : Nat} {t : TypeId} {E : Eff} (h : Blk w g t (effA E)) : w.there g 0 36 := fun j hj => by
  rw [Nat.zero_add]
  refine ⟨?_, h.frozen j⟩
  have e : (effA E)[j]? = some ((effA E)[j]'(by rw [effA_size]; exact hj)) := Array.getElem?_eq_getElem _
  rw [h.cell j e]
  rfl
theorem cell_setCells {w : World} {g : Nat} {vs : List Value} {a : Addr} {v : Value} (h : w.cell? a = some v) (hn : a.block ≠ g) : (w.setCells g 0 vs).cell? a = some v := (World.cell?_setCells_out g vs 0 w a (fun e => absurd e hn)).trans h
theorem only_setCells (g : Nat) : ∀ (vs : List Value) (o : Nat) (w : World), w.grownBy (w.setCells g o vs) (some g)
  | [], _, w => ⟨rfl, rfl, rfl, Nat.le_refl _, fun _ _ _ => rfl⟩
  | v :: r, o, w => by
    have h1 := gset w g o v
    have h2 := only_setCells g r (o + 1) (w.setCell ⟨g, o, none⟩ v)
    exact ⟨h2.os.trans h1.os, h2.tape.trans h1.tape, h2.output.trans h1.output, Nat.le_trans h1.size h2.size, fun k hk hn => (h2.block k (Nat.lt_of_lt_of_le hk h1.size) hn).trans (h1.block k hk hn)⟩
theorem below_setC {B : Nat} {w0 w : World} (h : Below B w0 w) (hB : B ≤ w0.heap.size) {g : Nat} (hg : B ≤ g) (vs : List Value) : Below B w0 (w.setCells g 0 vs) := by
  have o := only_setCells g vs 0 w
  exact ⟨o.os.trans h.os, o.tape.trans h.tape, o.output.trans h.output, Nat.le_trans h.size o.size, fun k hk => by
    exact (o.block k (Nat.lt_of_lt_of_le (Nat.lt_of_lt_of_le hk hB) h.size) (fun e => by injection e with e; omega)).trans (h.block k hk)⟩
theorem Blk.eff_set {w : World} {g : Nat} {t : TypeId} (h : Blk w g t (effA effZ)) (X : Eff) {l : List Value} (e : l = effL X) : Blk (w.setCells g 0 l) g t (effA X) := by
  subst e
  exact Blk.setCells_ (effL X) [] (effL effZ) w h rfl
theorem below_drewl {w w' : World} {q : Nat} (h : Below (w.drewN q).heap.size (w.drewN q) w') : Below w.heap.size w w' := ⟨h.os, h.tape, h.output, h.size, h.block⟩
end Go.Proofs.YthbodpjkckminaaGreatDoor

namespace Go.Proofs.YthbodpjkckminaaGreatDoor

theorem thenC_assoc (s : Int) (a b c : Ch) (hb : 0 ≤ b.add) (hc : 0 ≤ c.add) : thenC s (thenC s a b) c = thenC s a (thenC s b c) := by
  obtain ⟨af, ah, an, ad⟩ := a
  obtain ⟨bf, bs, bn, bd⟩ := b
  obtain ⟨cf, cs, cn, cd⟩ := c
  simp only at hb hc
  cases cf
  · cases bf
    · cases af
      · simp [thenC, Int.add_assoc]
      · by_cases b0 : bd = 0
        · subst b0
          simp [thenC, stepF]
        · by_cases c0 : cd = 0
          · subst c0
            cases ah <;> simp [thenC, stepF, b0]
          · have h : ¬ bd + cd = 0 := by omega
            cases ah
            · simp [thenC, stepF, b0, c0, h]; omega
            · simp [thenC, stepF, b0, c0, h]; omega
    · simp [thenC]
  · simp [thenC]
def Nrm (n : Nat) (E : Eff) : Prop := ∀ i, ((E i).fx = false → (E i).st = false ∧ (E i).num = 0) ∧ ((E i).fx = true → (E i).add = 0) ∧ 0 ≤ (E i).add ∧ (n ≤ i → E i = chZ)
theorem thenC_nrm (s : Int) (a b : Ch) (ha : 0 ≤ a.add) (hb : (b.fx = false → b.st = false ∧ b.num = 0) ∧ (b.fx = true → b.add = 0) ∧ 0 ≤ b.add) :
    ((thenC s a b).fx = false → (thenC s a b).st = false ∧ (thenC s a b).num = 0) ∧ ((thenC s a b).fx = true → (thenC s a b).add = 0) ∧ 0 ≤ (thenC s a b).add := by
  unfold thenC
  by_cases f : b.fx = true
  · rw [if_pos f]; exact hb
  · rw [if_neg f]
    by_cases g : a.fx = true
    · rw [if_pos g]; exact ⟨fun h => by simp at h, fun _ => rfl, Int.le_refl _⟩
    · rw [if_neg g]; exact ⟨fun _ => ⟨rfl, rfl⟩, fun h => by simp at h, by show 0 ≤ a.add + b.add; omega⟩
theorem nrm_then {ls : List Lv} {n : Nat} {x y : Eff} (hx : Nrm n x) (hy : Nrm n y) : Nrm n (thenE ls n x y) := by
  intro i
  unfold thenE
  by_cases h : i < n
  · rw [if_pos h]
    have := thenC_nrm (gL ls i).start (x i) (y i) (hx i).2.2.1 ⟨(hy i).1, (hy i).2.1, (hy i).2.2.1⟩
    exact ⟨this.1, this.2.1, this.2.2, fun k => by omega⟩
  · rw [if_neg h]
    exact ⟨fun _ => ⟨rfl, rfl⟩, fun _ => rfl, Int.le_refl _, fun _ => rfl⟩
theorem nrm_zero (n : Nat) : Nrm n effZ := fun _ => ⟨fun _ => ⟨rfl, rfl⟩, fun _ => rfl, Int.le_refl _, fun _ => rfl⟩
theorem nrm_eff (ls : List Lv) (n L : Nat) (r : Int) (hL : L < n) : Nrm n (effF ls n L r) := by
  intro i
  have e : effF ls n L r i = effP ls L r n i := rfl
  rw [e, effP_at]
  by_cases h : i = L
  · rw [if_pos h]
    by_cases hr : 0 < r
    · rw [if_pos hr]; exact ⟨fun h => by simp at h, fun _ => rfl, Int.le_refl _, fun k => by omega⟩
    · rw [if_neg hr]; exact ⟨fun _ => ⟨rfl, rfl⟩, fun h => by simp at h, by show (0 : Int) ≤ 1; omega, fun k => by omega⟩
  · rw [if_neg h]
    by_cases h2 : L < i ∧ i < n ∧ (L : Int) + 1 ≤ (gL ls i).restart
    · rw [if_pos h2]; exact ⟨fun h => by simp at h, fun _ => rfl, Int.le_refl _, fun k => by omega⟩
    · rw [if_neg h2]; exact nrm_zero n i
theorem nrm_fold {ls : List Lv} {n : Nat} {ms : List Mk} (hm : MkOk n ms) : ∀ i, i ≤ ms.length → Nrm n (foldE ls n (ms.take i))
  | 0, _ => nrm_zero n
  | i + 1, h => by
    rw [foldE_take ls n ms h]
    have := hm i h
    exact nrm_then (nrm_fold hm i (by omega)) (nrm_eff ls n _ _ (by omega))
theorem thenE_assoc {ls : List Lv} {n : Nat} {a b c : Eff} (hb : Nrm n b) (hc : Nrm n c) : thenE ls n (thenE ls n a b) c = thenE ls n a (thenE ls n b c) := by
  funext i
  show (if i < n then thenC _ (if i < n then _ else _) _ else _) = (if i < n then thenC _ _ (if i < n then _ else _) else _)
  by_cases h : i < n
  · rw [if_pos h, if_pos h, if_pos h, if_pos h]
    exact thenC_assoc _ _ _ _ (hb i).2.2.1 (hc i).2.2.1
  · rw [if_neg h, if_neg h]
theorem thenE_zero_left {ls : List Lv} {n : Nat} {a : Eff} (ha : Nrm n a) : thenE ls n effZ a = a := by
  funext i
  show (if i < n then thenC _ chZ (a i) else chZ) = a i
  by_cases h : i < n
  · rw [if_pos h]
    obtain ⟨h1, h2, h3, _⟩ := ha i
    generalize a i = x at *
    obtain ⟨f, s, m, d⟩ := x
    cases f
    · obtain ⟨rfl, rfl⟩ := h1 rfl
      simp [thenC, chZ]
    · simp [thenC]
  · rw [if_neg h]; exact ((ha i).2.2.2 (by omega)).symm
theorem thenE_zero_right {ls : List Lv} {n : Nat} {a : Eff} (ha : Nrm n a) : thenE ls n a effZ = a := by
  funext i
  show (if i < n then thenC _ (a i) chZ else chZ) = a i
  by_cases h : i < n
  · rw [if_pos h]
    obtain ⟨h1, h2, h3, _⟩ := ha i
    generalize a i = x at *
    obtain ⟨f, s, m, d⟩ := x
    cases f
    · obtain ⟨rfl, rfl⟩ := h1 rfl
      simp [thenC, chZ]
    · have := h2 rfl
      simp only at this
      subst this
      simp [thenC, stepF, chZ]
  · rw [if_neg h]; exact ((ha i).2.2.2 (by omega)).symm
end Go.Proofs.YthbodpjkckminaaGreatDoor

namespace Go.Proofs.YthbodpjkckminaaGreatDoor
open Go.RowKit

theorem thenE_at {ls : List Lv} {n : Nat} {x y : Eff} {j : Nat} (h : j < n) : thenE ls n x y j = thenC (gL ls j).start (x j) (y j) := by
  show (if j < n then _ else _) = _
  rw [if_pos h]
theorem effF_at (ls : List Lv) (n L : Nat) (r : Int) (j : Nat) : effF ls n L r j = if j = L then (if 0 < r then ⟨true, true, r, 0⟩ else ⟨false, false, 0, 1⟩) else if L < j ∧ j < n ∧ (L : Int) + 1 ≤ (gL ls j).restart then ⟨true, false, 0, 0⟩ else chZ := rfl
/-- one paragraph more, at the level j. -/
theorem foldJ_succ {ls : List Lv} {n : Nat} {ms : List Mk} {i j : Nat} (hi : i < ms.length) (hj : j < n) : foldE ls n (ms.take (i + 1)) j = thenC (gL ls j).start (foldE ls n (ms.take i) j) (effF ls n ((gM ms i).level - 1).toNat (gM ms i).restart j) := by
  rw [foldE_take ls n ms hi, thenE_at hj]; rfl
def NrC (c : Ch) : Prop := (c.fx = false → c.st = false ∧ c.num = 0) ∧ (c.fx = true → c.add = 0)
theorem thenC_restart (s : Int) (c : Ch) (n : Nat) {ls : List Lv} {L j : Nat} {q : Int} (hL : L = j) (hq : 0 < q) : thenC s c (effF ls n L q j) = ⟨true, true, q, 0⟩ := by
  rw [effF_at, if_pos hL.symm, if_pos hq]; rfl
theorem thenC_same (s : Int) (c : Ch) (n : Nat) {ls : List Lv} {L j : Nat} (hL : L = j) : thenC s c (effF ls n L 0 j) = if c.fx = true then (if c.st = true then ⟨true, true, c.num + 1, 0⟩ else ⟨true, true, s, 0⟩) else ⟨false, false, 0, c.add + 1⟩ := by
  rw [effF_at, if_pos hL.symm, if_neg (by omega)]
  obtain ⟨f, t, m, a⟩ := c
  cases f <;> cases t <;> simp [thenC, stepF]
  all_goals omega
theorem thenC_reset (s : Int) (c : Ch) (n : Nat) {ls : List Lv} {L j : Nat} {q : Int} (hL : L < j) (hj : j < n) (hr : (L : Int) + 1 ≤ (gL ls j).restart) : thenC s c (effF ls n L q j) = ⟨true, false, 0, 0⟩ := by
  rw [effF_at, if_neg (by omega), if_pos ⟨hL, hj, hr⟩]; rfl
theorem thenC_none (s : Int) (c : Ch) (n : Nat) {ls : List Lv} {L j : Nat} {q : Int} (hc : NrC c) (hL : ¬ L = j) (hr : ¬ (L < j ∧ (L : Int) + 1 ≤ (gL ls j).restart)) : thenC s c (effF ls n L q j) = c := by
  rw [effF_at, if_neg (fun e => hL e.symm), if_neg (fun h => hr ⟨h.1, h.2.2⟩)]
  obtain ⟨f, t, m, a⟩ := c
  obtain ⟨h1, h2⟩ := hc
  cases f
  · obtain ⟨rfl, rfl⟩ := h1 rfl
    simp [thenC, chZ]
  · have := h2 rfl
    simp only at this
    subst this
    simp [thenC, stepF, chZ]
def foldJ (F : Eff) (j : Nat) : Eff := fun k => if k < j then F k else chZ
theorem foldJ_zero (F : Eff) : foldJ F 0 = effZ := by funext k; unfold foldJ; rw [if_neg (by omega)]; rfl
theorem foldJ_step (F : Eff) (j : Nat) : foldJ F (j + 1) = upd (foldJ F j) j (F j) := by
  funext k
  rw [upd_at]
  unfold foldJ
  by_cases h : k = j
  · subst h; rw [if_pos (by omega), if_pos rfl]
  · rw [if_neg h]
    by_cases h2 : k < j
    · rw [if_pos (by omega), if_pos h2]
    · rw [if_neg (by omega), if_neg h2]
theorem foldJ_end {F : Eff} {n : Nat} (hF : ∀ i, n ≤ i → F i = chZ) : foldJ F n = F := by
  funext k
  unfold foldJ
  by_cases h : k < n
  · rw [if_pos h]
  · rw [if_neg h, hF k (by omega)]
theorem foldJ_first (F : Eff) (j : Nat) : upd (foldJ F j) j chZ = foldJ F j := by
  funext k
  rw [upd_at]
  by_cases h : k = j
  · subst h; rw [if_pos rfl]; unfold foldJ; rw [if_neg (by omega)]
  · rw [if_neg h]
theorem effA_n (E : Eff) (n : Int) : ∀ k, k < 9 → (effA E).setIfInBounds (k * 4 + 2) (.int .i64 n) = effA (upd E k ⟨(E k).fx, (E k).st, n, (E k).add⟩) := lt9 rfl rfl rfl rfl rfl rfl rfl rfl rfl
theorem effA_a (E : Eff) (n : Int) : ∀ k, k < 9 → (effA E).setIfInBounds (k * 4 + 3) (.int .i64 n) = effA (upd E k ⟨(E k).fx, (E k).st, (E k).num, n⟩) := lt9 rfl rfl rfl rfl rfl rfl rfl rfl rfl
theorem effA_sn (E : Eff) (b : Bool) (n : Int) : ∀ k, k < 9 → ((effA E).setIfInBounds (k * 4 + 1) (.bool b)).setIfInBounds (k * 4 + 2) (.int .i64 n) = effA (upd E k ⟨(E k).fx, b, n, (E k).add⟩) := lt9 rfl rfl rfl rfl rfl rfl rfl rfl rfl
theorem upd_self (E : Eff) (k : Nat) (c : Ch) : upd E k c k = c := by rw [upd_at, if_pos rfl]
end Go.Proofs.YthbodpjkckminaaGreatDoor

namespace Go.Proofs.YthbodpjkckminaaGreatDoor
open Go.RowKit

section
variable {P : Program}
theorem run_equalIn_array (w : World) (d : Nat) (t e : TypeId) (n s : Nat) (ht : P.underlying t = some (.array n e)) (hsz : ∀ w, (sizeOf e).run P w = .ok s w) (xs ys : Array Value) (r : Nat → Bool)
    (hr : ∀ i, i < n → ∃ a b, (∀ w, (part e xs (i * s)).run P w = .ok a w) ∧ (∀ w, (part e ys (i * s)).run P w = .ok b w) ∧ ∀ w, (Op.equalIn d e a b).run P w = .ok (r i) w) :
    (Op.equalIn (d + 1) t (.agg xs) (.agg ys)).run P w = .ok ((List.range n).all r) w := by
  rw [List.range_eq_range', Op.equalIn]
  simp only [Sem.run_bind, run_underlying ht, Result.andThen_ok, hsz, Std.Legacy.Range.forIn_eq_forIn_range', Std.Legacy.Range.size, Nat.sub_zero, Nat.add_sub_cancel, Nat.div_one]
  have hl : ∀ i ∈ List.range' 0 n 1, i < n := fun i hi => by simpa using (List.mem_range'_1.1 hi).2
  generalize List.range' 0 n 1 = l at hl ⊢
  induction l with
  | nil => simp
  | cons i l ih =>
    obtain ⟨a, b, pa, pb, pe⟩ := hr i (hl i (by simp))
    simp only [List.forIn_cons, Sem.run_bind, pa, pb, pe, Result.andThen_ok, List.all_cons]
    cases hb : r i
    · simp
    · simp only [Bool.not_true, Bool.false_eq_true, if_false, Sem.run_pure, Result.andThen_ok, Bool.true_and]
      exact ih fun j hj => hl j (by simp [hj])
end
theorem eqFields_map {P : Program} (d : Nat) (xs ys : Array Value) : ∀ (fs : List Field) (gs : List (String × TypeId × Nat)), fs.map (fun f => (f.name, f.type, f.offset)) = gs → ∀ w,
    (Op.eqFields d xs ys fs).run P w = (gs.foldr (fun (g : String × TypeId × Nat) (r : Sem Bool) => if g.1 ≠ "_" then (do let a ← part g.2.1 xs g.2.2; let b ← part g.2.1 ys g.2.2; let q ← Op.equalIn d g.2.1 a b; if (!q) = true then pure false else r) else r) (pure true)).run P w
  | [], _, h, w => by subst h; rfl
  | f :: fs, _, h, w => by
    subst h
    simp only [List.map_cons, List.foldr_cons, Op.eqFields]
    have ih := eqFields_map (P := P) d xs ys fs _ rfl
    split
    · simp only [Sem.run_bind]
      generalize (part f.type xs f.offset).run P w = r1
      cases r1 with
      | halt x w1 => rfl
      | ok a w1 =>
        simp only [Result.andThen_ok]
        generalize (part f.type ys f.offset).run P w1 = r2
        cases r2 with
        | halt x w2 => rfl
        | ok b w2 =>
          simp only [Result.andThen_ok]
          generalize (Op.equalIn d f.type a b).run P w2 = r3
          cases r3 with
          | halt x w3 => rfl
          | ok r w3 =>
            cases r
            · rfl
            · simp only [Result.andThen_ok, Bool.not_true, Bool.false_eq_true, if_false]
              exact ih w3
    · exact ih w
def eqC (a b : Ch) : Bool := (a.fx == b.fx) && (a.st == b.st) && (a.num == b.num) && (a.add == b.add)
def eqE (x y : Eff) : Bool := (List.range 9).all fun i => eqC (x i) (y i)
theorem eqC_self (a : Ch) : eqC a a = true := by simp [eqC]
theorem eqE_self (x : Eff) : eqE x x = true := by simp [eqE, eqC_self]
end Go.Proofs.YthbodpjkckminaaGreatDoor

namespace Go.Proofs.YthbodpjkckminaaGreatDoor
open Go.RowKit

/-- the state of a list's numbering: the number of a level, and whether it has started. -/
abbrev Cn := Nat → Int × Bool
def cnZ : Cn := fun _ => (0, false)
def cnL (c : Cn) : List Value := [.int .i64 (c 0).1, .int .i64 (c 1).1, .int .i64 (c 2).1, .int .i64 (c 3).1, .int .i64 (c 4).1, .int .i64 (c 5).1, .int .i64 (c 6).1, .int .i64 (c 7).1, .int .i64 (c 8).1, .bool (c 0).2, .bool (c 1).2, .bool (c 2).2, .bool (c 3).2, .bool (c 4).2, .bool (c 5).2, .bool (c 6).2, .bool (c 7).2, .bool (c 8).2]
def cnA (c : Cn) : Array Value := (cnL c).toArray
theorem cnA_L (c : Cn) : cnA c = (cnL c).toArray := rfl
theorem cnA_size (c : Cn) : (cnA c).size = 18 := rfl
theorem cnA_one (c : Cn) : (cnA c).all (·.oneCell') = true := by simp [cnA, cnL, Value.oneCell']
theorem cnL_one (c : Cn) : ∀ v ∈ cnL c, v.oneCell' = true := by intro v hv; simp [cnL] at hv; rcases hv with rfl | rfl | rfl | rfl | rfl | rfl | rfl | rfl | rfl | rfl | rfl | rfl | rfl | rfl | rfl | rfl | rfl | rfl <;> rfl
theorem cnA_congr {c d : Cn} (h : ∀ i, i < 9 → c i = d i) : cnA c = cnA d := by
  unfold cnA cnL
  rw [h 0 (by omega), h 1 (by omega), h 2 (by omega), h 3 (by omega), h 4 (by omega), h 5 (by omega), h 6 (by omega), h 7 (by omega), h 8 (by omega)]
theorem cnA_0 (c : Cn) : ∀ k, k < 9 → (cnA c)[k]? = some (.int .i64 (c k).1) := lt9 rfl rfl rfl rfl rfl rfl rfl rfl rfl
theorem cnA_1 (c : Cn) : ∀ k, k < 9 → (cnA c)[9 + k]? = some (.bool (c k).2) := lt9 rfl rfl rfl rfl rfl rfl rfl rfl rfl
theorem cnA_n (c : Cn) (n : Int) : ∀ k, k < 9 → (cnA c).setIfInBounds k (.int .i64 n) = cnA (upd c k (n, (c k).2)) := lt9 rfl rfl rfl rfl rfl rfl rfl rfl rfl
theorem cnA_s (c : Cn) (b : Bool) : ∀ k, k < 9 → (cnA c).setIfInBounds (9 + k) (.bool b) = cnA (upd c k ((c k).1, b)) := lt9 rfl rfl rfl rfl rfl rfl rfl rfl rfl
theorem Blk.cn {w : World} {g : Nat} {t : TypeId} {c : Cn} (h : Blk w g t (cnA c)) {k : Nat} (hk : k < 9) :
    w.cell? ⟨g, k, none⟩ = some (.int .i64 (c k).1) ∧ w.cell? ⟨g, 9 + k, none⟩ = some (.bool (c k).2) := ⟨h.cell _ (cnA_0 c k hk), h.cell _ (cnA_1 c k hk)⟩
theorem Blk.setn {w : World} {g : Nat} {t : TypeId} {c : Cn} (h : Blk w g t (cnA c)) {k : Nat} (hk : k < 9) (n : Int) : Blk (w.setCell ⟨g, k, none⟩ (.int .i64 n)) g t (cnA (upd c k (n, (c k).2))) := by
  have := h.set_ k (.int .i64 n)
  rw [cnA_n c n k hk] at this
  exact this
theorem Blk.sets {w : World} {g : Nat} {t : TypeId} {c : Cn} (h : Blk w g t (cnA c)) {k : Nat} (hk : k < 9) (b : Bool) : Blk (w.setCell ⟨g, 9 + k, none⟩ (.bool b)) g t (cnA (upd c k ((c k).1, b))) := by
  have := h.set_ (9 + k) (.bool b)
  rw [cnA_s c b k hk] at this
  exact this
theorem upd_upd' {α : Type} (E : Nat → α) (k : Nat) (c d : α) : upd (upd E k c) k d = upd E k d := by
  funext i
  by_cases h : i = k
  · simp [upd_at, h]
  · simp [upd_at, h]
theorem upd_self' {α : Type} (E : Nat → α) (k : Nat) (c : α) : upd E k c k = c := by rw [upd_at, if_pos rfl]
/-- both cells of a level. -/
theorem Blk.setns {w : World} {g : Nat} {t : TypeId} {c : Cn} (h : Blk w g t (cnA c)) {k : Nat} (hk : k < 9) (n : Int) (b : Bool) : Blk ((w.setCell ⟨g, k, none⟩ (.int .i64 n)).setCell ⟨g, 9 + k, none⟩ (.bool b)) g t (cnA (upd c k (n, b))) := by
  have := (h.setn hk n).sets hk b
  rw [upd_self', upd_upd'] at this
  exact this
theorem Blk.setsn {w : World} {g : Nat} {t : TypeId} {c : Cn} (h : Blk w g t (cnA c)) {k : Nat} (hk : k < 9) (n : Int) (b : Bool) : Blk ((w.setCell ⟨g, 9 + k, none⟩ (.bool b)).setCell ⟨g, k, none⟩ (.int .i64 n)) g t (cnA (upd c k (n, b))) := by
  have := (h.sets hk b).setn hk n
  rw [upd_self', upd_upd'] at this
  exact this
/-- the state behind an effect. -/
def applyE (ls : List Lv) (n : Nat) (E : Eff) (c : Cn) : Cn := fun i => if i < n then stepF (gL ls i).start (E i) (c i).1 (c i).2 else c i
def applyT (ls : List Lv) (k : Nat) (E : Eff) (c : Cn) : Cn := applyE ls k E c
theorem applyE_succ (ls : List Lv) (k : Nat) (E : Eff) (c : Cn) : applyE ls (k + 1) E c = upd (applyE ls k E c) k (stepF (gL ls k).start (E k) (c k).1 (c k).2) := by
  funext i
  rw [upd_at]
  unfold applyE
  by_cases h : i = k
  · subst h; rw [if_pos (by omega), if_pos rfl]
  · rw [if_neg h]
    by_cases h2 : i < k
    · rw [if_pos (by omega), if_pos h2]
    · rw [if_neg (by omega), if_neg h2]
theorem applyE_at (ls : List Lv) (k : Nat) (E : Eff) (c : Cn) : applyE ls k E c k = c k := by unfold applyE; rw [if_neg (by omega)]
/-- one paragraph more. -/
def nextC (ls : List Lv) (n : Nat) (c : Cn) (L : Nat) (r : Int) : Cn := fun i => if i = L then (if r ≠ 0 then (r, true) else if (c i).2 = true then ((c i).1 + 1, true) else ((gL ls i).start, true)) else if L < i ∧ i < n ∧ (L : Int) + 1 ≤ (gL ls i).restart then (0, false) else c i
theorem apply_next (ls : List Lv) (n : Nat) (c : Cn) (L : Nat) (r : Int) (hL : L < n) (hr : 0 ≤ r) : applyE ls n (effF ls n L r) c = nextC ls n c L r := by
  funext i
  have e1 : applyE ls n (effF ls n L r) c i = if i < n then stepF (gL ls i).start (effF ls n L r i) (c i).1 (c i).2 else c i := rfl
  have e2 : nextC ls n c L r i = if i = L then (if r ≠ 0 then (r, true) else if (c i).2 = true then ((c i).1 + 1, true) else ((gL ls i).start, true)) else if L < i ∧ i < n ∧ (L : Int) + 1 ≤ (gL ls i).restart then (0, false) else c i := rfl
  rw [e1, e2, effF_at]
  by_cases h : i = L
  · subst h
    rw [if_pos hL, if_pos rfl, if_pos rfl]
    by_cases h0 : 0 < r
    · rw [if_pos h0, if_pos (by omega)]; rfl
    · rw [if_neg h0, if_neg (by omega)]
      unfold stepF
      cases hs : (c i).2 <;> simp
  · rw [if_neg h, if_neg h]
    by_cases h2 : L < i ∧ i < n ∧ (L : Int) + 1 ≤ (gL ls i).restart
    · rw [if_pos h2.2.1, if_pos h2, if_pos h2]; rfl
    · rw [if_neg h2, if_neg h2]
      split
      · rfl
      · rfl
theorem step_then (s : Int) (x y : Ch) (n : Int) (b : Bool) (hx : 0 ≤ x.add) (hy : 0 ≤ y.add) : stepF s (thenC s x y) n b = stepF s y (stepF s x n b).1 (stepF s x n b).2 := by
  obtain ⟨xf, xs, xn, xa⟩ := x
  obtain ⟨yf, ys, yn, ya⟩ := y
  simp only at hx hy
  cases yf
  · cases xf
    · by_cases h0 : xa = 0
      · subst h0
        simp [thenC, stepF]
      · by_cases h1 : ya = 0
        · subst h1
          simp [thenC, stepF, h0]
        · have h2 : ¬ xa + ya = 0 := by omega
          cases b
          · simp [thenC, stepF, h0, h1, h2]; omega
          · simp [thenC, stepF, h0, h1, h2]; omega
    · simp [thenC, stepF]
  · simp [thenC, stepF]
theorem apply_then {ls : List Lv} {n : Nat} {x y : Eff} (c : Cn) (hx : Nrm n x) (hy : Nrm n y) : applyE ls n (thenE ls n x y) c = applyE ls n y (applyE ls n x c) := by
  funext i
  unfold applyE
  by_cases h : i < n
  · rw [if_pos h, if_pos h, if_pos h, thenE_at h]
    exact step_then _ _ _ _ _ (hx i).2.2.1 (hy i).2.2.1
  · rw [if_neg h, if_neg h, if_neg h]
def countC (ls : List Lv) (n : Nat) (c : Cn) (ms : List Mk) : Cn := ms.foldl (fun c m => nextC ls n c (m.level - 1).toNat m.restart) c
theorem countC_take (ls : List Lv) (n : Nat) (c : Cn) (ms : List Mk) {i : Nat} (h : i < ms.length) : countC ls n c (ms.take (i + 1)) = nextC ls n (countC ls n c (ms.take i)) ((gM ms i).level - 1).toNat (gM ms i).restart := by
  have : gM ms i = ms[i] := by unfold gM; rw [List.getD_eq_getElem?_getD, List.getElem?_eq_getElem h]; rfl
  unfold countC
  rw [List.take_succ_eq_append_getElem h, List.foldl_append, List.foldl_cons, List.foldl_nil, this]
theorem apply_fold {ls : List Lv} {n : Nat} {ms : List Mk} (c : Cn) (hm : MkOk n ms) : ∀ i, i ≤ ms.length → applyE ls n (foldE ls n (ms.take i)) c = countC ls n c (ms.take i)
  | 0, _ => by
    funext i
    show (if i < n then stepF _ chZ _ _ else _) = c i
    split
    · rfl
    · rfl
  | i + 1, h => by
    have hi := hm i h
    rw [foldE_take ls n ms h, countC_take ls n c ms h, apply_then c (nrm_fold hm i (by omega)) (show Nrm n (effM ls n (gM ms i)) from nrm_eff ls n _ _ (by omega)), apply_fold c hm i (by omega)]
    exact apply_next ls n _ _ _ (by omega) hi.2.2.1
theorem apply_fold_all {ls : List Lv} {n : Nat} {ms : List Mk} (c : Cn) (hm : MkOk n ms) : applyE ls n (foldE ls n ms) c = countC ls n c ms := by
  have := apply_fold (ls := ls) c hm ms.length (Nat.le_refl _)
  rw [List.take_length] at this
  exact this
/-- the numbers of a state are from 0 to M. -/
def CnOk (M : Int) (c : Cn) : Prop := ∀ i, 0 ≤ (c i).1 ∧ (c i).1 ≤ M
theorem cnZ_ok {M : Int} (h : 0 ≤ M) : CnOk M cnZ := fun _ => ⟨Int.le_refl _, h⟩
theorem next_ok {ls : List Lv} {n L : Nat} {r M : Int} {c : Cn} (hL : LvOk n ls) (h : L < n) (h0 : 0 ≤ r) (h1 : r ≤ 32767) (hM : 32767 ≤ M) (hc : CnOk M c) : CnOk (M + 1) (nextC ls n c L r) := by
  intro i
  have := hc i
  unfold nextC
  by_cases e : i = L
  · rw [if_pos e]
    split
    · exact ⟨h0, by show r ≤ _; omega⟩
    · split
      · exact ⟨by show 0 ≤ (c i).1 + 1; omega, by show (c i).1 + 1 ≤ _; omega⟩
      · have := hL i (by omega)
        exact ⟨this.1, by show (gL ls i).start ≤ _; omega⟩
  · rw [if_neg e]
    split
    · exact ⟨Int.le_refl _, by show (0 : Int) ≤ _; omega⟩
    · exact ⟨this.1, by omega⟩
theorem count_ok {ls : List Lv} {n : Nat} {M : Int} {c : Cn} {ms : List Mk} (hL : LvOk n ls) (hm : MkOk n ms) (hM : 32767 ≤ M) (hc : CnOk M c) : ∀ i, i ≤ ms.length → CnOk (M + i) (countC ls n c (ms.take i))
  | 0, _ => fun i => by have := hc i; exact ⟨this.1, by show (c i).1 ≤ M + 0; omega⟩
  | i + 1, h => by
    have hi := hm i h
    rw [countC_take ls n c ms h]
    have := next_ok (L := ((gM ms i).level - 1).toNat) hL (by omega) hi.2.2.1 hi.2.2.2 (by omega) (count_ok hL hm hM hc i (by omega))
    intro j
    have := this j
    exact ⟨this.1, by omega⟩
end Go.Proofs.YthbodpjkckminaaGreatDoor
