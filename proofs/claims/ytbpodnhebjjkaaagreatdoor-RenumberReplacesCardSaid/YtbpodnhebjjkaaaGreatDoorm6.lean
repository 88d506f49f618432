/- Effects and counters: plain, and as rows of cells. renumber.Then. renumber.effect, the law's effectOf, checkMark, Of. renumber.checkMark, Of. The law's effect: the fold of Of and Then. -/
import Derived.Test.YtbpodnhebjjkaaaGreatDoorm5
import Derived.Laws.CopyOwn
import Derived.Deep.RegionLaw
import Derived.Deep.WholeRow
namespace Go.Proofs.YtbpodnhebjjkaaaGreatDoor
open Go.RowKit

structure Ch where
  fx : Bool
  st : Bool
  num : Int
  add : Int
  deriving DecidableEq
def chZ : Ch := ⟨false, false, 0, 0⟩
abbrev Eff := Nat → Ch
def effZ : Eff := fun _ => chZ
def chC (c : Ch) : List Value := [.bool c.fx, .bool c.st, .int .i64 c.num, .int .i64 c.add]
def upd {α : Type} (E : Nat → α) (k : Nat) (c : α) : Nat → α := fun i => if i = k then c else E i
def effL (E : Eff) : List Value := [.bool (E 0).fx, .bool (E 0).st, .int .i64 (E 0).num, .int .i64 (E 0).add, .bool (E 1).fx, .bool (E 1).st, .int .i64 (E 1).num, .int .i64 (E 1).add, .bool (E 2).fx, .bool (E 2).st, .int .i64 (E 2).num, .int .i64 (E 2).add, .bool (E 3).fx, .bool (E 3).st, .int .i64 (E 3).num, .int .i64 (E 3).add, .bool (E 4).fx, .bool (E 4).st, .int .i64 (E 4).num, .int .i64 (E 4).add, .bool (E 5).fx, .bool (E 5).st, .int .i64 (E 5).num, .int .i64 (E 5).add, .bool (E 6).fx, .bool (E 6).st, .int .i64 (E 6).num, .int .i64 (E 6).add, .bool (E 7).fx, .bool (E 7).st, .int .i64 (E 7).num, .int .i64 (E 7).add, .bool (E 8).fx, .bool (E 8).st, .int .i64 (E 8).num, .int .i64 (E 8).add]
def effA (E : Eff) : Array Value := (effL E).toArray
theorem effA_size (E : Eff) : (effA E).size = 36 := rfl
theorem effA_one (E : Eff) : (effA E).all (·.oneCell') = true := by simp [effA, effL, Value.oneCell']
theorem effA_congr {E F : Eff} (h : ∀ i, i < 9 → E i = F i) : effA E = effA F := by
  unfold effA effL
  rw [h 0 (by omega), h 1 (by omega), h 2 (by omega), h 3 (by omega), h 4 (by omega), h 5 (by omega), h 6 (by omega), h 7 (by omega), h 8 (by omega)]
theorem lt9 {p : Nat → Prop} (h0 : p 0) (h1 : p 1) (h2 : p 2) (h3 : p 3) (h4 : p 4) (h5 : p 5) (h6 : p 6) (h7 : p 7) (h8 : p 8) (k : Nat) (hk : k < 9) : p k := by
  match k, hk with
  | 0, _ => exact h0
  | 1, _ => exact h1
  | 2, _ => exact h2
  | 3, _ => exact h3
  | 4, _ => exact h4
  | 5, _ => exact h5
  | 6, _ => exact h6
  | 7, _ => exact h7
  | 8, _ => exact h8
theorem effA_0 (E : Eff) : ∀ k, k < 9 → (effA E)[k * 4]? = some (.bool (E k).fx) := lt9 rfl rfl rfl rfl rfl rfl rfl rfl rfl
theorem effA_1 (E : Eff) : ∀ k, k < 9 → (effA E)[k * 4 + 1]? = some (.bool (E k).st) := lt9 rfl rfl rfl rfl rfl rfl rfl rfl rfl
theorem effA_2 (E : Eff) : ∀ k, k < 9 → (effA E)[k * 4 + 2]? = some (.int .i64 (E k).num) := lt9 rfl rfl rfl rfl rfl rfl rfl rfl rfl
theorem effA_3 (E : Eff) : ∀ k, k < 9 → (effA E)[k * 4 + 3]? = some (.int .i64 (E k).add) := lt9 rfl rfl rfl rfl rfl rfl rfl rfl rfl
theorem effA_upd (E : Eff) (a b : Bool) (n m : Int) : ∀ k, k < 9 → ((((effA E).setIfInBounds (k * 4) (.bool a)).setIfInBounds (k * 4 + 1) (.bool b)).setIfInBounds (k * 4 + 2) (.int .i64 n)).setIfInBounds (k * 4 + 3) (.int .i64 m) = effA (upd E k ⟨a, b, n, m⟩) := lt9 rfl rfl rfl rfl rfl rfl rfl rfl rfl
/-- an effect in memory: a block of 36 cells. -/
theorem Blk.eff {w : World} {g : Nat} {t : TypeId} {E : Eff} (h : Blk w g t (effA E)) {k : Nat} (hk : k < 9) :
    w.cell? ⟨g, k * 4, none⟩ = some (.bool (E k).fx) ∧ w.cell? ⟨g, k * 4 + 1, none⟩ = some (.bool (E k).st) ∧ w.cell? ⟨g, k * 4 + 2, none⟩ = some (.int .i64 (E k).num) ∧ w.cell? ⟨g, k * 4 + 3, none⟩ = some (.int .i64 (E k).add) :=
  ⟨h.cell _ (effA_0 E k hk), h.cell _ (effA_1 E k hk), h.cell _ (effA_2 E k hk), h.cell _ (effA_3 E k hk)⟩
def stepF (start : Int) (c : Ch) (n : Int) (b : Bool) : Int × Bool := if c.fx = true then (c.num, c.st) else if c.add = 0 then (n, b) else if b = true then (n + c.add, true) else (start + c.add - 1, true)
def thenC (start : Int) (x y : Ch) : Ch := if y.fx = true then y else if x.fx = true then ⟨true, (stepF start y x.num x.st).2, (stepF start y x.num x.st).1, 0⟩ else ⟨false, false, 0, x.add + y.add⟩
def thenE (ls : List Lv) (k : Nat) (x y : Eff) : Eff := fun i => if i < k then thenC (gL ls i).start (x i) (y i) else chZ
theorem thenE_succ (ls : List Lv) (k : Nat) (x y : Eff) : thenE ls (k + 1) x y = upd (thenE ls k x y) k (thenC (gL ls k).start (x k) (y k)) := by
  funext i
  unfold thenE upd
  by_cases h : i = k
  · subst h; rw [if_pos (by omega), if_pos rfl]
  · by_cases h2 : i < k
    · rw [if_pos (by omega), if_neg h]; exact (if_pos h2).symm
    · rw [if_neg (by omega), if_neg h]; exact (if_neg h2).symm
set_option maxHeartbeats 4000000 in
theorem step_any (start : Int) (c : Ch) (n : Int) (b : Bool) (w : World) (h0 : IntKind.i64.wrap (n + c.add) = n + c.add) (h1 : IntKind.i64.wrap (start + c.add) = start + c.add) (h2 : IntKind.i64.wrap (start + c.add - 1) = start + c.add - 1) :
    Calls Tryz.prog 31 #[.int .i64 start, .agg #[.bool c.fx, .bool c.st, .int .i64 c.num, .int .i64 c.add], .int .i64 n, .bool b] w fun e w' => e = .returned (.tuple #[.int .i64 (stepF start c n b).1, .bool (stepF start c n b).2]) ∧ Below w.heap.size w w' := by
  obtain ⟨fx, st, num, add⟩ := c
  simp only at h0 h1 h2
  have hb := (Below.refl _ w).alloc (Nat.le_refl _) (.cells #[.bool fx, .bool st, .int .i64 num, .int .i64 add] 49)
  have HS := Lib.hid (show stepF start ⟨fx, st, num, add⟩ n b = if fx = true then (num, st) else if add = 0 then (n, b) else if b = true then (n + add, true) else (start + add - 1, true) from rfl)
  cases fx
  · by_cases ha : add = 0
    · subst ha
      go_enter Tryz.func31, Tryz.ntmps31
      go_wp2_with fail
      go_ret2
      rw [HS.out]
      exact ⟨rfl, hb⟩
    · cases b
      · go_enter Tryz.func31, Tryz.ntmps31
        go_wp2_with fail
        go_ret2
        rw [HS.out]
        exact ⟨by simp [ha], hb⟩
      · go_enter Tryz.func31, Tryz.ntmps31
        go_wp2_with fail
        go_ret2
        rw [HS.out]
        exact ⟨by simp [ha], hb⟩
  · go_enter Tryz.func31, Tryz.ntmps31
    go_upto_region 2 with fail
    go_quiet (fail)
    go_wp2_with fail
    go_ret2
    rw [HS.out]
    exact ⟨rfl, below_drewN hb _⟩
end Go.Proofs.YtbpodnhebjjkaaaGreatDoor

namespace Go.Proofs.YtbpodnhebjjkaaaGreatDoor
open Go.RowKit

def ChOk (M : Int) (c : Ch) : Prop := 0 ≤ c.num ∧ c.num ≤ 32767 + M ∧ 0 ≤ c.add ∧ c.add ≤ M
def LvOk (n : Nat) (ls : List Lv) : Prop := ∀ i, i < n → 0 ≤ (gL ls i).start ∧ (gL ls i).start ≤ 32767
structure TW (w : World) (B p4 p5 p6 p7 : Nat) (x y Z : Eff) : Prop where
  b4 : Blk w p4 51 (effA x)
  b5 : Blk w p5 51 (effA y)
  b6 : Blk w p6 51 (effA effZ)
  b7 : Blk w p7 51 (effA Z)
  n4 : p7 ≠ p4
  n5 : p7 ≠ p5
  n6 : p7 ≠ p6
  m6 : B ≤ p6
  m7 : B ≤ p7
theorem TW.below {w w' : World} {B p4 p5 p6 p7 : Nat} {x y Z : Eff} (h : TW w B p4 p5 p6 p7 x y Z) (hb : Below w.heap.size w w') : TW w' B p4 p5 p6 p7 x y Z :=
  ⟨h.b4.below hb, h.b5.below hb, h.b6.below hb, h.b7.below hb, h.n4, h.n5, h.n6, h.m6, h.m7⟩
theorem TW.new (w : World) (x y : Eff) : TW ((((w.alloc (.cells (effA x) 51)).alloc (.cells (effA y) 51)).alloc (.cells (effA effZ) 51)).alloc (.cells (effA effZ) 51)) w.heap.size w.heap.size (w.heap.size + 1) (w.heap.size + 1 + 1) (w.heap.size + 1 + 1 + 1) x y effZ := by
  have e1 := Blk.new w 51 (effA x)
  have e2 := Blk.new (w.alloc (.cells (effA x) 51)) 51 (effA y)
  have e3 := Blk.new ((w.alloc (.cells (effA x) 51)).alloc (.cells (effA y) 51)) 51 (effA effZ)
  have e4 := Blk.new (((w.alloc (.cells (effA x) 51)).alloc (.cells (effA y) 51)).alloc (.cells (effA effZ) 51)) 51 (effA effZ)
  rw [World.size_alloc] at e2
  rw [World.size_alloc, World.size_alloc] at e3
  rw [World.size_alloc, World.size_alloc, World.size_alloc] at e4
  exact ⟨((e1.alloc _).alloc _).alloc _, (e2.alloc _).alloc _, e3.alloc _, e4, by omega, by omega, by omega, by omega, by omega⟩
theorem only_set4 (w : World) (g k : Nat) (a b c d : Value) : w.grownBy ((((w.setCell ⟨g, k, none⟩ a).setCell ⟨g, k + 1, none⟩ b).setCell ⟨g, k + 2, none⟩ c).setCell ⟨g, k + 3, none⟩ d) (some g) :=
  only_set (only_set (only_set (gset w g k a) _ b) _ c) _ d
theorem cell_set4 (w : World) {g h : Nat} (hn : h ≠ g) (k j : Nat) (a b c d : Value) : ((((w.setCell ⟨g, k, none⟩ a).setCell ⟨g, k + 1, none⟩ b).setCell ⟨g, k + 2, none⟩ c).setCell ⟨g, k + 3, none⟩ d).cell? ⟨h, j, none⟩ = w.cell? ⟨h, j, none⟩ := by
  rw [World.cell?_setCell_other (h := fun e => hn (by injection e with e; exact e.symm)), World.cell?_setCell_other (h := fun e => hn (by injection e with e; exact e.symm)), World.cell?_setCell_other (h := fun e => hn (by injection e with e; exact e.symm)), World.cell?_setCell_other (h := fun e => hn (by injection e with e; exact e.symm))]
theorem cell_set4d (w : World) {g h : Nat} (hn : h ≠ g) (k j : Nat) (a b c d v : Value) (e : w.cell? ⟨h, j, none⟩ = some v) : ((((w.setCell ⟨g, k, none⟩ a).setCell ⟨g, k + 1, none⟩ b).setCell ⟨g, k + 2, none⟩ c).setCell ⟨g, k + 3, none⟩ d).drew.cell? ⟨h, j, none⟩ = some v := (cell_set4 w hn k j a b c d).trans e
theorem Blk.set4 {w : World} {g : Nat} {t : TypeId} {E : Eff} (h : Blk w g t (effA E)) {k : Nat} (hk : k < 9) (a b : Bool) (n m : Int) : Blk ((((w.setCell ⟨g, k * 4, none⟩ (.bool a)).setCell ⟨g, k * 4 + 1, none⟩ (.bool b)).setCell ⟨g, k * 4 + 2, none⟩ (.int .i64 n)).setCell ⟨g, k * 4 + 3, none⟩ (.int .i64 m)) g t (effA (upd E k ⟨a, b, n, m⟩)) := by
  have := (((h.set_ (k * 4) (.bool a)).set_ (k * 4 + 1) (.bool b)).set_ (k * 4 + 2) (.int .i64 n)).set_ (k * 4 + 3) (.int .i64 m)
  rw [effA_upd E a b n m k hk] at this
  exact this
theorem below_set4 {B : Nat} {w0 w : World} (h : Below B w0 w) {g : Nat} (hg : B ≤ g) (k : Nat) (a b c d : Value) : Below B w0 ((((w.setCell ⟨g, k, none⟩ a).setCell ⟨g, k + 1, none⟩ b).setCell ⟨g, k + 2, none⟩ c).setCell ⟨g, k + 3, none⟩ d) :=
  (((h.setCell (p := ⟨g, k, none⟩) hg a).setCell (p := ⟨g, k + 1, none⟩) hg b).setCell (p := ⟨g, k + 2, none⟩) hg c).setCell (p := ⟨g, k + 3, none⟩) hg d
theorem TW.set {w : World} {B p4 p5 p6 p7 : Nat} {x y Z : Eff} (h : TW w B p4 p5 p6 p7 x y Z) {k : Nat} (hk : k < 9) (a b : Bool) (n m : Int) {Z' : Eff} (e : Z' = upd Z k ⟨a, b, n, m⟩) : TW ((((w.setCell ⟨p7, k * 4, none⟩ (.bool a)).setCell ⟨p7, k * 4 + 1, none⟩ (.bool b)).setCell ⟨p7, k * 4 + 2, none⟩ (.int .i64 n)).setCell ⟨p7, k * 4 + 3, none⟩ (.int .i64 m)) B p4 p5 p6 p7 x y Z' := by
  subst e
  have g := only_set4 w p7 (k * 4) (.bool a) (.bool b) (.int .i64 n) (.int .i64 m)
  exact ⟨h.b4.keep g (fun e => h.n4 (by injection e)), h.b5.keep g (fun e => h.n5 (by injection e)), h.b6.keep g (fun e => h.n6 (by injection e)), h.b7.set4 hk a b n m, h.n4, h.n5, h.n6, h.m6, h.m7⟩
theorem TW.drewN {w : World} {B p4 p5 p6 p7 : Nat} {x y Z : Eff} (h : TW w B p4 p5 p6 p7 x y Z) (n : Nat) : TW (w.drewN n) B p4 p5 p6 p7 x y Z := ⟨h.b4, h.b5, h.b6, h.b7, h.n4, h.n5, h.n6, h.m6, h.m7⟩
set_option maxHeartbeats 8000000 in
set_option maxRecDepth 100000 in
theorem then_any (A : Option Addr) (n c : Nat) (ls : List Lv) (x y : Eff) (M K : Int) (w : World) (ha : Sl w 4 lvC A n ls) (hn : n ≤ 9) (hL : LvOk n ls) (hx : ∀ i, ChOk M (x i)) (hy : ∀ i, ChOk K (y i)) (hM : M ≤ 1000000000) (hK : K ≤ 1000000000) :
    Calls Tryz.prog 14 #[.slice A n c, .agg (effA x), .agg (effA y)] w fun e w' => e = .returned (.agg (effA (thenE ls n x y))) ∧ Below w.heap.size w w' := by
  have HL := Lib.hid hL
  have HX := Lib.hid hx
  have HY := Lib.hid hy
  clear hL hx hy
  have T0 := TW.new w x y
  have hb0 := ((((Below.refl w.heap.size w).alloc (Nat.le_refl _) (.cells (effA x) 51)).alloc (by simp) (.cells (effA y) 51)).alloc (by simp; omega) (.cells (effA effZ) 51)).alloc (by simp; omega) (.cells (effA effZ) 51)
  go_enter Tryz.func14, Tryz.ntmps14
  go_upto_region 1 with fail
  go_cut [4, 5, 6, 7] (fun v4 v5 v6 v7 wx => ∃ p4 p5 p6 p7, v4 = .pointer (some ⟨p4, 0, none⟩) ∧ v5 = .pointer (some ⟨p5, 0, none⟩) ∧ v6 = .pointer (some ⟨p6, 0, none⟩) ∧ v7 = .pointer (some ⟨p7, 0, none⟩) ∧ TW wx w.heap.size p4 p5 p6 p7 x y effZ ∧ Below w.heap.size w wx)
  case first =>
    go_wp2_with fail
    go_meet
    case rel => exact ⟨_, _, _, _, rfl, rfl, rfl, rfl, T0, hb0⟩
  case rest =>
  obtain ⟨p4, p5, p6, p7, rfl, rfl, rfl, rfl, T1, hb1⟩ := hcut
  clear T0 hb0

  go_wp2_with fail
  go_loopw [14] (fun vi wr => ∃ i : Nat, vi = .int .i64 i ∧ i ≤ n ∧ TW wr w.heap.size p4 p5 p6 p7 x y (thenE ls i x y) ∧ Below w.heap.size w wr) (fun vi _ => n - (intOf vi).toNat)
  case atStart => exact ⟨0, rfl, Nat.zero_le _, T1, hb1⟩
  case round =>
    obtain ⟨i, rfl, hi, T2, hbw⟩ := hrel
    clear T1 hb1
    by_cases hlt : i < n
    · obtain ⟨ad, e, hl2, k0, k1, k2, k3⟩ := (ha.below hbw).lv hlt
      subst e
      have i9 : i < 9 := by omega
      have i9' : (i : Int) < 9 := by omega
      have st := HL.out i hlt
      have sx := HX.out i
      have sy := HY.out i
      have HS := Lib.hid (thenE_succ ls i x y)
      unfold ChOk at sx sy
      generalize gL ls i = lv at *
      obtain ⟨xf, xs, xt, xr⟩ := lv
      simp only at k0 k1 k2 k3 st
      go_upto_region 4 with fail
      go_cut [8, 9] (fun v8 v9 wx => ∃ p, v8 = .int .i64 i ∧ v9 = .pointer (some ⟨p, 0, none⟩) ∧ Blk wx p 74 #[.int .i64 xf, .int .i64 xs, .string xt, .int .i64 xr] ∧ Below wr.heap.size wr wx)
      case first =>
        go_wp2_with fail
        go_meet
        case rel => exact ⟨_, rfl, rfl, Blk.new _ _ _, (Below.refl _ _).alloc (Nat.le_refl _) _⟩
      case rest =>
      obtain ⟨p, rfl, rfl, B9, hb4⟩ := hcut
      clear k0 k1 k2 k3
      have T3 := T2.below hb4
      have hbc := below_trans' hbw hbw.size hb4
      clear T2 hbw hb4
      have m1 : wc.cell? ⟨p, 1, none⟩ = some (.int .i64 xs) := B9.cell 1 rfl
      obtain ⟨y0, y1, y2, y3⟩ := T3.b5.eff i9
      obtain ⟨x0, x1, x2, x3⟩ := T3.b4.eff i9
      obtain ⟨z0, z1, z2, z3⟩ := T3.b7.eff i9
      have f0 := T3.b7.frozen (i * 4)
      have f1 := T3.b7.frozen (i * 4 + 1)
      have f2 := T3.b7.frozen (i * 4 + 2)
      have f3 := T3.b7.frozen (i * 4 + 3)
      generalize x i = xi at *
      generalize y i = yi at *
      obtain ⟨xfx, xst, xn, xad⟩ := xi
      obtain ⟨yfx, yst, yn, yad⟩ := yi
      simp only at x0 x1 x2 x3 y0 y1 y2 y3 sx sy
      cases yfx
      · cases xfx
        · have HT := Lib.hid (show thenE ls (i + 1) x y = upd (thenE ls i x y) i ⟨false, false, 0, xad + yad⟩ by rw [HS.out]; rfl)
          have hw : IntKind.i64.wrap (xad + yad) = xad + yad := IntWalk.i64_in _ (by omega)
          clear HS
          have s5 := cell_set4d wc T3.n5.symm (i * 4) (i * 4 + 3) (.bool false) (.bool false) (.int .i64 0) (.int .i64 (xad + yad)) _ y3
          have s4 := cell_set4d wc T3.n4.symm (i * 4) (i * 4 + 3) (.bool false) (.bool false) (.int .i64 0) (.int .i64 (xad + yad)) _ x3
          go_upto_region 5 with fail
          go_region_held3 (fun w' => w'.cell? ⟨p5, i * 4 + 3, none⟩ = some (.int .i64 yad) ∧ w'.cell? ⟨p4, i * 4 + 3, none⟩ = some (.int .i64 xad))
            (first | (with_reducible exact ⟨s5, s4⟩) | go_keep)
            (fail)
          all_goals
            go_wp2_with fail
            go_roundw
            case measure => rw [intOf, intOf]; omega
            case rel => exact ⟨i + 1, by simp, by omega, (T3.set i9 _ _ _ _ HT.out).drewN 1, below_drewN (below_set4 hbc T3.m7 _ _ _ _ _) 1⟩
        · have hst := Lib.hid (fun w1 => step_any xs ⟨false, yst, yn, yad⟩ xn xst w1 (IntWalk.i64_in _ (by simp only; omega)) (IntWalk.i64_in _ (by simp only; omega)) (IntWalk.i64_in _ (by simp only; omega)))
          have HT := Lib.hid (show thenE ls (i + 1) x y = upd (thenE ls i x y) i ⟨true, (stepF xs ⟨false, yst, yn, yad⟩ xn xst).2, (stepF xs ⟨false, yst, yn, yad⟩ xn xst).1, 0⟩ by rw [HS.out]; rfl)
          clear HS
          generalize stepF xs ⟨false, yst, yn, yad⟩ xn xst = R at *
          obtain ⟨r1, r2⟩ := R
          simp only at hst HT
          go_upto_region 9 with fail
          go_region_held3 (fun w' => w'.cell? ⟨p, 1, none⟩ = some (.int .i64 xs) ∧ w'.cell? ⟨p5, i * 4, none⟩ = some (.bool false) ∧ w'.cell? ⟨p5, i * 4 + 1, none⟩ = some (.bool yst) ∧ w'.cell? ⟨p5, i * 4 + 2, none⟩ = some (.int .i64 yn) ∧ w'.cell? ⟨p5, i * 4 + 3, none⟩ = some (.int .i64 yad) ∧ w'.cell? ⟨p4, i * 4 + 1, none⟩ = some (.bool xst) ∧ w'.cell? ⟨p4, i * 4 + 2, none⟩ = some (.int .i64 xn))
            (first | go_keep | (refine ⟨?_, ?_, ?_, ?_, ?_, ?_, ?_⟩ <;> (rw [hb9.cell (World.block_lt_of_cell? _ _ (by assumption))]; assumption)))
            (first | (go_at_call 31; refine (hst.out _).mono ?_; rintro er w9 ⟨rfl, hb9⟩))
          all_goals
            have hb10 := (below_drewN (Below.refl wc.heap.size wc) 1).trans hb9
            have T4 := T3.below hb10
            have hbd := below_trans' hbc hbc.size hb10
            obtain ⟨z0, z1, z2, z3⟩ := T4.b7.eff i9
            have f0 := T4.b7.frozen (i * 4)
            have f1 := T4.b7.frozen (i * 4 + 1)
            have f2 := T4.b7.frozen (i * 4 + 2)
            have f3 := T4.b7.frozen (i * 4 + 3)
            go_wp2_with fail
            go_roundw
            case measure => rw [intOf, intOf]; omega
            case rel => exact ⟨i + 1, by simp, by omega, T4.set i9 _ _ _ _ HT.out, below_set4 hbd T4.m7 _ _ _ _ _⟩
      · have HT := Lib.hid (show thenE ls (i + 1) x y = upd (thenE ls i x y) i ⟨true, yst, yn, yad⟩ by rw [HS.out]; rfl)
        clear HS
        go_wp2_with fail
        go_roundw
        case measure => rw [intOf, intOf]; omega
        case rel => exact ⟨i + 1, by simp, by omega, T3.set i9 _ _ _ _ HT.out, below_set4 hbc T3.m7 _ _ _ _ _⟩
    · have : i = n := by omega
      subst this
      go_upto_region 12 with fail
      have B6 := T2.b6
      have B7 := T2.b7
      unfold Blk at B6 B7
      go_wp2_with (first | (refine wpList_load_row rfl 51 _ rfl p7 rfl 51 _ (0, 0) _ B7 Tryz.underlying51 rfl (by kernel_rfl) ?_) | (refine wpList_store_row rfl 51 _ _ rfl p6 _ rfl rfl 51 _ B6 (by kernel_rfl) rfl (effA_one _) ?_))
      refine bodyPost_ret (results_cell_row rfl _ _ p6 51 _ (0, 0) _ rfl (setRow_heap wr p6 _ _ _ _ B6) Tryz.underlying51 rfl (by kernel_rfl)) rfl ?_
      exact ⟨rfl, below_setRow hbw T2.m6 _⟩
end Go.Proofs.YtbpodnhebjjkaaaGreatDoor

namespace Go.Proofs.YtbpodnhebjjkaaaGreatDoor
open Go.RowKit

def effP (ls : List Lv) (L : Nat) (restart : Int) (j : Nat) : Eff := fun k => if k = L then (if 0 < restart then ⟨true, true, restart, 0⟩ else ⟨false, false, 0, 1⟩) else if L < k ∧ k < j ∧ (L : Int) + 1 ≤ (gL ls k).restart then ⟨true, false, 0, 0⟩ else chZ
/-- the effect of a paragraph of the level L + 1. -/
def effF (ls : List Lv) (n L : Nat) (restart : Int) : Eff := effP ls L restart n
theorem effP_at (ls : List Lv) (L : Nat) (restart : Int) (j k : Nat) : effP ls L restart j k = if k = L then (if 0 < restart then ⟨true, true, restart, 0⟩ else ⟨false, false, 0, 1⟩) else if L < k ∧ k < j ∧ (L : Int) + 1 ≤ (gL ls k).restart then ⟨true, false, 0, 0⟩ else chZ := rfl
theorem upd_at {α : Type} (E : Nat → α) (k : Nat) (c : α) (i : Nat) : upd E k c i = if i = k then c else E i := rfl
theorem effP_start (ls : List Lv) (L : Nat) (restart : Int) (c : Ch) (hc : c = if 0 < restart then ⟨true, true, restart, 0⟩ else ⟨false, false, 0, 1⟩) : effP ls L restart (L + 1) = upd effZ L c := by
  funext k
  rw [effP_at, upd_at]
  by_cases h : k = L
  · rw [if_pos h, if_pos h]; exact hc.symm
  · rw [if_neg h, if_neg h, if_neg (by omega)]; rfl
theorem effP_in (ls : List Lv) (L : Nat) (restart : Int) {j : Nat} (hj : L < j) (h : (L : Int) + 1 ≤ (gL ls j).restart) : effP ls L restart (j + 1) = upd (effP ls L restart j) j ⟨true, false, 0, 0⟩ := by
  funext k
  rw [effP_at, upd_at]
  by_cases e : k = j
  · subst e; rw [if_neg (by omega), if_pos ⟨hj, by omega, h⟩, if_pos rfl]
  · rw [if_neg e, effP_at]
    by_cases e2 : k = L
    · rw [if_pos e2, if_pos e2]
    · rw [if_neg e2, if_neg e2]
      by_cases e3 : L < k ∧ k < j ∧ (L : Int) + 1 ≤ (gL ls k).restart
      · rw [if_pos ⟨e3.1, by omega, e3.2.2⟩, if_pos e3]
      · rw [if_neg (fun q => e3 ⟨q.1, by omega, q.2.2⟩), if_neg e3]
theorem effP_out (ls : List Lv) (L : Nat) (restart : Int) {j : Nat} (h : ¬ (L : Int) + 1 ≤ (gL ls j).restart) : effP ls L restart (j + 1) = effP ls L restart j := by
  funext k
  rw [effP_at, effP_at]
  by_cases e2 : k = L
  · rw [if_pos e2, if_pos e2]
  · rw [if_neg e2, if_neg e2]
    by_cases e3 : L < k ∧ k < j ∧ (L : Int) + 1 ≤ (gL ls k).restart
    · rw [if_pos ⟨e3.1, by omega, e3.2.2⟩, if_pos e3]
    · refine (if_neg (fun q => e3 ⟨q.1, ?_, q.2.2⟩)).trans (if_neg e3).symm
      have : k ≠ j := fun e => h (e ▸ q.2.2)
      omega
structure EW (w : World) (B p6 p7 : Nat) (Z : Eff) : Prop where
  b6 : Blk w p6 51 (effA effZ)
  b7 : Blk w p7 51 (effA Z)
  n6 : p7 ≠ p6
  m6 : B ≤ p6
  m7 : B ≤ p7
theorem EW.new (w : World) : EW ((w.alloc (.cells (effA effZ) 51)).alloc (.cells (effA effZ) 51)) w.heap.size w.heap.size (w.heap.size + 1) effZ := by
  have e1 := Blk.new w 51 (effA effZ)
  have e2 := Blk.new (w.alloc (.cells (effA effZ) 51)) 51 (effA effZ)
  rw [World.size_alloc] at e2
  exact ⟨e1.alloc _, e2, by omega, by omega, by omega⟩
theorem EW.set {w : World} {B p6 p7 : Nat} {Z : Eff} (h : EW w B p6 p7 Z) {k : Nat} (hk : k < 9) (a b : Bool) (n m : Int) {Z' : Eff} (e : Z' = upd Z k ⟨a, b, n, m⟩) : EW ((((w.setCell ⟨p7, k * 4, none⟩ (.bool a)).setCell ⟨p7, k * 4 + 1, none⟩ (.bool b)).setCell ⟨p7, k * 4 + 2, none⟩ (.int .i64 n)).setCell ⟨p7, k * 4 + 3, none⟩ (.int .i64 m)) B p6 p7 Z' := by
  subst e
  have g := only_set4 w p7 (k * 4) (.bool a) (.bool b) (.int .i64 n) (.int .i64 m)
  exact ⟨h.b6.keep g (fun e => h.n6 (by injection e)), h.b7.set4 hk a b n m, h.n6, h.m6, h.m7⟩
theorem upd_upd {α : Type} (E : Nat → α) (k : Nat) (c d : α) : upd (upd E k c) k d = upd E k d := by
  funext i
  by_cases h : i = k
  · simp [upd_at, h]
  · simp [upd_at, h]

set_option maxHeartbeats 8000000 in
set_option maxRecDepth 100000 in
theorem effect_any (A : Option Addr) (n c : Nat) (ls : List Lv) (L : Nat) (restart : Int) (w : World) (ha : Sl w 4 lvC A n ls) (hn : n ≤ 9) (hL : L < n) :
    Calls Tryz.prog 26 #[.slice A n c, .int .i64 ((L : Int) + 1), .int .i64 restart] w fun e w' => e = .returned (.agg (effA (effF ls n L restart))) ∧ Below w.heap.size w w' := by
  have T0 := EW.new w
  have hb0 := ((Below.refl w.heap.size w).alloc (Nat.le_refl _) (.cells (effA effZ) 51)).alloc (by simp) (.cells (effA effZ) 51)
  have HF := Lib.hid (show effF ls n L restart = effP ls L restart n from rfl)
  have S0 := Lib.hid (effP_start ls L restart)
  go_enter Tryz.func26, Tryz.ntmps26
  go_upto_region 1 with fail
  go_cut [6, 7] (fun v6 v7 wx => ∃ p6 p7, v6 = .pointer (some ⟨p6, 0, none⟩) ∧ v7 = .pointer (some ⟨p7, 0, none⟩) ∧ EW wx w.heap.size p6 p7 effZ ∧ Below w.heap.size w wx)
  case first =>
    go_wp2_with fail
    go_meet
    case rel => exact ⟨_, _, rfl, rfl, T0, hb0⟩
  case rest =>
  obtain ⟨p6, p7, rfl, rfl, T1, hb1⟩ := hcut
  clear T0 hb0
  have L9 : L < 9 := by omega
  have L9' : (L : Int) < 9 := by omega
  obtain ⟨z0, z1, z2, z3⟩ := T1.b7.eff L9
  have f0 := T1.b7.frozen (L * 4)
  have f1 := T1.b7.frozen (L * 4 + 1)
  have f2 := T1.b7.frozen (L * 4 + 2)
  have f3 := T1.b7.frozen (L * 4 + 3)
  go_upto_region 2 with fail
  go_cut [7] (fun v7 wx => v7 = .pointer (some ⟨p7, 0, none⟩) ∧ EW wx w.heap.size p6 p7 (upd effZ L ⟨false, false, 0, 1⟩) ∧ Below w.heap.size w wx)
  case first =>
    go_wp2_with fail
    go_meet
    case rel => exact ⟨rfl, T1.set L9 _ _ _ _ rfl, below_set4 hb1 T1.m7 _ _ _ _ _⟩
  case rest =>
  obtain ⟨rfl, T2, hb2⟩ := hcut
  clear T1 hb1 z0 z1 z2 z3 f0 f1 f2 f3
  obtain ⟨z0, z1, z2, z3⟩ := T2.b7.eff L9
  have f0 := T2.b7.frozen (L * 4)
  have f1 := T2.b7.frozen (L * 4 + 1)
  have f2 := T2.b7.frozen (L * 4 + 2)
  have f3 := T2.b7.frozen (L * 4 + 3)
  by_cases hr : 0 < restart
  · have T3 : EW ((((wc.setCell ⟨p7, L * 4, none⟩ (.bool true)).setCell ⟨p7, L * 4 + 1, none⟩ (.bool true)).setCell ⟨p7, L * 4 + 2, none⟩ (.int .i64 restart)).setCell ⟨p7, L * 4 + 3, none⟩ (.int .i64 0)) w.heap.size p6 p7 (effP ls L restart (L + 1)) := T2.set L9 _ _ _ _ (by rw [S0.out ⟨true, true, restart, 0⟩ (if_pos hr).symm, upd_upd])
    have hb3 := below_set4 hb2 T2.m7 (L * 4) (.bool true) (.bool true) (.int .i64 restart) (.int .i64 0)
    go_wp2_with fail
    go_loopw [8] (fun vi wr => ∃ j : Nat, vi = .int .i64 j ∧ L < j ∧ j ≤ n ∧ EW wr w.heap.size p6 p7 (effP ls L restart j) ∧ Below w.heap.size w wr) (fun vi _ => n - (intOf vi).toNat)
    case atStart => exact ⟨L + 1, by simp, by omega, by omega, T3, hb3⟩
    case round =>
      obtain ⟨j, rfl, hLj, hj, T4, hbw⟩ := hrel
      clear T3 hb3
      by_cases hlt : j < n
      · obtain ⟨ad, e, hl2, k0, k1, k2, k3⟩ := (ha.below hbw).lv hlt
        subst e
        have j9 : j < 9 := by omega
        have j9' : (j : Int) < 9 := by omega
        have HI := Lib.hid (effP_in ls L restart hLj)
        have HO := Lib.hid (effP_out ls L restart (j := j))
        generalize gL ls j = lv at *
        obtain ⟨xf, xs, xt, xr⟩ := lv
        simp only at k0 k1 k2 k3 HI HO
        obtain ⟨z0, z1, z2, z3⟩ := T4.b7.eff j9
        have f0 := T4.b7.frozen (j * 4)
        have f1 := T4.b7.frozen (j * 4 + 1)
        have f2 := T4.b7.frozen (j * 4 + 2)
        have f3 := T4.b7.frozen (j * 4 + 3)
        by_cases hxr : (L : Int) + 1 ≤ xr
        · go_wp2_with fail
          go_roundw
          case measure => rw [intOf, intOf]; omega
          case rel => exact ⟨j + 1, by simp, by omega, by omega, T4.set j9 _ _ _ _ (HI.out hxr), below_set4 hbw T4.m7 _ _ _ _ _⟩
        · go_wp2_with fail
          go_roundw
          case measure => rw [intOf, intOf]; omega
          case rel => exact ⟨j + 1, by simp, by omega, by omega, by rw [HO.out hxr]; exact T4, hbw⟩
      · have : j = n := by omega
        subst this
        go_upto_region 10 with fail
        have B6 := T4.b6
        have B7 := T4.b7
        unfold Blk at B6 B7
        go_wp2_with (first | (refine wpList_load_row rfl 51 _ rfl p7 rfl 51 _ (0, 0) _ B7 Tryz.underlying51 rfl (by kernel_rfl) ?_) | (refine wpList_store_row rfl 51 _ _ rfl p6 _ rfl rfl 51 _ B6 (by kernel_rfl) rfl (effA_one _) ?_))
        refine bodyPost_ret (results_cell_row rfl _ _ p6 51 _ (0, 0) _ rfl (setRow_heap wr p6 _ _ _ _ B6) Tryz.underlying51 rfl (by kernel_rfl)) rfl ?_
        exact ⟨by rw [HF.out], below_setRow hbw T4.m6 _⟩
  · skip
    have T3 : EW wc w.heap.size p6 p7 (effP ls L restart (L + 1)) := by rw [S0.out ⟨false, false, 0, 1⟩ (if_neg hr).symm]; exact T2
    have hb3 := hb2
    go_wp2_with fail
    go_loopw [8] (fun vi wr => ∃ j : Nat, vi = .int .i64 j ∧ L < j ∧ j ≤ n ∧ EW wr w.heap.size p6 p7 (effP ls L restart j) ∧ Below w.heap.size w wr) (fun vi _ => n - (intOf vi).toNat)
    case atStart => exact ⟨L + 1, by simp, by omega, by omega, T3, hb3⟩
    case round =>
      obtain ⟨j, rfl, hLj, hj, T4, hbw⟩ := hrel
      clear T3 hb3
      by_cases hlt : j < n
      · obtain ⟨ad, e, hl2, k0, k1, k2, k3⟩ := (ha.below hbw).lv hlt
        subst e
        have j9 : j < 9 := by omega
        have j9' : (j : Int) < 9 := by omega
        have HI := Lib.hid (effP_in ls L restart hLj)
        have HO := Lib.hid (effP_out ls L restart (j := j))
        generalize gL ls j = lv at *
        obtain ⟨xf, xs, xt, xr⟩ := lv
        simp only at k0 k1 k2 k3 HI HO
        obtain ⟨z0, z1, z2, z3⟩ := T4.b7.eff j9
        have f0 := T4.b7.frozen (j * 4)
        have f1 := T4.b7.frozen (j * 4 + 1)
        have f2 := T4.b7.frozen (j * 4 + 2)
        have f3 := T4.b7.frozen (j * 4 + 3)
        by_cases hxr : (L : Int) + 1 ≤ xr
        · go_wp2_with fail
          go_roundw
          case measure => rw [intOf, intOf]; omega
          case rel => exact ⟨j + 1, by simp, by omega, by omega, T4.set j9 _ _ _ _ (HI.out hxr), below_set4 hbw T4.m7 _ _ _ _ _⟩
        · go_wp2_with fail
          go_roundw
          case measure => rw [intOf, intOf]; omega
          case rel => exact ⟨j + 1, by simp, by omega, by omega, by rw [HO.out hxr]; exact T4, hbw⟩
      · have : j = n := by omega
        subst this
        go_upto_region 10 with fail
        have B6 := T4.b6
        have B7 := T4.b7
        unfold Blk at B6 B7
        go_wp2_with (first | (refine wpList_load_row rfl 51 _ rfl p7 rfl 51 _ (0, 0) _ B7 Tryz.underlying51 rfl (by kernel_rfl) ?_) | (refine wpList_store_row rfl 51 _ _ rfl p6 _ rfl rfl 51 _ B6 (by kernel_rfl) rfl (effA_one _) ?_))
        refine bodyPost_ret (results_cell_row rfl _ _ p6 51 _ (0, 0) _ rfl (setRow_heap wr p6 _ _ _ _ B6) Tryz.underlying51 rfl (by kernel_rfl)) rfl ?_
        exact ⟨by rw [HF.out], below_setRow hbw T4.m6 _⟩


end Go.Proofs.YtbpodnhebjjkaaaGreatDoor

namespace Go.Proofs.YtbpodnhebjjkaaaGreatDoor
open Go.RowKit

section
variable {P : Program}
theorem results_cell_tmp {fn : Func} {p q : Tmp} {ty : TypeId} (h : fn.results = #[.cell p ty, .tmp q]) (tmps : Array Value) (w : World) (g : Nat) (t : TypeId) (cs : Array Value) (fr : Nat × Nat) (d : TypeDesc)
    (hp : tmps.getD p undef = .pointer (some ⟨g, 0, none⟩)) (hg : w.heap[g]? = some (.cells cs t fr))
    (hu : P.underlying ty = some d) (hd : (match d with | .struct _ | .array _ _ => true | _ => false) = true) (hi : (P.info? ty).map (·.size) = some cs.size) :
    (results fn tmps).run P w = .ok (.tuple #[.agg cs, tmps.getD q undef]) w := by
  have hp' : tmps[p]?.getD undef = .pointer (some ⟨g, 0, none⟩) := by simpa using hp
  simp [results, h, hp', asAddr, run_loadVar_row w g t ty cs fr d hg hu hd hi]
end
def mkE (n : Nat) (level restart : Int) : Int := if level < 1 ∨ (n : Int) < level then 2 else if restart < 0 ∨ 32767 < restart then 5 else 0
def ofE (ls : List Lv) (n : Nat) (level restart : Int) : Int := if clE ls ≠ 0 then clE ls else mkE n level restart
def ofF (ls : List Lv) (n : Nat) (level restart : Int) : Eff := if ofE ls n level restart = 0 then effF ls n (level - 1).toNat restart else effZ
theorem clE_len {ls : List Lv} (h : clE ls = 0) : 0 < ls.length ∧ ls.length ≤ 9 := by
  unfold clE at h
  by_cases h0 : ls.length = 0
  · rw [if_pos h0] at h; omega
  · rw [if_neg h0] at h
    by_cases h9 : 9 < ls.length
    · rw [if_pos h9] at h; omega
    · omega
set_option maxHeartbeats 2000000 in
theorem checkMark_any (A : Option Addr) (n c : Nat) (level restart : Int) (w : World) :
    Calls Tryz.prog 30 #[.slice A n c, .int .i64 level, .int .i64 restart] w fun e w' => e = .returned (.int .i64 (mkE n level restart)) ∧ w' = w := by
  have HM := Lib.hid (show mkE n level restart = if level < 1 ∨ (n : Int) < level then 2 else if restart < 0 ∨ 32767 < restart then 5 else 0 from rfl)
  by_cases h1 : level < 1
  · go_enter Tryz.func30, Tryz.ntmps30
    go_wp2_with fail
    go_ret
    exact ⟨ret_int (by rw [HM.out, if_pos (.inl h1)]), rfl⟩
  by_cases h2 : (n : Int) < level
  · go_enter Tryz.func30, Tryz.ntmps30
    go_wp2_with fail
    go_ret
    exact ⟨ret_int (by rw [HM.out, if_pos (.inr h2)]), rfl⟩
  have HM2 := Lib.hid (HM.out.trans (if_neg (by omega)))
  clear HM
  by_cases h3 : restart < 0
  · go_enter Tryz.func30, Tryz.ntmps30
    go_wp2_with fail
    go_ret
    exact ⟨ret_int (by rw [HM2.out, if_pos (.inl h3)]), rfl⟩
  by_cases h4 : 32767 < restart
  · go_enter Tryz.func30, Tryz.ntmps30
    go_wp2_with fail
    go_ret
    exact ⟨ret_int (by rw [HM2.out, if_pos (.inr h4)]), rfl⟩
  go_enter Tryz.func30, Tryz.ntmps30
  go_wp2_with fail
  go_ret
  exact ⟨ret_int (by rw [HM2.out, if_neg (by omega)]), rfl⟩
set_option maxHeartbeats 8000000 in
set_option maxRecDepth 100000 in
theorem of_any (A : Option Addr) (n c : Nat) (ls : List Lv) (level restart : Int) (w : World) (ha : Sl w 4 lvC A n ls) :
    Calls Tryz.prog 13 #[.slice A n c, .int .i64 level, .int .i64 restart] w fun e w' => e = .returned (.tuple #[.agg (effA (ofF ls n level restart)), .int .i64 (ofE ls n level restart)]) ∧ Below w.heap.size w w' := by
  have hlen := ha.len
  have B0 := Blk.new w 51 (effA effZ)
  have hb0 := (Below.refl w.heap.size w).alloc (Nat.le_refl _) (.cells (effA effZ) 51)
  have HE := Lib.hid (show ofE ls n level restart = if clE ls ≠ 0 then clE ls else mkE n level restart from rfl)
  have HF := Lib.hid (show ofF ls n level restart = if ofE ls n level restart = 0 then effF ls n (level - 1).toNat restart else effZ from rfl)
  go_enter Tryz.func13, Tryz.ntmps13
  go_upto_region 0 with fail
  go_cut [6, 7] (fun v6 v7 wx => ∃ p6, v6 = .pointer (some ⟨p6, 0, none⟩) ∧ v7 = .int .i64 0 ∧ Blk wx p6 51 (effA effZ) ∧ w.heap.size ≤ p6 ∧ Below w.heap.size w wx)
  case first =>
    go_wp2_with fail
    go_meet
    case rel => exact ⟨_, rfl, rfl, B0, Nat.le_refl _, hb0⟩
  case rest =>
  obtain ⟨p6, rfl, rfl, B1, hp6, hb1⟩ := hcut
  clear B0 hb0
  have cl := checkLevels_any A n c ls wc (ha.below hb1)
  by_cases hc : clE ls = 0
  · rw [hc] at cl
    have hn := clE_len hc
    rw [hlen] at hn
    have HE2 := Lib.hid (HE.out.trans (if_neg (by rw [hc]; simp)))
    clear HE hc
    have cm := fun w1 => checkMark_any A n c level restart w1
    by_cases hm : mkE n level restart = 0
    · have hlv : 1 ≤ level ∧ level ≤ n := by
        unfold mkE at hm
        by_cases h1 : level < 1 ∨ (n : Int) < level
        · rw [if_pos h1] at hm; omega
        · omega
      rw [hm] at cm
      have HE3 := Lib.hid (HE2.out.trans hm)
      have HF2 := Lib.hid (HF.out.trans (if_pos HE3.out))
      obtain ⟨L, rfl⟩ : ∃ L : Nat, level = (L : Int) + 1 := ⟨(level - 1).toNat, by omega⟩
      have eL : ((L : Int) + 1 - 1).toNat = L := by omega
      rw [eL] at HF2
      have ef := fun w1 (ha1 : Sl w1 4 lvC A n ls) => effect_any A n c ls L restart w1 ha1 (by omega) (by omega)
      generalize effF ls n L restart = E at *
      clear hm hlv eL HE2 HF
      go_upto_region 7 with (first | (go_at_call 15; refine cl.mono ?_; rintro er w2 ⟨rfl, hb2⟩; have B2 := B1.below hb2; have hb2' := below_trans' hb1 hb1.size hb2) | (go_at_call 30; refine (cm _).mono ?_; rintro er w3 ⟨rfl, rfl⟩))
      go_wp2_with (first | (go_at_call 26; refine (ef _ (ha.below hb2')).mono ?_; rintro er w4 ⟨rfl, hb4⟩; have B4 := B2.below hb4; have B4' := B4; unfold Blk at B4') | (refine wpList_store_row rfl 51 _ _ rfl p6 _ rfl rfl 51 _ B4' (by kernel_rfl) rfl (effA_one _) ?_))
      refine bodyPost_ret (results_cell_tmp rfl _ _ p6 51 _ (0, 0) _ rfl (setRow_heap _ p6 _ _ _ _ B4') Tryz.underlying51 rfl (by kernel_rfl)) rfl ?_
      rw [HF2.out, HE3.out]
      exact ⟨rfl, below_setRow (below_trans' hb2' hb2'.size hb4) hp6 _⟩
    · have HE3 := Lib.hid HE2.out
      have HF2 := Lib.hid (HF.out.trans (if_neg (by rw [HE3.out]; exact hm)))
      generalize mkE n level restart = me at *
      clear HE2 HF
      go_wp2_with (first | (go_at_call 15; refine cl.mono ?_; rintro er w2 ⟨rfl, hb2⟩; have B2 := B1.below hb2; have hb2' := below_trans' hb1 hb1.size hb2; have B4' := B2; unfold Blk at B4') | (go_at_call 30; refine (cm _).mono ?_; rintro er w3 ⟨rfl, rfl⟩) | (refine wpList_store_row rfl 51 _ _ rfl p6 (effA effZ) rfl rfl 51 _ B4' (by kernel_rfl) rfl (effA_one _) ?_))
      refine bodyPost_ret (results_cell_tmp rfl _ _ p6 51 _ (0, 0) _ rfl (setRow_heap _ p6 _ _ _ _ B4') Tryz.underlying51 rfl (by kernel_rfl)) rfl ?_
      rw [HF2.out, HE3.out]
      exact ⟨rfl, below_setRow hb2' hp6 _⟩
  · have HE2 := Lib.hid (HE.out.trans (if_pos hc))
    have HF2 := Lib.hid (HF.out.trans (if_neg (by rw [HE2.out]; exact hc)))
    clear HE HF
    generalize clE ls = ce at *
    go_wp2_with (first | (go_at_call 15; refine cl.mono ?_; rintro er w2 ⟨rfl, hb2⟩; have B2 := B1.below hb2; have hb2' := below_trans' hb1 hb1.size hb2; have B4' := B2; unfold Blk at B4') | (refine wpList_store_row rfl 51 _ _ rfl p6 (effA effZ) rfl rfl 51 _ B4' (by kernel_rfl) rfl (effA_one _) ?_))
    refine bodyPost_ret (results_cell_tmp rfl _ _ p6 51 _ (0, 0) _ rfl (setRow_heap _ p6 _ _ _ _ B4') Tryz.underlying51 rfl (by kernel_rfl)) rfl ?_
    rw [HF2.out, HE2.out]
    exact ⟨rfl, below_setRow hb2' hp6 _⟩
end Go.Proofs.YtbpodnhebjjkaaaGreatDoor

namespace Go.Proofs.YtbpodnhebjjkaaaGreatDoor
open Go.RowKit

structure Mk where
  list : Int
  level : Int
  restart : Int
def mkC (m : Mk) : List Value := [.int .i64 m.list, .int .i64 m.level, .int .i64 m.restart]
theorem mkC_len (m : Mk) : (mkC m).length = 3 := rfl
theorem mkC_one (m : Mk) : ∀ u ∈ mkC m, u.oneCell' = true := by intro u hu; simp [mkC] at hu; rcases hu with rfl | rfl | rfl <;> rfl
def gM (ms : List Mk) (k : Nat) : Mk := ms.getD k ⟨0, 0, 0⟩
def MkOk (n : Nat) (ms : List Mk) : Prop := ∀ i, i < ms.length → 1 ≤ (gM ms i).level ∧ (gM ms i).level ≤ n ∧ 0 ≤ (gM ms i).restart ∧ (gM ms i).restart ≤ 32767
theorem Sl.mk_ {w : World} {A : Option Addr} {n : Nat} {xs : List Mk} (h : Sl w 3 mkC A n xs) {k : Nat} (hk : k < n) :
    ∃ ad, A = some ad ∧ ad.block < w.heap.size ∧ w.cell? (ad.add (k * 3)) = some (.int .i64 (gM xs k).list) ∧ w.cell? ⟨(ad.add (k * 3)).block, (ad.add (k * 3)).off + 1, none⟩ = some (.int .i64 (gM xs k).level) ∧ w.cell? ⟨(ad.add (k * 3)).block, (ad.add (k * 3)).off + 2, none⟩ = some (.int .i64 (gM xs k).restart) := by
  obtain ⟨ad, e, hl, x, hx, hc⟩ := h.at_ hk
  have hg : gM xs k = x := by unfold gM; rw [List.getD_eq_getElem?_getD, hx]; rfl
  rw [hg]
  have f : ∀ j u, 0 < j → (mkC x)[j]? = some u → w.cell? ⟨(ad.add (k * 3)).block, (ad.add (k * 3)).off + j, none⟩ = some u := fun j u hj hu => by
    have : w.cell? ((ad.add (k * 3)).add j) = w.cell? ⟨(ad.add (k * 3)).block, (ad.add (k * 3)).off + j, none⟩ := by
      unfold Addr.add; simp [Nat.ne_of_gt hj]
    rw [← this, add_add_]; exact hc j u hu
  exact ⟨ad, e, hl, hc 0 _ rfl, f 1 _ (by omega) rfl, f 2 _ (by omega) rfl⟩
def effM (ls : List Lv) (n : Nat) (m : Mk) : Eff := effF ls n (m.level - 1).toNat m.restart
def foldE (ls : List Lv) (n : Nat) (ms : List Mk) : Eff := ms.foldl (fun e m => thenE ls n e (effM ls n m)) effZ
theorem foldE_take (ls : List Lv) (n : Nat) (ms : List Mk) {i : Nat} (h : i < ms.length) : foldE ls n (ms.take (i + 1)) = thenE ls n (foldE ls n (ms.take i)) (effM ls n (gM ms i)) := by
  have : gM ms i = ms[i] := by unfold gM; rw [List.getD_eq_getElem?_getD, List.getElem?_eq_getElem h]; rfl
  unfold foldE
  rw [List.take_succ_eq_append_getElem h, List.foldl_append, List.foldl_cons, List.foldl_nil, this]
theorem chZ_ok {M : Int} (h : 0 ≤ M) : ChOk M chZ := by unfold ChOk chZ; exact ⟨Int.le_refl _, by show (0 : Int) ≤ _; omega, Int.le_refl _, h⟩
theorem thenE_ok {ls : List Lv} {n : Nat} {M K : Int} {x y : Eff} (hL : LvOk n ls) (hx : ∀ i, ChOk M (x i)) (hy : ∀ i, ChOk K (y i)) (hM : 0 ≤ M) (hK : 0 ≤ K) : ∀ i, ChOk (M + K) (thenE ls n x y i) := by
  intro i
  unfold thenE
  by_cases h : i < n
  · rw [if_pos h]
    obtain ⟨a1, a2, a3, a4⟩ := hx i
    obtain ⟨b1, b2, b3, b4⟩ := hy i
    obtain ⟨s1, s2⟩ := hL i h
    unfold thenC
    by_cases f : (y i).fx = true
    · rw [if_pos f]; exact ⟨b1, by omega, b3, by omega⟩
    · rw [if_neg f]
      by_cases g : (x i).fx = true
      · rw [if_pos g]
        unfold stepF
        rw [if_neg f]
        by_cases z : (y i).add = 0
        · rw [if_pos z]; exact ⟨a1, by show (x i).num ≤ _; omega, by show (0 : Int) ≤ 0; omega, by show (0 : Int) ≤ _; omega⟩
        · rw [if_neg z]
          by_cases t : (x i).st = true
          · rw [if_pos t]; exact ⟨by show 0 ≤ (x i).num + (y i).add; omega, by show (x i).num + (y i).add ≤ _; omega, by show (0 : Int) ≤ 0; omega, by show (0 : Int) ≤ _; omega⟩
          · rw [if_neg t]; exact ⟨by show 0 ≤ (gL ls i).start + (y i).add - 1; omega, by show (gL ls i).start + (y i).add - 1 ≤ _; omega, by show (0 : Int) ≤ 0; omega, by show (0 : Int) ≤ _; omega⟩
      · rw [if_neg g]; exact ⟨by show (0 : Int) ≤ 0; omega, by show (0 : Int) ≤ _; omega, by show 0 ≤ (x i).add + (y i).add; omega, by show (x i).add + (y i).add ≤ _; omega⟩
  · rw [if_neg h]; exact chZ_ok (by omega)
theorem effF_ok (ls : List Lv) (n L : Nat) {r : Int} (h0 : 0 ≤ r) (h1 : r ≤ 32767) : ∀ i, ChOk 1 (effF ls n L r i) := by
  intro i
  show ChOk 1 (effP ls L r n i)
  rw [effP_at]
  split
  · split
    · exact ⟨h0, by show r ≤ _; omega, by show (0 : Int) ≤ 0; omega, by show (0 : Int) ≤ 1; omega⟩
    · exact ⟨by show (0 : Int) ≤ 0; omega, by show (0 : Int) ≤ _; omega, by show (0 : Int) ≤ 1; omega, by show (1 : Int) ≤ 1; omega⟩
  · split
    · exact ⟨by show (0 : Int) ≤ 0; omega, by show (0 : Int) ≤ _; omega, by show (0 : Int) ≤ 0; omega, by show (0 : Int) ≤ 1; omega⟩
    · exact chZ_ok (by omega)
theorem foldE_ok {ls : List Lv} {n : Nat} {ms : List Mk} (hL : LvOk n ls) (hm : MkOk n ms) : ∀ i, i ≤ ms.length → ∀ j, ChOk i (foldE ls n (ms.take i) j)
  | 0, _ => fun j => chZ_ok (by omega)
  | i + 1, h => by
    rw [foldE_take ls n ms h]
    have := thenE_ok hL (foldE_ok hL hm i (by omega)) (effF_ok ls n ((gM ms i).level - 1).toNat (hm i h).2.2.1 (hm i h).2.2.2) (by omega) (by omega)
    exact this
end Go.Proofs.YtbpodnhebjjkaaaGreatDoor
