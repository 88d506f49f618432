/- renumber.Then. -/
import Derived.Test.YtjpbmeonkfkgdaaG1
import Derived.Laws.CopyOwn
namespace Go.Proofs.Ytjpbmeonkfkgdaa
open Go.RowKit

def ChOk (M : Int) (c : Ch) : Prop := 0 ≤ c.num ∧ c.num ≤ 32767 + M ∧ 0 ≤ c.add ∧ c.add ≤ M
def LvOk (n : Nat) (ls : List Lv) : Prop := ∀ i, i < n → 0 ≤ (gL ls i).start ∧ (gL ls i).start ≤ 32767
structure TW (w : World) (B p4 p5 p6 p7 : Nat) (x y Z : Eff) : Prop where
  b4 : Blk w p4 33 (effA x)
  b5 : Blk w p5 33 (effA y)
  b6 : Blk w p6 33 (effA effZ)
  b7 : Blk w p7 33 (effA Z)
  n4 : p7 ≠ p4
  n5 : p7 ≠ p5
  n6 : p7 ≠ p6
  m6 : B ≤ p6
  m7 : B ≤ p7
theorem TW.below {w w' : World} {B p4 p5 p6 p7 : Nat} {x y Z : Eff} (h : TW w B p4 p5 p6 p7 x y Z) (hb : Below w.heap.size w w') : TW w' B p4 p5 p6 p7 x y Z :=
  ⟨h.b4.below hb, h.b5.below hb, h.b6.below hb, h.b7.below hb, h.n4, h.n5, h.n6, h.m6, h.m7⟩
theorem TW.new (w : World) (x y : Eff) : TW ((((w.alloc (.cells (effA x) 33)).alloc (.cells (effA y) 33)).alloc (.cells (effA effZ) 33)).alloc (.cells (effA effZ) 33)) w.heap.size w.heap.size (w.heap.size + 1) (w.heap.size + 1 + 1) (w.heap.size + 1 + 1 + 1) x y effZ := by
  have e1 := Blk.new w 33 (effA x)
  have e2 := Blk.new (w.alloc (.cells (effA x) 33)) 33 (effA y)
  have e3 := Blk.new ((w.alloc (.cells (effA x) 33)).alloc (.cells (effA y) 33)) 33 (effA effZ)
  have e4 := Blk.new (((w.alloc (.cells (effA x) 33)).alloc (.cells (effA y) 33)).alloc (.cells (effA effZ) 33)) 33 (effA effZ)
  rw [World.size_alloc] at e2
  rw [World.size_alloc, World.size_alloc] at e3
  rw [World.size_alloc, World.size_alloc, World.size_alloc] at e4
  exact ⟨((e1.alloc _).alloc _).alloc _, (e2.alloc _).alloc _, e3.alloc _, e4, by omega, by omega, by omega, by omega, by omega⟩
theorem only_set4 (w : World) (g k : Nat) (a b c d : Value) : w.grownBy ((((w.setCell ⟨g, k, none⟩ a).setCell ⟨g, k + 1, none⟩ b).setCell ⟨g, k + 2, none⟩ c).setCell ⟨g, k + 3, none⟩ d) (some g) :=
  only_set (only_set (only_set (gset w g k a) _ b) _ c) _ d
theorem cell_set4 (w : World) {g h : Nat} (hn : h ≠ g) (k j : Nat) (a b c d : Value) : ((((w.setCell ⟨g, k, none⟩ a).setCell ⟨g, k + 1, none⟩ b).setCell ⟨g, k + 2, none⟩ c).setCell ⟨g, k + 3, none⟩ d).cell? ⟨h, j, none⟩ = w.cell? ⟨h, j, none⟩ := by
  rw [World.cell?_setCell_other (h := fun e => hn (by injection e with e; exact e.symm)), World.cell?_setCell_other (h := fun e => hn (by injection e with e; exact e.symm)), World.cell?_setCell_other (h := fun e => hn (by injection e with e; exact e.symm)), World.cell?_setCell_other (h := fun e => hn (by injection e with e; exact e.symm))]
theorem cell_set4d (w : World) {g h : Nat} (hn : h ≠ g) (k j : Nat) (a b c d v : Value) (e : w.cell? ⟨h, j, none⟩ = some v) : ((((w.setCell ⟨g, k, none⟩ a).setCell ⟨g, k + 1, none⟩ b).setCell ⟨g, k + 2, none⟩ c).setCell ⟨g, k + 3, none⟩ d).drew.cell? ⟨h, j, none⟩ = some v := (cell_set4 w hn k j a b c d).trans e
theorem Blk.set4 {w : World} {g : Nat} {t : TypeId} {E : Eff} (h : Blk w g t (effA E)) {k : Nat} (hk : k < 9) (a b : Bool) (n m : Int) : Blk ((((w.setCell ⟨g, k * 4, none⟩ (.bool a)).setCell ⟨g, k * 4 + 1, none⟩ (.bool b)).setCell ⟨g, k * 4 + 2, none⟩ (.int .i64 n)).setCell ⟨g, k * 4 + 3, none⟩ (.int .i64 m)) g t (effA (upd E k ⟨a, b, n, m⟩)) := by
  have := (((h.set_ (k * 4) (.bool a)).set_ (k * 4 + 1) (.bool b)).set_ (k * 4 + 2) (.int .i64 n)).set_ (k * 4 + 3) (.int .i64 m)
  rw [effA_upd E a b n m k hk] at this
  exact this
theorem below_set4 {B : Nat} {w0 w : World} (h : Below B w0 w) {g : Nat} (hg : B ≤ g) (k : Nat) (a b c d : Value) : Below B w0 ((((w.setCell ⟨g, k, none⟩ a).setCell ⟨g, k + 1, none⟩ b).setCell ⟨g, k + 2, none⟩ c).setCell ⟨g, k + 3, none⟩ d) :=
  (((h.setCell (p := ⟨g, k, none⟩) hg a).setCell (p := ⟨g, k + 1, none⟩) hg b).setCell (p := ⟨g, k + 2, none⟩) hg c).setCell (p := ⟨g, k + 3, none⟩) hg d
theorem TW.set {w : World} {B p4 p5 p6 p7 : Nat} {x y Z : Eff} (h : TW w B p4 p5 p6 p7 x y Z) {k : Nat} (hk : k < 9) (a b : Bool) (n m : Int) {Z' : Eff} (e : Z' = upd Z k ⟨a, b, n, m⟩) : TW ((((w.setCell ⟨p7, k * 4, none⟩ (.bool a)).setCell ⟨p7, k * 4 + 1, none⟩ (.bool b)).setCell ⟨p7, k * 4 + 2, none⟩ (.int .i64 n)).setCell ⟨p7, k * 4 + 3, none⟩ (.int .i64 m)) B p4 p5 p6 p7 x y Z' := by
  subst e
  have g := only_set4 w p7 (k * 4) (.bool a) (.bool b) (.int .i64 n) (.int .i64 m)
  exact ⟨h.b4.keep g (fun e => h.n4 (by injection e)), h.b5.keep g (fun e => h.n5 (by injection e)), h.b6.keep g (fun e => h.n6 (by injection e)), h.b7.set4 hk a b n m, h.n4, h.n5, h.n6, h.m6, h.m7⟩
theorem TW.drewN {w : World} {B p4 p5 p6 p7 : Nat} {x y Z : Eff} (h : TW w B p4 p5 p6 p7 x y Z) (n : Nat) : TW (w.drewN n) B p4 p5 p6 p7 x y Z := ⟨h.b4, h.b5, h.b6, h.b7, h.n4, h.n5, h.n6, h.m6, h.m7⟩
set_option maxHeartbeats 8000000 in
set_option maxRecDepth 100000 in
theorem then_any (A : Option Addr) (n c : Nat) (ls : List Lv) (x y : Eff) (M K : Int) (w : World) (ha : Sl w 4 lvC A n ls) (hn : n ≤ 9) (hL : LvOk n ls) (hx : ∀ i, ChOk M (x i)) (hy : ∀ i, ChOk K (y i)) (hM : M ≤ 1000000000) (hK : K ≤ 1000000000) :
    Calls Try.prog 12 #[.slice A n c, .agg (effA x), .agg (effA y)] w fun e w' => e = .returned (.agg (effA (thenE ls n x y))) ∧ Below w.heap.size w w' := by
  have HL := Lib.hid hL
  have HX := Lib.hid hx
  have HY := Lib.hid hy
  clear hL hx hy
  have T0 := TW.new w x y
  have hb0 := ((((Below.refl w.heap.size w).alloc (Nat.le_refl _) (.cells (effA x) 33)).alloc (by simp) (.cells (effA y) 33)).alloc (by simp; omega) (.cells (effA effZ) 33)).alloc (by simp; omega) (.cells (effA effZ) 33)
  go_enter Try.func12, Try.ntmps12
  go_upto_region 1 with fail
  go_cut [4, 5, 6, 7] (fun v4 v5 v6 v7 wx => ∃ p4 p5 p6 p7, v4 = .pointer (some ⟨p4, 0, none⟩) ∧ v5 = .pointer (some ⟨p5, 0, none⟩) ∧ v6 = .pointer (some ⟨p6, 0, none⟩) ∧ v7 = .pointer (some ⟨p7, 0, none⟩) ∧ TW wx w.heap.size p4 p5 p6 p7 x y effZ ∧ Below w.heap.size w wx)
  case first =>
    go_wp2_with fail
    go_meet
    case rel => exact ⟨_, _, _, _, rfl, rfl, rfl, rfl, T0, hb0⟩
  case rest =>
  obtain ⟨p4, p5, p6, p7, rfl, rfl, rfl, rfl, T1, hb1⟩ := hcut
  clear T0 hb0

  go_wp2_with fail
  go_loopw [14] (fun vi wr => ∃ i : Nat, vi = .int .i64 i ∧ i ≤ n ∧ TW wr w.heap.size p4 p5 p6 p7 x y (thenE ls i x y) ∧ Below w.heap.size w wr) (fun vi _ => n - (intOf vi).toNat)
  case atStart => exact ⟨0, rfl, Nat.zero_le _, T1, hb1⟩
  case round =>
    obtain ⟨i, rfl, hi, T2, hbw⟩ := hrel
    clear T1 hb1
    by_cases hlt : i < n
    · obtain ⟨ad, e, hl2, k0, k1, k2, k3⟩ := (ha.below hbw).lv hlt
      subst e
      have i9 : i < 9 := by omega
      have i9' : (i : Int) < 9 := by omega
      have st := HL.out i hlt
      have sx := HX.out i
      have sy := HY.out i
      have HS := Lib.hid (thenE_succ ls i x y)
      unfold ChOk at sx sy
      generalize gL ls i = lv at *
      obtain ⟨xf, xs, xt, xr⟩ := lv
      simp only at k0 k1 k2 k3 st
      go_upto_region 4 with fail
      go_cut [8, 9] (fun v8 v9 wx => ∃ p, v8 = .int .i64 i ∧ v9 = .pointer (some ⟨p, 0, none⟩) ∧ Blk wx p 59 #[.int .i64 xf, .int .i64 xs, .string xt, .int .i64 xr] ∧ Below wr.heap.size wr wx)
      case first =>
        go_wp2_with fail
        go_meet
        case rel => exact ⟨_, rfl, rfl, Blk.new _ _ _, (Below.refl _ _).alloc (Nat.le_refl _) _⟩
      case rest =>
      obtain ⟨p, rfl, rfl, B9, hb4⟩ := hcut
      clear k0 k1 k2 k3
      have T3 := T2.below hb4
      have hbc := below_trans' hbw hbw.size hb4
      clear T2 hbw hb4
      have m1 : wc.cell? ⟨p, 1, none⟩ = some (.int .i64 xs) := B9.cell 1 rfl
      obtain ⟨y0, y1, y2, y3⟩ := T3.b5.eff i9
      obtain ⟨x0, x1, x2, x3⟩ := T3.b4.eff i9
      obtain ⟨z0, z1, z2, z3⟩ := T3.b7.eff i9
      have f0 := T3.b7.frozen (i * 4)
      have f1 := T3.b7.frozen (i * 4 + 1)
      have f2 := T3.b7.frozen (i * 4 + 2)
      have f3 := T3.b7.frozen (i * 4 + 3)
      generalize x i = xi at *
      generalize y i = yi at *
      obtain ⟨xfx, xst, xn, xad⟩ := xi
      obtain ⟨yfx, yst, yn, yad⟩ := yi
      simp only at x0 x1 x2 x3 y0 y1 y2 y3 sx sy
      cases yfx
      · cases xfx
        · have HT := Lib.hid (show thenE ls (i + 1) x y = upd (thenE ls i x y) i ⟨false, false, 0, xad + yad⟩ by rw [HS.out]; rfl)
          have hw : IntKind.i64.wrap (xad + yad) = xad + yad := IntWalk.i64_in _ (by omega)
          clear HS
          have s5 := cell_set4d wc T3.n5.symm (i * 4) (i * 4 + 3) (.bool false) (.bool false) (.int .i64 0) (.int .i64 (xad + yad)) _ y3
          have s4 := cell_set4d wc T3.n4.symm (i * 4) (i * 4 + 3) (.bool false) (.bool false) (.int .i64 0) (.int .i64 (xad + yad)) _ x3
          go_upto_region 5 with fail
          go_region_held3 (fun w' => w'.cell? ⟨p5, i * 4 + 3, none⟩ = some (.int .i64 yad) ∧ w'.cell? ⟨p4, i * 4 + 3, none⟩ = some (.int .i64 xad))
            (first | (with_reducible exact ⟨s5, s4⟩) | go_keep)
            (fail)
          all_goals
            go_wp2_with fail
            go_roundw
            case measure => rw [intOf, intOf]; omega
            case rel => exact ⟨i + 1, by simp, by omega, (T3.set i9 _ _ _ _ HT.out).drewN 1, below_drewN (below_set4 hbc T3.m7 _ _ _ _ _) 1⟩
        · have hst := Lib.hid (fun w1 => step_any xs ⟨false, yst, yn, yad⟩ xn xst w1 (IntWalk.i64_in _ (by simp only; omega)) (IntWalk.i64_in _ (by simp only; omega)) (IntWalk.i64_in _ (by simp only; omega)))
          have HT := Lib.hid (show thenE ls (i + 1) x y = upd (thenE ls i x y) i ⟨true, (stepF xs ⟨false, yst, yn, yad⟩ xn xst).2, (stepF xs ⟨false, yst, yn, yad⟩ xn xst).1, 0⟩ by rw [HS.out]; rfl)
          clear HS
          generalize stepF xs ⟨false, yst, yn, yad⟩ xn xst = R at *
          obtain ⟨r1, r2⟩ := R
          simp only at hst HT
          go_upto_region 9 with fail
          go_region_held3 (fun w' => w'.cell? ⟨p, 1, none⟩ = some (.int .i64 xs) ∧ w'.cell? ⟨p5, i * 4, none⟩ = some (.bool false) ∧ w'.cell? ⟨p5, i * 4 + 1, none⟩ = some (.bool yst) ∧ w'.cell? ⟨p5, i * 4 + 2, none⟩ = some (.int .i64 yn) ∧ w'.cell? ⟨p5, i * 4 + 3, none⟩ = some (.int .i64 yad) ∧ w'.cell? ⟨p4, i * 4 + 1, none⟩ = some (.bool xst) ∧ w'.cell? ⟨p4, i * 4 + 2, none⟩ = some (.int .i64 xn))
            (first | go_keep | (refine ⟨?_, ?_, ?_, ?_, ?_, ?_, ?_⟩ <;> (rw [hb9.cell (World.block_lt_of_cell? _ _ (by assumption))]; assumption)))
            (first | (go_at_call 19; refine (hst.out _).mono ?_; rintro er w9 ⟨rfl, hb9⟩))
          all_goals
            have hb10 := (below_drewN (Below.refl wc.heap.size wc) 1).trans hb9
            have T4 := T3.below hb10
            have hbd := below_trans' hbc hbc.size hb10
            obtain ⟨z0, z1, z2, z3⟩ := T4.b7.eff i9
            have f0 := T4.b7.frozen (i * 4)
            have f1 := T4.b7.frozen (i * 4 + 1)
            have f2 := T4.b7.frozen (i * 4 + 2)
            have f3 := T4.b7.frozen (i * 4 + 3)
            go_wp2_with fail
            go_roundw
            case measure => rw [intOf, intOf]; omega
            case rel => exact ⟨i + 1, by simp, by omega, T4.set i9 _ _ _ _ HT.out, below_set4 hbd T4.m7 _ _ _ _ _⟩
      · have HT := Lib.hid (show thenE ls (i + 1) x y = upd (thenE ls i x y) i ⟨true, yst, yn, yad⟩ by rw [HS.out]; rfl)
        clear HS
        go_wp2_with fail
        go_roundw
        case measure => rw [intOf, intOf]; omega
        case rel => exact ⟨i + 1, by simp, by omega, T3.set i9 _ _ _ _ HT.out, below_set4 hbc T3.m7 _ _ _ _ _⟩
    · have : i = n := by omega
      subst this
      go_upto_region 12 with fail
      have B6 := T2.b6
      have B7 := T2.b7
      unfold Blk at B6 B7
      go_wp2_with (first | (refine wpList_load_row rfl 33 _ rfl p7 rfl 33 _ (0, 0) _ B7 Try.underlying33 rfl (by kernel_rfl) ?_) | (refine wpList_store_row rfl 33 _ _ rfl p6 _ rfl rfl 33 _ B6 (by kernel_rfl) rfl (effA_one _) ?_))
      refine bodyPost_ret (results_cell_row rfl _ _ p6 33 _ (0, 0) _ rfl (setRow_heap wr p6 _ _ _ _ B6) Try.underlying33 rfl (by kernel_rfl)) rfl ?_
      exact ⟨rfl, below_setRow hbw T2.m6 _⟩
end Go.Proofs.Ytjpbmeonkfkgdaa
