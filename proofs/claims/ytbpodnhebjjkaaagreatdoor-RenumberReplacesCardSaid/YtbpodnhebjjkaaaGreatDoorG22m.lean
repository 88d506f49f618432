/- renumber.Apply. -/
import Derived.Test.YtbpodnhebjjkaaaGreatDoorm8
import Derived.Test.YtbpodnhebjjkaaaGreatDoorm9
import Derived.Test.YtbpodnhebjjkaaaGreatDoorm1
namespace Go.Proofs.YtbpodnhebjjkaaaGreatDoor
open Go.RowKit

structure AW (w : World) (B p4 p5 p6 : Nat) (E : Eff) (Z : Cn) : Prop where
  b4 : Blk w p4 51 (effA E)
  b5 : Blk w p5 87 (cnA Z)
  b6 : Blk w p6 87 (cnA cnZ)
  n4 : p5 ≠ p4
  n6 : p5 ≠ p6
  m5 : B ≤ p5
  m6 : B ≤ p6
theorem AW.below {w w' : World} {B p4 p5 p6 : Nat} {E : Eff} {Z : Cn} (h : AW w B p4 p5 p6 E Z) (hb : Below w.heap.size w w') : AW w' B p4 p5 p6 E Z := ⟨h.b4.below hb, h.b5.below hb, h.b6.below hb, h.n4, h.n6, h.m5, h.m6⟩
theorem AW.new (w : World) (E : Eff) (c : Cn) : AW (((w.alloc (.cells (effA E) 51)).alloc (.cells (cnA c) 87)).alloc (.cells (cnA cnZ) 87)) w.heap.size w.heap.size (w.heap.size + 1) (w.heap.size + 1 + 1) E c := by
  have e1 := Blk.new w 51 (effA E)
  have e2 := Blk.new (w.alloc (.cells (effA E) 51)) 87 (cnA c)
  have e3 := Blk.new ((w.alloc (.cells (effA E) 51)).alloc (.cells (cnA c) 87)) 87 (cnA cnZ)
  rw [World.size_alloc] at e2
  rw [World.size_alloc, World.size_alloc] at e3
  exact ⟨(e1.alloc _).alloc _, e2.alloc _, e3, by omega, by omega, by omega, by omega⟩
theorem AW.setns {w : World} {B p4 p5 p6 : Nat} {E : Eff} {Z : Cn} (h : AW w B p4 p5 p6 E Z) {k : Nat} (hk : k < 9) (n : Int) (b : Bool) : AW ((w.setCell ⟨p5, k, none⟩ (.int .i64 n)).setCell ⟨p5, 9 + k, none⟩ (.bool b)) B p4 p5 p6 E (upd Z k (n, b)) :=
  ⟨h.b4.keep (only_set2 w p5 _ _ _ _) (fun e => h.n4 (by injection e)), h.b5.setns hk n b, h.b6.keep (only_set2 w p5 _ _ _ _) (fun e => h.n6 (by injection e)), h.n4, h.n6, h.m5, h.m6⟩
theorem AW.setsn {w : World} {B p4 p5 p6 : Nat} {E : Eff} {Z : Cn} (h : AW w B p4 p5 p6 E Z) {k : Nat} (hk : k < 9) (n : Int) (b : Bool) : AW ((w.setCell ⟨p5, 9 + k, none⟩ (.bool b)).setCell ⟨p5, k, none⟩ (.int .i64 n)) B p4 p5 p6 E (upd Z k (n, b)) :=
  ⟨h.b4.keep (only_set2 w p5 _ _ _ _) (fun e => h.n4 (by injection e)), h.b5.setsn hk n b, h.b6.keep (only_set2 w p5 _ _ _ _) (fun e => h.n6 (by injection e)), h.n4, h.n6, h.m5, h.m6⟩
set_option maxHeartbeats 8000000 in
set_option maxRecDepth 100000 in
theorem apply_any (A : Option Addr) (n cA : Nat) (ls : List Lv) (E : Eff) (c : Cn) (M K : Int) (w : World) (ha : Sl w 4 lvC A n ls) (hn : n ≤ 9) (hL : LvOk n ls) (hE : ∀ i, ChOk M (E i)) (hc : CnOk K c) (hM : M ≤ 1000000000) (hK : K ≤ 1099511627776) :
    Calls Tryz.prog 25 #[.slice A n cA, .agg (effA E), .agg (cnA c)] w fun e w' => e = .returned (.agg (cnA (applyE ls n E c))) ∧ Below w.heap.size w w' := by
  have HL := Lib.hid hL
  have HE := Lib.hid hE
  have HC := Lib.hid hc
  clear hL hE hc
  have T0 := AW.new w E c
  have hb0 := bAlloc (bAlloc (bAlloc (Below.refl w.heap.size w) (.cells (effA E) 51)) (.cells (cnA c) 87)) (.cells (cnA cnZ) 87)
  go_enter Tryz.func25, Tryz.ntmps25
  go_upto_region 0 with fail
  go_cut [4, 5, 6] (fun v4 v5 v6 wx => ∃ p4 p5 p6, v4 = .pointer (some ⟨p4, 0, none⟩) ∧ v5 = .pointer (some ⟨p5, 0, none⟩) ∧ v6 = .pointer (some ⟨p6, 0, none⟩) ∧ AW wx w.heap.size p4 p5 p6 E c ∧ Below w.heap.size w wx)
  case first =>
    go_wp2_with fail
    go_meet
    case rel => exact ⟨_, _, _, rfl, rfl, rfl, T0, hb0⟩
  case rest =>
  obtain ⟨p4, p5, p6, rfl, rfl, rfl, T1, hb1⟩ := hcut
  clear T0 hb0
  go_wp2_with fail
  go_loopw [11] (fun vi wr => ∃ i : Nat, vi = .int .i64 i ∧ i ≤ n ∧ AW wr w.heap.size p4 p5 p6 E (applyE ls i E c) ∧ Below w.heap.size w wr) (fun vi _ => n - (intOf vi).toNat)
  case atStart => exact ⟨0, rfl, Nat.zero_le _, by rw [show applyE ls 0 E c = c from by funext i; unfold applyE; rw [if_neg (by omega)]]; exact T1, hb1⟩
  case round =>
    obtain ⟨i, rfl, hi, T2, hbw⟩ := hrel
    clear T1 hb1
    by_cases hlt : i < n
    · obtain ⟨ad, e, hl2, k0, k1, k2, k3⟩ := (ha.below hbw).lv hlt
      subst e
      have i9 : i < 9 := by omega
      have i9' : (i : Int) < 9 := by omega
      have i0' : (0 : Int) ≤ i := by omega
      have st := HL.out i hlt
      have sx := HE.out i
      have sc := HC.out i
      have hat := applyE_at ls i E c
      have HT := Lib.hid (applyE_succ ls i E c)
      unfold ChOk at sx
      generalize gL ls i = lv at *
      obtain ⟨xf, xs, xt, xr⟩ := lv
      simp only at k0 k1 k2 k3 st
      go_upto_region 3 with fail
      go_cut [7, 8] (fun v7 v8 wx => ∃ p, v7 = .int .i64 i ∧ v8 = .pointer (some ⟨p, 0, none⟩) ∧ Blk wx p 74 #[.int .i64 xf, .int .i64 xs, .string xt, .int .i64 xr] ∧ wr.heap.size ≤ p ∧ Below wr.heap.size wr wx)
      case first =>
        go_wp2_with fail
        go_meet
        case rel => exact ⟨_, rfl, rfl, Blk.new _ _ _, Nat.le_refl _, (Below.refl _ _).alloc (Nat.le_refl _) _⟩
      case rest =>
      obtain ⟨p8, rfl, rfl, B9, hp8, hb4⟩ := hcut
      clear k0 k1 k2 k3
      have n8 : p5 ≠ p8 := by have := T2.b5.lt; omega
      have T3 := T2.below hb4
      have hbc := below_trans' hbw hbw.size hb4
      clear T2 hbw hb4
      have m1 : wc.cell? ⟨p8, 1, none⟩ = some (.int .i64 xs) := B9.cell 1 rfl
      obtain ⟨x0, x1, x2, x3⟩ := T3.b4.eff i9
      obtain ⟨z0, z1⟩ := T3.b5.cn i9
      rw [hat] at z0 z1
      generalize E i = ei at *
      generalize c i = ci at *
      obtain ⟨ef, es, en, ea⟩ := ei
      obtain ⟨cn, cs⟩ := ci
      simp only at x0 x1 x2 x3 z0 z1 sx sc HT
      clear hat
      have hst := Lib.hid (fun w1 => step_any xs ⟨ef, es, en, ea⟩ cn cs w1 (IntWalk.i64_in _ (by simp only; omega)) (IntWalk.i64_in _ (by simp only; omega)) (IntWalk.i64_in _ (by simp only; omega)))
      generalize stepF xs ⟨ef, es, en, ea⟩ cn cs = R at *
      obtain ⟨r1, r2⟩ := R
      simp only at hst HT
      have SK : ∀ {w0 w1 : World}, (w0.cell? ⟨p8, 1, none⟩ = some (.int .i64 xs) ∧ w0.cell? ⟨p4, i * 4, none⟩ = some (.bool ef) ∧ w0.cell? ⟨p4, i * 4 + 1, none⟩ = some (.bool es) ∧ w0.cell? ⟨p4, i * 4 + 2, none⟩ = some (.int .i64 en) ∧ w0.cell? ⟨p4, i * 4 + 3, none⟩ = some (.int .i64 ea)) → Below w0.heap.size w0 w1 → (w1.cell? ⟨p8, 1, none⟩ = some (.int .i64 xs) ∧ w1.cell? ⟨p4, i * 4, none⟩ = some (.bool ef) ∧ w1.cell? ⟨p4, i * 4 + 1, none⟩ = some (.bool es) ∧ w1.cell? ⟨p4, i * 4 + 2, none⟩ = some (.int .i64 en) ∧ w1.cell? ⟨p4, i * 4 + 3, none⟩ = some (.int .i64 ea)) := fun h hb => ⟨keep1 hb h.1, keep1 hb h.2.1, keep1 hb h.2.2.1, keep1 hb h.2.2.2.1, keep1 hb h.2.2.2.2⟩
      have SE : ∀ {w0 : World}, (w0.cell? ⟨p8, 1, none⟩ = some (.int .i64 xs) ∧ w0.cell? ⟨p4, i * 4, none⟩ = some (.bool ef) ∧ w0.cell? ⟨p4, i * 4 + 1, none⟩ = some (.bool es) ∧ w0.cell? ⟨p4, i * 4 + 2, none⟩ = some (.int .i64 en) ∧ w0.cell? ⟨p4, i * 4 + 3, none⟩ = some (.int .i64 ea)) → ∀ (k : Nat) (v : Value), ((w0.setCell ⟨p5, k, none⟩ v).cell? ⟨p8, 1, none⟩ = some (.int .i64 xs) ∧ (w0.setCell ⟨p5, k, none⟩ v).cell? ⟨p4, i * 4, none⟩ = some (.bool ef) ∧ (w0.setCell ⟨p5, k, none⟩ v).cell? ⟨p4, i * 4 + 1, none⟩ = some (.bool es) ∧ (w0.setCell ⟨p5, k, none⟩ v).cell? ⟨p4, i * 4 + 2, none⟩ = some (.int .i64 en) ∧ (w0.setCell ⟨p5, k, none⟩ v).cell? ⟨p4, i * 4 + 3, none⟩ = some (.int .i64 ea)) := fun h k v => by
        rw [World.cell?_setCell_far _ _ _ _ n8, World.cell?_setCell_far _ _ _ _ T3.n4, World.cell?_setCell_far _ _ _ _ T3.n4, World.cell?_setCell_far _ _ _ _ T3.n4, World.cell?_setCell_far _ _ _ _ T3.n4]
        exact h
      go_upto_region 4 with fail
      refine wp_region_held_drew (S := fun w' => w'.cell? ⟨p8, 1, none⟩ = some (.int .i64 xs) ∧ w'.cell? ⟨p4, i * 4, none⟩ = some (.bool ef) ∧ w'.cell? ⟨p4, i * 4 + 1, none⟩ = some (.bool es) ∧ w'.cell? ⟨p4, i * 4 + 2, none⟩ = some (.int .i64 en) ∧ w'.cell? ⟨p4, i * 4 + 3, none⟩ = some (.int .i64 ea)) (by kernel_rfl) ⟨m1, x0, x1, x2, x3⟩ (fun hHeld => ?_)
      refine hx_take 0 (some 17) _ rfl (by kernel_rfl) (by kernel_rfl) (by kernel_rfl) (fun _ _ _ h => h) rfl (Or.inl ⟨by rfl, fun w hSw => by first | (go_simp; done) | (go_simp; with_reducible rfl)⟩) (by assumption) ?_
      try simp only [Act.put, List.setIfInBounds_toArray, List.set_cons_zero, List.set_cons_succ]
      refine hx_take 1 (some 18) _ rfl (by kernel_rfl) (by kernel_rfl) (by kernel_rfl) (fun _ _ _ h => h) rfl (Or.inl ⟨by rfl, fun w hSw => by first | (go_simp; done) | (go_simp; with_reducible rfl)⟩) (by assumption) ?_
      try simp only [Act.put, List.setIfInBounds_toArray, List.set_cons_zero, List.set_cons_succ]
      refine hx_take 2 (some 19) _ rfl (by kernel_rfl) (by kernel_rfl) (by kernel_rfl) (fun _ _ _ h => h) rfl (Or.inl ⟨by rfl, fun w hSw => by first | (go_simp; done) | (go_simp; with_reducible rfl)⟩) (by assumption) ?_
      try simp only [Act.put, List.setIfInBounds_toArray, List.set_cons_zero, List.set_cons_succ]
      refine hx_take 3 (some 20) _ rfl (by kernel_rfl) (by kernel_rfl) (by kernel_rfl) (fun _ _ _ h => h) rfl (Or.inl ⟨by rfl, fun w hSw => by first | (go_simp; done) | (go_simp; with_reducible rfl)⟩) (by assumption) ?_
      try simp only [Act.put, List.setIfInBounds_toArray, List.set_cons_zero, List.set_cons_succ]
      refine hx_take 4 (some 21) _ rfl (by kernel_rfl) (by kernel_rfl) (by kernel_rfl) (fun _ _ _ h => h) rfl (Or.inl ⟨by rfl, fun w hSw => by first | (go_simp; done) | (go_simp; with_reducible rfl)⟩) (by assumption) ?_
      try simp only [Act.put, List.setIfInBounds_toArray, List.set_cons_zero, List.set_cons_succ]
      refine hx_take 5 (some 22) _ rfl (by kernel_rfl) (by kernel_rfl) (by kernel_rfl) (fun _ _ _ h => h) rfl (Or.inl ⟨by rfl, fun w hSw => by first | (go_simp; done) | (go_simp; with_reducible rfl)⟩) (by assumption) ?_
      try simp only [Act.put, List.setIfInBounds_toArray, List.set_cons_zero, List.set_cons_succ]
      refine hx_take 6 (some 23) _ rfl (by kernel_rfl) (by kernel_rfl) (by kernel_rfl) (fun _ _ _ h => h) rfl (Or.inl ⟨by rfl, fun w hSw => by first | (go_simp; done) | (go_simp; with_reducible rfl)⟩) (by assumption) ?_
      try simp only [Act.put, List.setIfInBounds_toArray, List.set_cons_zero, List.set_cons_succ]
      refine hx_take 7 (some 24) _ rfl (by kernel_rfl) (by kernel_rfl) (by kernel_rfl) (fun _ _ _ h => h) rfl (Or.inl ⟨by rfl, fun w hSw => by first | (go_simp; done) | (go_simp; with_reducible rfl)⟩) (by assumption) ?_
      try simp only [Act.put, List.setIfInBounds_toArray, List.set_cons_zero, List.set_cons_succ]
      refine hx_take 8 (some 25) _ rfl (by kernel_rfl) (by kernel_rfl) (by kernel_rfl) (fun _ _ _ h => h) rfl (Or.inl ⟨by rfl, fun w hSw => by first | (go_simp; done) | (go_simp; with_reducible rfl)⟩) (by assumption) ?_
      try simp only [Act.put, List.setIfInBounds_toArray, List.set_cons_zero, List.set_cons_succ]
      refine hx_take 9 (some 26) _ rfl (by kernel_rfl) (by kernel_rfl) (by kernel_rfl) (fun _ _ _ h => h) rfl (Or.inl ⟨by rfl, fun w hSw => by first | (go_simp; done) | (go_simp; with_reducible rfl)⟩) (by assumption) ?_
      try simp only [Act.put, List.setIfInBounds_toArray, List.set_cons_zero, List.set_cons_succ]
      refine hx_take 11 (some 28) _ rfl (by kernel_rfl) (by kernel_rfl) (by kernel_rfl) (fun _ _ _ h => h) rfl (Or.inl ⟨by rfl, fun w hSw => by first | (go_simp; done) | (go_simp; with_reducible rfl)⟩) (by assumption) ?_
      try simp only [Act.put, List.setIfInBounds_toArray, List.set_cons_zero, List.set_cons_succ]
      refine hx_take 12 (some 29) _ rfl (by kernel_rfl) (by kernel_rfl) (by kernel_rfl) (fun _ _ _ h => h) rfl (Or.inl ⟨by rfl, fun w hSw => by first | (go_simp; done) | (go_simp; with_reducible rfl)⟩) (by assumption) ?_
      try simp only [Act.put, List.setIfInBounds_toArray, List.set_cons_zero, List.set_cons_succ]
      refine hx_take 13 (some 30) _ rfl (by kernel_rfl) (by kernel_rfl) (by kernel_rfl) (fun _ _ _ h => h) rfl (Or.inl ⟨by rfl, fun w hSw => by first | (go_simp; done) | (go_simp; with_reducible rfl)⟩) (by assumption) ?_
      try simp only [Act.put, List.setIfInBounds_toArray, List.set_cons_zero, List.set_cons_succ]
      refine hx_take 19 (some 35) _ rfl (by kernel_rfl) (by kernel_rfl) (by kernel_rfl) (fun _ _ _ h => h) rfl (Or.inl ⟨by rfl, fun w hSw => by first | (go_simp; done) | (go_simp; with_reducible rfl)⟩) (by assumption) ?_
      try simp only [Act.put, List.setIfInBounds_toArray, List.set_cons_zero, List.set_cons_succ]
      refine hx_take 22 (some 37) _ rfl (by kernel_rfl) (by kernel_rfl) (by kernel_rfl) (fun _ _ _ h => h) rfl (Or.inl ⟨by rfl, fun w hSw => by first | (go_simp; done) | (go_simp; with_reducible rfl)⟩) (by assumption) ?_
      try simp only [Act.put, List.setIfInBounds_toArray, List.set_cons_zero, List.set_cons_succ]
      refine hx2 10 14 (by kernel_rfl) ?_ ?_
      · refine hx_val 10 (some 27) _ wc.drew rfl (by rfl) rfl (by first | (go_simp; done) | (go_simp; with_reducible rfl)) hHeld ?_
        try simp only [Act.put, List.setIfInBounds_toArray, List.set_cons_zero, List.set_cons_succ]
        refine hx1 14 (by kernel_rfl) ?_
        refine hx_val 14 (some 31) _ wc.drew rfl (by rfl) rfl (by first | (go_simp; done) | (go_simp; with_reducible rfl)) hHeld ?_
        try simp only [Act.put, List.setIfInBounds_toArray, List.set_cons_zero, List.set_cons_succ]
        refine hx1 15 (by kernel_rfl) ?_
        refine hx_call 15 (some 32) _ _ _ _ rfl (by rfl) rfl (by go_simp) (hst.out wc.drew) ?_
        rintro w9 hb9
        have S9 := SK hHeld hb9
        refine ⟨S9, ?_⟩
        try simp only [Act.put, List.setIfInBounds_toArray, List.set_cons_zero, List.set_cons_succ]
        refine hx_take 16 (some 16) _ rfl (by kernel_rfl) (by kernel_rfl) (by kernel_rfl) (fun _ _ _ h => h) rfl (Or.inl ⟨by rfl, fun w hSw => by first | (go_simp; done) | (go_simp; with_reducible rfl)⟩) (by assumption) ?_
        try simp only [Act.put, List.setIfInBounds_toArray, List.set_cons_zero, List.set_cons_succ]
        refine hx_take 17 (some 33) _ rfl (by kernel_rfl) (by kernel_rfl) (by kernel_rfl) (fun _ _ _ h => h) rfl (Or.inl ⟨by rfl, fun w hSw => by first | (go_simp; done) | (go_simp; with_reducible rfl)⟩) (by assumption) ?_
        try simp only [Act.put, List.setIfInBounds_toArray, List.set_cons_zero, List.set_cons_succ]
        refine hx_take 18 (some 34) _ rfl (by kernel_rfl) (by kernel_rfl) (by kernel_rfl) (fun _ _ _ h => h) rfl (Or.inl ⟨by rfl, fun w hSw => by first | (go_simp; done) | (go_simp; with_reducible rfl)⟩) (by assumption) ?_
        try simp only [Act.put, List.setIfInBounds_toArray, List.set_cons_zero, List.set_cons_succ]
        refine hx_take 20 (some 36) _ rfl (by kernel_rfl) (by kernel_rfl) (by kernel_rfl) (fun _ _ _ h => h) rfl (Or.inl ⟨by rfl, fun w hSw => by first | (go_simp; done) | (go_simp; with_reducible rfl)⟩) (by assumption) ?_
        try simp only [Act.put, List.setIfInBounds_toArray, List.set_cons_zero, List.set_cons_succ]
        have hb10 := (bDrew (Below.refl wc.heap.size wc)).trans hb9
        have T5 := T3.below hb10
        have hbd := below_trans' hbc hbc.size hb10
        obtain ⟨y0, y1⟩ := T5.b5.cn i9
        have f0 := T5.b5.frozen i
        have f1 := T5.b5.frozen (9 + i)
        refine hx1 21 (by kernel_rfl) ?_
        refine hx_step 21 rfl (by rfl) (fun K hK => ?_)
        go_simp
        refine hK.out _ _ (SE S9 _ _) ?_
        clear hK K
        try simp only [Act.put, List.setIfInBounds_toArray, List.set_cons_zero, List.set_cons_succ]
        have S10 := SE S9 i (.int .i64 r1)
        refine hx_take 23 (some 38) _ rfl (by kernel_rfl) (by kernel_rfl) (by kernel_rfl) (fun _ _ _ h => h) rfl (Or.inl ⟨by rfl, fun w hSw => by first | (go_simp; done) | (go_simp; with_reducible rfl)⟩) (by assumption) ?_
        try simp only [Act.put, List.setIfInBounds_toArray, List.set_cons_zero, List.set_cons_succ]
        refine hx1 24 (by kernel_rfl) ?_
        refine hx_step 24 rfl (by rfl) (fun K hK => ?_)
        go_simp
        refine hK.out _ _ (SE S10 _ _) ?_
        clear hK K
        try simp only [Act.put, List.setIfInBounds_toArray, List.set_cons_zero, List.set_cons_succ]
        refine wpAnyH_done (by kernel_rfl) ?_ _
        go_wp2_with fail
        go_roundw
        case measure => rw [intOf, intOf]; omega
        case rel => exact ⟨i + 1, by simp, by omega, by rw [HT.out]; exact T5.setns i9 _ _, below_set2 hbd T5.m5 _ _ _ _⟩
      · refine hx_val 14 (some 31) _ wc.drew rfl (by rfl) rfl (by first | (go_simp; done) | (go_simp; with_reducible rfl)) hHeld ?_
        try simp only [Act.put, List.setIfInBounds_toArray, List.set_cons_zero, List.set_cons_succ]
        refine hx1 10 (by kernel_rfl) ?_
        refine hx_val 10 (some 27) _ wc.drew rfl (by rfl) rfl (by first | (go_simp; done) | (go_simp; with_reducible rfl)) hHeld ?_
        try simp only [Act.put, List.setIfInBounds_toArray, List.set_cons_zero, List.set_cons_succ]
        refine hx1 15 (by kernel_rfl) ?_
        refine hx_call 15 (some 32) _ _ _ _ rfl (by rfl) rfl (by go_simp) (hst.out wc.drew) ?_
        rintro w9 hb9
        have S9 := SK hHeld hb9
        refine ⟨S9, ?_⟩
        try simp only [Act.put, List.setIfInBounds_toArray, List.set_cons_zero, List.set_cons_succ]
        refine hx_take 16 (some 16) _ rfl (by kernel_rfl) (by kernel_rfl) (by kernel_rfl) (fun _ _ _ h => h) rfl (Or.inl ⟨by rfl, fun w hSw => by first | (go_simp; done) | (go_simp; with_reducible rfl)⟩) (by assumption) ?_
        try simp only [Act.put, List.setIfInBounds_toArray, List.set_cons_zero, List.set_cons_succ]
        refine hx_take 17 (some 33) _ rfl (by kernel_rfl) (by kernel_rfl) (by kernel_rfl) (fun _ _ _ h => h) rfl (Or.inl ⟨by rfl, fun w hSw => by first | (go_simp; done) | (go_simp; with_reducible rfl)⟩) (by assumption) ?_
        try simp only [Act.put, List.setIfInBounds_toArray, List.set_cons_zero, List.set_cons_succ]
        refine hx_take 18 (some 34) _ rfl (by kernel_rfl) (by kernel_rfl) (by kernel_rfl) (fun _ _ _ h => h) rfl (Or.inl ⟨by rfl, fun w hSw => by first | (go_simp; done) | (go_simp; with_reducible rfl)⟩) (by assumption) ?_
        try simp only [Act.put, List.setIfInBounds_toArray, List.set_cons_zero, List.set_cons_succ]
        refine hx_take 20 (some 36) _ rfl (by kernel_rfl) (by kernel_rfl) (by kernel_rfl) (fun _ _ _ h => h) rfl (Or.inl ⟨by rfl, fun w hSw => by first | (go_simp; done) | (go_simp; with_reducible rfl)⟩) (by assumption) ?_
        try simp only [Act.put, List.setIfInBounds_toArray, List.set_cons_zero, List.set_cons_succ]
        have hb10 := (bDrew (Below.refl wc.heap.size wc)).trans hb9
        have T5 := T3.below hb10
        have hbd := below_trans' hbc hbc.size hb10
        obtain ⟨y0, y1⟩ := T5.b5.cn i9
        have f0 := T5.b5.frozen i
        have f1 := T5.b5.frozen (9 + i)
        refine hx1 21 (by kernel_rfl) ?_
        refine hx_step 21 rfl (by rfl) (fun K hK => ?_)
        go_simp
        refine hK.out _ _ (SE S9 _ _) ?_
        clear hK K
        try simp only [Act.put, List.setIfInBounds_toArray, List.set_cons_zero, List.set_cons_succ]
        have S10 := SE S9 i (.int .i64 r1)
        refine hx_take 23 (some 38) _ rfl (by kernel_rfl) (by kernel_rfl) (by kernel_rfl) (fun _ _ _ h => h) rfl (Or.inl ⟨by rfl, fun w hSw => by first | (go_simp; done) | (go_simp; with_reducible rfl)⟩) (by assumption) ?_
        try simp only [Act.put, List.setIfInBounds_toArray, List.set_cons_zero, List.set_cons_succ]
        refine hx1 24 (by kernel_rfl) ?_
        refine hx_step 24 rfl (by rfl) (fun K hK => ?_)
        go_simp
        refine hK.out _ _ (SE S10 _ _) ?_
        clear hK K
        try simp only [Act.put, List.setIfInBounds_toArray, List.set_cons_zero, List.set_cons_succ]
        refine wpAnyH_done (by kernel_rfl) ?_ _
        go_wp2_with fail
        go_roundw
        case measure => rw [intOf, intOf]; omega
        case rel => exact ⟨i + 1, by simp, by omega, by rw [HT.out]; exact T5.setns i9 _ _, below_set2 hbd T5.m5 _ _ _ _⟩
    · have : i = n := by omega
      subst this
      go_upto_region 6 with fail
      have B5 := T2.b5
      have B6 := T2.b6
      unfold Blk at B5 B6
      go_wp2_with (first | (refine wpList_load_row rfl 87 _ rfl p5 rfl 87 _ (0, 0) _ B5 Tryz.underlying87 rfl (by kernel_rfl) ?_) | (refine wpList_store_row rfl 87 _ _ rfl p6 _ rfl rfl 87 _ B6 (by kernel_rfl) rfl (cnA_one _) ?_))
      refine bodyPost_ret (results_cell_row rfl _ _ p6 87 _ (0, 0) _ rfl (setRow_heap wr p6 _ _ _ _ B6) Tryz.underlying87 rfl (by kernel_rfl)) rfl ?_
      exact ⟨rfl, below_setRow hbw T2.m6 _⟩
end Go.Proofs.YtbpodnhebjjkaaaGreatDoor
