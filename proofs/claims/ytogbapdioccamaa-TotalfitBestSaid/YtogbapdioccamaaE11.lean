/- line of the program. -/
import Derived.Test.YtogbapdioccamaaE10
import Derived.Deep.CutBlock
namespace Go.Proofs.Ytogbapdioccamaa
open Go.RowKit

theorem sumL_at {f : It → Int} {xs : List It} {n k : Nat} (h : k ≤ n) : gI (sumL f xs n) k = sumTo f xs k := gI_range _ (by omega)
theorem staL_at {xs : List It} {n k : Nat} (h : k ≤ n) : gI (staL xs n) k = (start xs k : Int) := gI_range (fun i => (start xs i : Int)) (by omega)
theorem startF_ge (l : List It) : ∀ (f i : Nat), i ≤ startF l f i ∧ startF l f i ≤ i + f
  | 0, i => ⟨Nat.le_refl _, Nat.le_refl _⟩
  | f + 1, i => by
    unfold startF
    split
    · omega
    · have := startF_ge l f (i + 1); omega
theorem meas_bd {ms : List Int} {m k : Nat} (hl : ms.length = m) (hm : 0 < m) (h : ∀ k, k < m → 1 ≤ gI ms k ∧ gI ms k ≤ 31680) : 1 ≤ measOf ms k ∧ measOf ms k ≤ 31680 := h _ (by rw [hl]; omega)
theorem start_ge (l : List It) (i : Nat) : i ≤ start l i := (startF_ge l _ i).1
theorem fromOf_le (l : List It) (a : Int) (b : Nat) : fromOf l a b ≤ b := by unfold fromOf; split <;> omega

/-- the result's block as it is filled. -/
structure LR (w wx : World) (cs : Array Value) : Prop where
  b0 : Blk wx w.heap.size 56 cs
  bw : Below w.heap.size w wx
theorem LR.set {w wx : World} {cs : Array Value} (h : LR w wx cs) (i : Nat) (u : Value) : LR w (wx.setCell ⟨w.heap.size, i, none⟩ u) (cs.setIfInBounds i u) :=
  ⟨h.b0.set_ i u, h.bw.grown (only_set (World.grownBy.refl _ _) i u) h.bw.size (fun k hk => by injection hk with hk; omega)⟩
def bad1 (d z : Int) : Int := if d < 0 ∧ z < -d then 10000 else 0
theorem lineF_eq (xs : List It) (ms : List Int) (a : Int) (b k : Nat) : lnV (lineF xs ms a b k) =
    .agg #[.int .i64 (fromOf xs a b : Nat), .int .i64 b, .int .i64 b, .int .i64 (measOf ms k), .int .i64 (widthOf xs (fromOf xs a b) b),
      .int .i64 (ratioOf (measOf ms k - widthOf xs (fromOf xs a b) b) (sumTo (·.stretch) xs b - sumTo (·.stretch) xs (fromOf xs a b)) (sumTo (·.shrink) xs b - sumTo (·.shrink) xs (fromOf xs a b))),
      .int .i64 (clsOf (ratioOf (measOf ms k - widthOf xs (fromOf xs a b) b) (sumTo (·.stretch) xs b - sumTo (·.stretch) xs (fromOf xs a b)) (sumTo (·.shrink) xs b - sumTo (·.shrink) xs (fromOf xs a b)))),
      .int .i64 (badOf (measOf ms k - widthOf xs (fromOf xs a b) b) (sumTo (·.shrink) xs b - sumTo (·.shrink) xs (fromOf xs a b)) (ratioOf (measOf ms k - widthOf xs (fromOf xs a b) b) (sumTo (·.stretch) xs b - sumTo (·.stretch) xs (fromOf xs a b)) (sumTo (·.shrink) xs b - sumTo (·.shrink) xs (fromOf xs a b)))),
      .int .i64 (overOf (measOf ms k - widthOf xs (fromOf xs a b) b) (sumTo (·.shrink) xs b - sumTo (·.shrink) xs (fromOf xs a b))), .int .i64 0] := rfl
theorem ratio_bd {d y z : Int} (hy : 0 ≤ y) (hz : 0 ≤ z) : -1000 ≤ ratioOf d y z ∧ ratioOf d y z ≤ 10000 := by
  unfold ratioOf
  split
  · omega
  split
  · omega
  split
  · have : 0 ≤ d * 1000 / y := Int.ediv_nonneg (by omega) hy
    omega
  split
  · have h1 : 0 ≤ -d * 1000 / z := Int.ediv_nonneg (by omega) hz
    have h2 : -d * 1000 / z ≤ 1000 := Int.ediv_le_of_le_mul (by omega) (by omega)
    omega
  · omega

set_option maxRecDepth 100000 in
set_option maxHeartbeats 4000000 in
theorem line_any (g : Nat) (q : PA) (n m b num : Nat) (a : Int) (xs : List It) (ms : List Int) (w : World) (P : Par w g q n m xs ms) (hb : b < n) (ha : -1 ≤ a ∧ a < b) (hn : n ≤ 4096) (hm : 0 < m ∧ m ≤ 4096)
    (hR : ∀ k, k < n → Right 31680 (gT xs k)) (hM : ∀ k, k < m → 1 ≤ gI ms k ∧ gI ms k ≤ 31680) :
    Calls Try.prog 46 #[.pointer (some ⟨g, 0, none⟩), .int .i64 a, .int .i64 b, .int .i64 num] w fun e w' => e = .returned (lnV (lineF xs ms a b num)) ∧ Below w.heap.size w w' := by
  obtain ⟨T, hT⟩ : ∃ T, T = lnV (lineF xs ms a b num) := ⟨_, rfl⟩
  rw [← hT]
  rw [lineF_eq] at hT
  have HT := Lib.hid hT
  clear hT
  have cm := fun w h => measure_any g q n m num xs ms w h hm
  have hgl := P.blk.lt
  have hlen := P.its.len
  have SB := Lib.hid (show ∀ k, k ≤ n → 0 ≤ sumTo wOf xs k ∧ sumTo wOf xs k ≤ 200000000 from fun k hk => by
    have h := sumTo_bd (f := wOf) (l := xs) (M := 31680) (fun x hx => by
      obtain ⟨i, hi, rfl⟩ := List.mem_iff_getElem.1 hx
      have h := hR i (by omega)
      have e : gT xs i = xs[i] := by have := gT_some hi; rw [List.getElem?_eq_getElem hi] at this; injection this with this; exact this.symm
      rw [e] at h
      unfold wOf
      have := h.w0; have := h.w1
      split <;> omega) (i := k) (by omega)
    omega)
  have SG : ∀ (φ : It → Int) (hφ : ∀ k, k < n → 0 ≤ φ (gT xs k) ∧ φ (gT xs k) ≤ 1048576) (i k : Nat), i ≤ k → k ≤ n → 0 ≤ sumTo φ xs k - sumTo φ xs i ∧ sumTo φ xs k - sumTo φ xs i ≤ 4294967296 ∧ 0 ≤ sumTo φ xs k ∧ sumTo φ xs k ≤ 4294967296 ∧ 0 ≤ sumTo φ xs i ∧ sumTo φ xs i ≤ 4294967296 := fun φ hφ i k hik hk => by
    have hx : ∀ x ∈ xs, 0 ≤ φ x ∧ φ x ≤ 1048576 := fun x hx => by
      obtain ⟨i, hi, rfl⟩ := List.mem_iff_getElem.1 hx
      have h := hφ i (by omega)
      have e : gT xs i = xs[i] := by have := gT_some hi; rw [List.getElem?_eq_getElem hi] at this; injection this with this; exact this.symm
      rw [e] at h
      exact h
    have h1 := sumTo_bd hx (i := k) (by omega)
    have h2 := sumTo_bd hx (i := i) (by omega)
    have h3 := sumTo_mono (fun x h => (hx x h).1) hik (by omega)
    omega
  have SY := Lib.hid (SG (·.stretch) (fun k hk => ⟨(hR k hk).y0, (hR k hk).y1⟩))
  have SZ := Lib.hid (SG (·.shrink) (fun k hk => ⟨(hR k hk).z0, by have := (hR k hk).z1; have := (hR k hk).w1; simp only at *; omega⟩))
  clear hlen SG
  go_enter Try.func46, Try.ntmps46
  go_upto_region 1 with fail
  go_cut [9] (fun v wx => v = .pointer (some ⟨w.heap.size + 1, 0, none⟩) ∧ LW w wx #[.int .i64 0, .int .i64 b, .int .i64 b, .int .i64 (measOf ms num), .int .i64 0, .int .i64 0, .int .i64 0, .int .i64 0, .int .i64 0, .int .i64 0])
  case first => as_aux_lemma =>
    go_wp2_with (first | (go_at_call 57; refine (cm _ (P.below ((Below.refl _ _).alloc (Nat.le_refl _) _))).mono ?_; rintro e w3 ⟨rfl, d, rfl⟩))
    go_meet
    case rel => exact ⟨by simp, LW.new w d _⟩
  case rest =>
    obtain ⟨rfl, L⟩ := hcut
    clear cm
    generalize hMM : measOf ms num = M at *
    have P1 := P.below L.bw
    go_upto_if 21 with fail
    go_cut [] (fun wx => LW w wx #[.int .i64 (fromOf xs a b : Nat), .int .i64 b, .int .i64 b, .int .i64 M, .int .i64 0, .int .i64 0, .int .i64 0, .int .i64 0, .int .i64 0, .int .i64 0])
    case first => as_aux_lemma =>
      by_cases h0 : 0 ≤ a
      · obtain ⟨k, hk⟩ : ∃ k : Nat, a + 1 = (k : Int) := ⟨(a + 1).toNat, by omega⟩
        obtain ⟨ad, e, hl, r⟩ := P1.sta.int (k := k) (by omega)
        rw [staL_at (by omega)] at r
        have p5 := P1.blk.cell 5 rfl
        rw [e] at p5
        have hf : fromOf xs a b = min (start xs k) b := by unfold fromOf; rw [if_pos h0]; congr 2; omega
        have HF := Lib.hid hf
        clear hf
        have c0 := L.b1.cell 0 rfl
        have fz := L.b1.frozen 0
        have h0' : decide (0 ≤ a) = true := decide_eq_true h0
        have L2 := L.set 0 (.int .i64 (min (start xs k) b : Nat))
        by_cases hs : start xs k ≤ b
        · rw [Nat.min_eq_left hs] at L2
          have HG := Lib.hid (Nat.min_eq_left hs)
          go_wp2_with fail
          all_goals go_meet
          all_goals (rw [HF.out, HG.out]; exact L2)
        · rw [Nat.min_eq_right (by omega)] at L2
          have HG := Lib.hid (show min (start xs k) b = b from Nat.min_eq_right (by omega))
          go_wp2_with fail
          all_goals go_meet
          all_goals (rw [HF.out, HG.out]; exact L2)
      · have hf : fromOf xs a b = 0 := by unfold fromOf; rw [if_neg h0]
        have HF := Lib.hid hf
        clear hf
        have h0' : decide (0 ≤ a) = false := decide_eq_false h0
        go_wp2_with fail
        all_goals go_meet
        all_goals (rw [HF.out]; exact L)
    case rest =>
      have hfb := fromOf_le xs a b
      generalize fromOf xs a b = f at *
      clear L P1
      have L := hcut
      clear hcut
      have bw : ∀ k, k ≤ n → 0 ≤ sumTo wOf xs k ∧ sumTo wOf xs k ≤ 200000000 := SB.out
      obtain ⟨b1, b2⟩ := bw b (by omega)
      obtain ⟨b3, b4⟩ := bw f (by omega)
      go_upto_region 4 with fail
      go_cut [] (fun wx => LW w wx #[.int .i64 f, .int .i64 b, .int .i64 b, .int .i64 M, .int .i64 (sumTo wOf xs b - sumTo wOf xs f), .int .i64 0, .int .i64 0, .int .i64 0, .int .i64 0, .int .i64 0])
      case first => as_aux_lemma =>
        have P1 := P.below L.bw
        obtain ⟨ad, e, hl, r1⟩ := P1.wid.int (k := b) (by omega)
        obtain ⟨ad', e', hl', r2⟩ := P1.wid.int (k := f) (by omega)
        rw [e] at e'
        injection e' with e'
        subst e'
        rw [sumL_at (by omega)] at r1 r2
        have p2 := P1.blk.cell 2 rfl
        rw [e] at p2
        have c0 : wc.cell? ⟨w.heap.size + 1, 0, none⟩ = some (.int .i64 f) := L.b1.cell 0 rfl
        have c4 : wc.cell? ⟨w.heap.size + 1, 4, none⟩ = some (.int .i64 0) := L.b1.cell 4 rfl
        have fz := L.b1.frozen 4
        have L2 := L.set 4 (.int .i64 (sumTo wOf xs b - sumTo wOf xs f))
        go_region
        clear r1 r2 p2 c0 c4 fz
        go_wp2_with fail
        go_meet
        case rel => exact L2.drewN 1
      case rest =>
        clear L
        have L := hcut
        clear hcut
        have P1 := P.below L.bw
        obtain ⟨ad, e, hl, q0, q1, -, -, -, -⟩ := P1.its.it hb
        have p0 := P1.blk.cell 0 rfl
        rw [e] at p0
        have HR := hR b hb
        go_upto_if 58 with fail
        go_cut [] (fun wx => LW w wx #[.int .i64 f, .int .i64 b, .int .i64 b, .int .i64 M, .int .i64 (widthOf xs f b), .int .i64 0, .int .i64 0, .int .i64 0, .int .i64 0, .int .i64 0])
        case first => as_aux_lemma =>
          by_cases h3 : (gT xs b).kind = 3
          · have HW := Lib.hid (show widthOf xs f b = sumTo wOf xs b - sumTo wOf xs f + (gT xs b).width by unfold widthOf; rw [if_pos h3])
            rw [h3] at q0
            have := HR.w0
            have := HR.w1
            have c4 : wc.cell? ⟨w.heap.size + 1, 4, none⟩ = some (.int .i64 (sumTo wOf xs b - sumTo wOf xs f)) := L.b1.cell 4 rfl
            have fz := L.b1.frozen 4
            have L2 := L.set 4 (.int .i64 (sumTo wOf xs b - sumTo wOf xs f + (gT xs b).width))
            go_wp2_with fail
            go_region
            go_wp2_with fail
            go_meet
            case rel => rw [HW.out]; exact L2.drewN 1
          · have HW := Lib.hid (show widthOf xs f b = sumTo wOf xs b - sumTo wOf xs f by unfold widthOf; rw [if_neg h3]; omega)
            have h3' : ((gT xs b).kind == 3) = false := by simpa using h3
            go_wp2_with fail
            go_meet
            case rel => rw [HW.out]; exact L
        case rest =>
          clear L q0 q1 p0
          have L := hcut
          clear hcut
          have hWb : -200000000 ≤ widthOf xs f b ∧ widthOf xs f b ≤ 200040000 := by
            have := HR.w0
            have := HR.w1
            unfold widthOf
            split <;> omega
          generalize widthOf xs f b = Wd at *
          obtain ⟨y1, y2, y3, y4, y5, y6⟩ := SY.out f b hfb (by omega)
          obtain ⟨z1, z2, z3, z4, z5, z6⟩ := SZ.out f b hfb (by omega)
          have hMb : 1 ≤ M ∧ M ≤ 31680 := by rw [← hMM]; exact meas_bd P.mss.len hm.1 hM
          clear SY SZ HR b1 b2 b3 b4
          have P1 := P.below L.bw
          go_upto_region 7 with fail
          go_cut [10, 11] (fun y z wx => y = .int .i64 (sumTo (·.stretch) xs b - sumTo (·.stretch) xs f) ∧ z = .int .i64 (sumTo (·.shrink) xs b - sumTo (·.shrink) xs f) ∧ LW w wx #[.int .i64 f, .int .i64 b, .int .i64 b, .int .i64 M, .int .i64 Wd, .int .i64 0, .int .i64 0, .int .i64 0, .int .i64 0, .int .i64 0])
          case first => as_aux_lemma =>
            obtain ⟨ad1, e1, hl1, r1⟩ := P1.str.int (k := b) (by omega)
            obtain ⟨ad2, e2, hl2, r2⟩ := P1.str.int (k := f) (by omega)
            rw [e1] at e2
            injection e2 with e2
            subst e2
            rw [sumL_at (by omega)] at r1 r2
            have p3 := P1.blk.cell 3 rfl
            rw [e1] at p3
            obtain ⟨ad3, e3, hl3, r3⟩ := P1.shr.int (k := b) (by omega)
            obtain ⟨ad4, e4, hl4, r4⟩ := P1.shr.int (k := f) (by omega)
            rw [e3] at e4
            injection e4 with e4
            subst e4
            rw [sumL_at (by omega)] at r3 r4
            have p4 := P1.blk.cell 4 rfl
            rw [e3] at p4
            have c0 : wc.cell? ⟨w.heap.size + 1, 0, none⟩ = some (.int .i64 f) := L.b1.cell 0 rfl
            go_wp2_with fail
            go_quiet (fail)
            go_wp2_with fail
            go_meet
            case rel => exact ⟨rfl, rfl, L.drewN _⟩
          case rest =>
            obtain ⟨rfl, rfl, L2⟩ := hcut
            clear L P1
            have L := L2
            clear L2
            generalize sumTo (·.stretch) xs b - sumTo (·.stretch) xs f = Y at *
            generalize sumTo (·.shrink) xs b - sumTo (·.shrink) xs f = Z at *
            have hdb : -300000000 ≤ M - Wd ∧ M - Wd ≤ 300000000 := by omega
            generalize hd : M - Wd = d at *
            have hrb := ratio_bd (d := d) y1 z1
            have c3 : wc.cell? ⟨w.heap.size + 1, 3, none⟩ = some (.int .i64 M) := L.b1.cell 3 rfl
            have c4 : wc.cell? ⟨w.heap.size + 1, 4, none⟩ = some (.int .i64 Wd) := L.b1.cell 4 rfl
            go_upto_block 0 with fail
            go_cut [] (fun wx => LW w wx #[.int .i64 f, .int .i64 b, .int .i64 b, .int .i64 M, .int .i64 Wd, .int .i64 (ratioOf d Y Z), .int .i64 0, .int .i64 (bad1 d Z), .int .i64 (overOf d Z), .int .i64 0])
            case first => as_aux_lemma =>
              have fz := L.b1.frozen 5
              have fz7 := L.b1.frozen 7
              have fz8 := L.b1.frozen 8
              have c5 : wc.cell? ⟨w.heap.size + 1, 5, none⟩ = some (.int .i64 0) := L.b1.cell 5 rfl
              have c7 : wc.cell? ⟨w.heap.size + 1, 7, none⟩ = some (.int .i64 0) := L.b1.cell 7 rfl
              have c8 : wc.cell? ⟨w.heap.size + 1, 8, none⟩ = some (.int .i64 0) := L.b1.cell 8 rfl
              by_cases d0 : d = 0
              · subst d0
                have H1 := Lib.hid (show ratioOf 0 Y Z = 0 from rfl)
                have H2 := Lib.hid (show bad1 0 Z = 0 from if_neg (by omega))
                have H3 := Lib.hid (show overOf 0 Z = 0 from if_neg (by omega))
                go_wp2_with fail
                go_meet
                case rel => rw [H1.out, H2.out, H3.out]; exact L
              have d0' : (d == 0) = false := by simpa using d0
              by_cases d1 : 0 < d
              · have d1' : decide (0 < d) = true := decide_eq_true d1
                have H2 := Lib.hid (show bad1 d Z = 0 from if_neg (by omega))
                have H3 := Lib.hid (show overOf d Z = 0 from if_neg (by omega))
                by_cases hY : Y = 0
                · subst hY
                  have H1 := Lib.hid (show ratioOf d 0 Z = 10000 by unfold ratioOf; rw [if_neg d0, if_pos ⟨d1, rfl⟩])
                  have L5 := L.set 5 (.int .i64 10000)
                  clear d0 d1
                  go_wp2_with fail
                  go_meet
                  case rel => rw [H1.out, H2.out, H3.out]; exact L5
                · have hY' : (Y == 0) = false := by simpa using hY
                  have H1 := Lib.hid (show ratioOf d Y Z = min (d * 1000 / Y) 10000 by unfold ratioOf; rw [if_neg d0, if_neg (by omega), if_pos d1])
                  by_cases hq : d * 1000 / Y ≤ 10000
                  · have L5 := L.set 5 (.int .i64 (d * 1000 / Y))
                    have H4 := Lib.hid (show min (d * 1000 / Y) 10000 = d * 1000 / Y from Int.min_eq_left hq)
                    clear d0
                    go_wp2_with fail
                    go_meet
                    case rel => rw [H1.out, H2.out, H3.out, H4.out]; exact L5
                  · have L5 := L.set 5 (.int .i64 10000)
                    have H4 := Lib.hid (show min (d * 1000 / Y) 10000 = 10000 from Int.min_eq_right (by omega))
                    clear d0
                    go_wp2_with fail
                    go_meet
                    case rel => rw [H1.out, H2.out, H3.out, H4.out]; exact L5
              · have d1' : decide (0 < d) = false := decide_eq_false d1
                by_cases hz : -d ≤ Z
                · have hz' : decide (-d ≤ Z) = true := decide_eq_true hz
                  have H1 := Lib.hid (show ratioOf d Y Z = -(-d * 1000 / Z) by unfold ratioOf; rw [if_neg d0, if_neg (by omega), if_neg d1, if_pos hz])
                  have H2 := Lib.hid (show bad1 d Z = 0 from if_neg (by omega))
                  have H3 := Lib.hid (show overOf d Z = 0 from if_neg (by omega))
                  have L5 := L.set 5 (.int .i64 (-(-d * 1000 / Z)))
                  have q1 : 0 ≤ -d * 1000 / Z := Int.ediv_nonneg (by omega) (by omega)
                  have q2 : -d * 1000 / Z ≤ 1000 := Int.ediv_le_of_le_mul (by omega) (by omega)
                  go_wp2_with fail
                  go_meet
                  case rel => rw [H1.out, H2.out, H3.out]; exact L5
                · have hz' : decide (-d ≤ Z) = false := decide_eq_false hz
                  have H1 := Lib.hid (show ratioOf d Y Z = -1000 by unfold ratioOf; rw [if_neg d0, if_neg (by omega), if_neg d1, if_neg hz])
                  have H2 := Lib.hid (show bad1 d Z = 10000 from if_pos (by omega))
                  have H3 := Lib.hid (show overOf d Z = -d - Z from if_pos (by omega))
                  have L5 := ((L.set 5 (.int .i64 (-1000))).set 8 (.int .i64 (-d - Z))).set 7 (.int .i64 10000)
                  go_wp2_with fail
                  go_meet
                  case rel => rw [H1.out, H2.out, H3.out]; exact L5
            case rest =>
              clear L
              have L := hcut
              clear hcut
              have HB : overOf d Z = 0 → badOf d Z (ratioOf d Y Z) = min (max (ratioOf d Y Z) (-ratioOf d Y Z) * max (ratioOf d Y Z) (-ratioOf d Y Z) * max (ratioOf d Y Z) (-ratioOf d Y Z) / 10000000) 10000 := fun h => by
                unfold overOf at h
                unfold badOf
                split at h
                · omega
                · rw [if_neg (by assumption)]
              have HC : overOf d Z ≠ 0 → badOf d Z (ratioOf d Y Z) = bad1 d Z := fun h => by
                unfold overOf at h
                unfold badOf bad1
                split at h
                · rw [if_pos (by assumption), if_pos (by assumption)]
                · omega
              generalize ratioOf d Y Z = r at *
              generalize bad1 d Z = bb at *
              generalize badOf d Z r = bo at *
              generalize overOf d Z = o at *
              have c5 : wc.cell? ⟨w.heap.size + 1, 5, none⟩ = some (.int .i64 r) := L.b1.cell 5 rfl
              have c7 : wc.cell? ⟨w.heap.size + 1, 7, none⟩ = some (.int .i64 bb) := L.b1.cell 7 rfl
              have c8 : wc.cell? ⟨w.heap.size + 1, 8, none⟩ = some (.int .i64 o) := L.b1.cell 8 rfl
              have fz7 := L.b1.frozen 7
              go_upto_if 149 with fail
              go_cut [] (fun wx => LW w wx #[.int .i64 f, .int .i64 b, .int .i64 b, .int .i64 M, .int .i64 Wd, .int .i64 r, .int .i64 0, .int .i64 bo, .int .i64 o, .int .i64 0])
              case first => as_aux_lemma =>
                by_cases o0 : o = 0
                · have H1 := Lib.hid (HB o0)
                  clear HB HC
                  subst o0
                  by_cases r0 : 0 ≤ r
                  · have hmx := Lib.hid (show max r (-r) = r from Int.max_eq_left (by omega))
                    have m1 : 0 ≤ r * r := Int.mul_nonneg (by omega) (by omega)
                    have m2 : r * r ≤ 10000 * 10000 := Int.mul_le_mul (by omega) (by omega) (by omega) (by omega)
                    have m3 : 0 ≤ r * r * r := Int.mul_nonneg (by omega) (by omega)
                    have m4 : r * r * r ≤ 10000 * 10000 * 10000 := Int.mul_le_mul (by omega) (by omega) (by omega) (by omega)
                    by_cases hq : r * r * r / 10000000 ≤ 10000
                    · have L5 := L.set 7 (.int .i64 (r * r * r / 10000000))
                      have H4 := Lib.hid (show min (r * r * r / 10000000) 10000 = r * r * r / 10000000 from Int.min_eq_left hq)
                      go_wp2_with fail
                      all_goals go_meet
                      all_goals (rw [H1.out, hmx.out, H4.out]; exact L5)
                    · have L5 := L.set 7 (.int .i64 10000)
                      have H4 := Lib.hid (show min (r * r * r / 10000000) 10000 = 10000 from Int.min_eq_right (by omega))
                      go_wp2_with fail
                      all_goals go_meet
                      all_goals (rw [H1.out, hmx.out, H4.out]; exact L5)
                  · obtain ⟨s, hs⟩ : ∃ s, s = -r := ⟨_, rfl⟩
                    have hr : r = -s := by omega
                    subst hr
                    clear hs
                    have hmx := Lib.hid (show max (-s) (- -s) = s by rw [Int.neg_neg]; exact Int.max_eq_right (by omega))
                    have m1 : 0 ≤ s * s := Int.mul_nonneg (by omega) (by omega)
                    have m2 : s * s ≤ 1000 * 1000 := Int.mul_le_mul (by omega) (by omega) (by omega) (by omega)
                    have m3 : 0 ≤ s * s * s := Int.mul_nonneg (by omega) (by omega)
                    have m4 : s * s * s ≤ 1000 * 1000 * 1000 := Int.mul_le_mul (by omega) (by omega) (by omega) (by omega)
                    have L5 := L.set 7 (.int .i64 (s * s * s / 10000000))
                    have H4 := Lib.hid (show min (s * s * s / 10000000) 10000 = s * s * s / 10000000 from Int.min_eq_left (by omega))
                    go_wp2_with fail
                    all_goals go_meet
                    all_goals (rw [H1.out, hmx.out, H4.out]; exact L5)
                · have H1 := Lib.hid (HC o0)
                  clear HB HC
                  have o0' : (o == 0) = false := by simpa using o0
                  clear o0
                  go_wp2_with fail
                  go_meet
                  case rel => rw [H1.out]; exact L
              case rest =>
                clear L c5 c7 c8 fz7 HB HC
                have L := hcut
                clear hcut
                have c5 : wc.cell? ⟨w.heap.size + 1, 5, none⟩ = some (.int .i64 r) := L.b1.cell 5 rfl
                have c6 : wc.cell? ⟨w.heap.size + 1, 6, none⟩ = some (.int .i64 0) := L.b1.cell 6 rfl
                have fz6 := L.b1.frozen 6
                go_upto_block 1 with fail
                go_cut [] (fun wx => LW w wx #[.int .i64 f, .int .i64 b, .int .i64 b, .int .i64 M, .int .i64 Wd, .int .i64 r, .int .i64 (clsOf r), .int .i64 bo, .int .i64 o, .int .i64 0])
                case first => as_aux_lemma =>
                  by_cases k1 : r < -500
                  · have H1 := Lib.hid (show clsOf r = 0 from if_pos k1)
                    have k1' : decide (r < -500) = true := decide_eq_true k1
                    have L5 := L.set 6 (.int .i64 0)
                    go_wp2_with fail
                    go_meet
                    case rel => rw [H1.out]; exact L5
                  have k1' : decide (r < -500) = false := decide_eq_false k1
                  by_cases k2 : r ≤ 500
                  · have H1 := Lib.hid (show clsOf r = 1 by unfold clsOf; rw [if_neg k1, if_pos k2])
                    have k2' : decide (r ≤ 500) = true := decide_eq_true k2
                    have L5 := L.set 6 (.int .i64 1)
                    go_wp2_with fail
                    go_meet
                    case rel => rw [H1.out]; exact L5
                  have k2' : decide (r ≤ 500) = false := decide_eq_false k2
                  by_cases k3 : r ≤ 1000
                  · have H1 := Lib.hid (show clsOf r = 2 by unfold clsOf; rw [if_neg k1, if_neg k2, if_pos k3])
                    have k3' : decide (r ≤ 1000) = true := decide_eq_true k3
                    have L5 := L.set 6 (.int .i64 2)
                    go_wp2_with fail
                    go_meet
                    case rel => rw [H1.out]; exact L5
                  · have k3' : decide (r ≤ 1000) = false := decide_eq_false k3
                    have H1 := Lib.hid (show clsOf r = 3 by unfold clsOf; rw [if_neg k1, if_neg k2, if_neg k3])
                    have L5 := L.set 6 (.int .i64 3)
                    go_wp2_with fail
                    go_meet
                    case rel => rw [H1.out]; exact L5
                case rest =>
                  clear L c5 c6 fz6
                  have L := hcut
                  clear hcut
                  generalize clsOf r = cl at *
                  have c0 : wc.cell? ⟨w.heap.size + 1, 0, none⟩ = some (.int .i64 f) := L.b1.cell 0 rfl
                  have c1 : wc.cell? ⟨w.heap.size + 1, 1, none⟩ = some (.int .i64 b) := L.b1.cell 1 rfl
                  have c2 : wc.cell? ⟨w.heap.size + 1, 2, none⟩ = some (.int .i64 b) := L.b1.cell 2 rfl
                  have c3 : wc.cell? ⟨w.heap.size + 1, 3, none⟩ = some (.int .i64 M) := L.b1.cell 3 rfl
                  have c4 : wc.cell? ⟨w.heap.size + 1, 4, none⟩ = some (.int .i64 Wd) := L.b1.cell 4 rfl
                  have c5 : wc.cell? ⟨w.heap.size + 1, 5, none⟩ = some (.int .i64 r) := L.b1.cell 5 rfl
                  have c6 : wc.cell? ⟨w.heap.size + 1, 6, none⟩ = some (.int .i64 cl) := L.b1.cell 6 rfl
                  have c7 : wc.cell? ⟨w.heap.size + 1, 7, none⟩ = some (.int .i64 bo) := L.b1.cell 7 rfl
                  have c8 : wc.cell? ⟨w.heap.size + 1, 8, none⟩ = some (.int .i64 o) := L.b1.cell 8 rfl
                  have c9 : wc.cell? ⟨w.heap.size + 1, 9, none⟩ = some (.int .i64 0) := L.b1.cell 9 rfl
                  have z10 : wc.cell? ⟨w.heap.size, 0, none⟩ = some (.int .i64 0) := L.b0.cell 0 rfl
                  have fz0 := L.b0.frozen 0
                  have z11 : wc.cell? ⟨w.heap.size, 1, none⟩ = some (.int .i64 0) := L.b0.cell 1 rfl
                  have fz1 := L.b0.frozen 1
                  have z12 : wc.cell? ⟨w.heap.size, 2, none⟩ = some (.int .i64 0) := L.b0.cell 2 rfl
                  have fz2 := L.b0.frozen 2
                  have z13 : wc.cell? ⟨w.heap.size, 3, none⟩ = some (.int .i64 0) := L.b0.cell 3 rfl
                  have fz3 := L.b0.frozen 3
                  have z14 : wc.cell? ⟨w.heap.size, 4, none⟩ = some (.int .i64 0) := L.b0.cell 4 rfl
                  have fz4 := L.b0.frozen 4
                  have z15 : wc.cell? ⟨w.heap.size, 5, none⟩ = some (.int .i64 0) := L.b0.cell 5 rfl
                  have fz5 := L.b0.frozen 5
                  have z16 : wc.cell? ⟨w.heap.size, 6, none⟩ = some (.int .i64 0) := L.b0.cell 6 rfl
                  have fz6 := L.b0.frozen 6
                  have z17 : wc.cell? ⟨w.heap.size, 7, none⟩ = some (.int .i64 0) := L.b0.cell 7 rfl
                  have fz7 := L.b0.frozen 7
                  have z18 : wc.cell? ⟨w.heap.size, 8, none⟩ = some (.int .i64 0) := L.b0.cell 8 rfl
                  have fz8 := L.b0.frozen 8
                  have z19 : wc.cell? ⟨w.heap.size, 9, none⟩ = some (.int .i64 0) := L.b0.cell 9 rfl
                  have fz9 := L.b0.frozen 9
                  have R0 : LR w wc #[.int .i64 0, .int .i64 0, .int .i64 0, .int .i64 0, .int .i64 0, .int .i64 0, .int .i64 0, .int .i64 0, .int .i64 0, .int .i64 0] := ⟨L.b0, L.bw⟩
                  have R1 : LR w _ #[.int .i64 f, .int .i64 0, .int .i64 0, .int .i64 0, .int .i64 0, .int .i64 0, .int .i64 0, .int .i64 0, .int .i64 0, .int .i64 0] := R0.set 0 (.int .i64 f)
                  have R2 : LR w _ #[.int .i64 f, .int .i64 b, .int .i64 0, .int .i64 0, .int .i64 0, .int .i64 0, .int .i64 0, .int .i64 0, .int .i64 0, .int .i64 0] := R1.set 1 (.int .i64 b)
                  have R3 : LR w _ #[.int .i64 f, .int .i64 b, .int .i64 b, .int .i64 0, .int .i64 0, .int .i64 0, .int .i64 0, .int .i64 0, .int .i64 0, .int .i64 0] := R2.set 2 (.int .i64 b)
                  have R4 : LR w _ #[.int .i64 f, .int .i64 b, .int .i64 b, .int .i64 M, .int .i64 0, .int .i64 0, .int .i64 0, .int .i64 0, .int .i64 0, .int .i64 0] := R3.set 3 (.int .i64 M)
                  have R5 : LR w _ #[.int .i64 f, .int .i64 b, .int .i64 b, .int .i64 M, .int .i64 Wd, .int .i64 0, .int .i64 0, .int .i64 0, .int .i64 0, .int .i64 0] := R4.set 4 (.int .i64 Wd)
                  have R6 : LR w _ #[.int .i64 f, .int .i64 b, .int .i64 b, .int .i64 M, .int .i64 Wd, .int .i64 r, .int .i64 0, .int .i64 0, .int .i64 0, .int .i64 0] := R5.set 5 (.int .i64 r)
                  have R7 : LR w _ #[.int .i64 f, .int .i64 b, .int .i64 b, .int .i64 M, .int .i64 Wd, .int .i64 r, .int .i64 cl, .int .i64 0, .int .i64 0, .int .i64 0] := R6.set 6 (.int .i64 cl)
                  have R8 : LR w _ #[.int .i64 f, .int .i64 b, .int .i64 b, .int .i64 M, .int .i64 Wd, .int .i64 r, .int .i64 cl, .int .i64 bo, .int .i64 0, .int .i64 0] := R7.set 7 (.int .i64 bo)
                  have R9 : LR w _ #[.int .i64 f, .int .i64 b, .int .i64 b, .int .i64 M, .int .i64 Wd, .int .i64 r, .int .i64 cl, .int .i64 bo, .int .i64 o, .int .i64 0] := R8.set 8 (.int .i64 o)
                  have R10 : LR w _ #[.int .i64 f, .int .i64 b, .int .i64 b, .int .i64 M, .int .i64 Wd, .int .i64 r, .int .i64 cl, .int .i64 bo, .int .i64 o, .int .i64 0] := R9.set 9 (.int .i64 0)
                  clear R0 R1 R2 R3 R4 R5 R6 R7 R8 R9
                  clear L
                  go_wp2_with fail
                  refine bodyPost_ret (v := T) ?_ rfl ⟨rfl, R10.bw⟩
                  rw [HT.out]
                  exact results_cell_row rfl _ _ w.heap.size 56 _ (0, 0) _ rfl R10.b0 Try.underlying56 rfl (by kernel_rfl)
end Go.Proofs.Ytogbapdioccamaa
