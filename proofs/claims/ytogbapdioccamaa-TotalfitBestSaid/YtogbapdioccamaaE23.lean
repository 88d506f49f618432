/- Breaks. -/
import Derived.Test.YtogbapdioccamaaE22
namespace Go.Proofs.Ytogbapdioccamaa
open Go.RowKit

theorem gb_far {W0 wx wy : World} {row0 row : Option Nat} (h : W0.grownBy wx row0) (h2 : wx.grownBy wy row) (hr : ∀ k, row = some k → W0.heap.size ≤ k) : W0.grownBy wy row0 :=
  ⟨h2.os.trans h.os, h2.tape.trans h.tape, h2.output.trans h.output, Nat.le_trans h.size h2.size, fun k hk hne => (h2.block k (Nat.lt_of_lt_of_le hk h.size) (fun e => by have := hr k e.symm; omega)).trans (h.block k hk hne)⟩
theorem gb_below {w w' : World} (hb : Below w.heap.size w w') (row : Option Nat) : w.grownBy w' row := ⟨hb.os, hb.tape, hb.output, hb.size, fun k hk _ => hb.block k hk⟩
theorem gb_set {W0 wx : World} {p : Nat} (h : W0.grownBy wx (some p)) (i : Nat) (u : Value) : W0.grownBy (wx.setCell ⟨p, i, none⟩ u) (some p) := only_set h i u
def lenOf (v : Value) : Nat := match v with | .slice _ n _ => n | _ => 0
theorem valS_min {xs : List It} {ms : List Int} {k k' : Nat} (h : min k (ms.length - 1) = min k' (ms.length - 1)) (r : List Nat) (a c : Int) : valS xs ms r a k c = valS xs ms r a k' c := by unfold valS; rw [scM_min xs ms r a k k' c none h]
/-- a slice of numbers and an error. -/
def SlRes (w : World) (e : Ending) (w' : World) (er : Int) (bl : List Nat) : Prop :=
  ∃ A' c', e = .returned (.tuple #[.slice A' bl.length c', .int .i64 er]) ∧ Own w' w.heap.size 3 1 intC A' bl.length c' (ints bl) ∧ Below w.heap.size w w'

set_option maxRecDepth 100000 in
set_option maxHeartbeats 4000000 in
theorem Breaks_any (hp : PrepOk) (A M : Option Addr) (n m c d : Nat) (xs : List It) (ms : List Int) (w : World) (ha : Sl w 6 itC A n xs) (hm : Sl w 1 intC M m ms) (hn : n ≤ 4096) (hmm : m ≤ 4096) :
    Calls Try.prog 22 #[.slice A n c, .slice M m d] w fun e w' => SlRes w e w' (chkB xs ms) (if chkB xs ms = 0 then breaksL xs ms else []) := by
  have cc := fun w h1 h2 => check_any A M n m c d xs ms w h1 h2 hn hmm
  by_cases h0 : chkB xs ms = 0
  · have G := chkB_good ha.len hm.len hn h0
    have cp := fun w h1 h2 => hp A M n m c d xs ms w h1 h2 ⟨G.n0, hn⟩ G.R
    have cs := fun g q w P => solve_any g q n m xs ms w P ⟨G.n0, hn⟩ ⟨G.m0, G.m1⟩ G.R G.M G.F
    have hml := hm.len
    have hxl := ha.len
    obtain ⟨hL0, hlast⟩ := posN_last hxl G.n0 G.F
    have hlt := fun j (h : j < (posN xs).length) => (posN_lt h : gN (posN xs) j < xs.length)
    have hsort := posN_sorted xs
    have hLn : (posN xs).length ≤ n := by
      have := posT_len xs xs.length
      unfold posN
      omega
    rw [hxl] at hlt
    rw [if_pos h0, h0]
    rw [h0] at cc
    clear h0
    have hBP : pathM xs ms (posN xs) (-1) 0 1 = breaksL xs ms := rfl
    obtain ⟨BL, hBL⟩ : ∃ BL, BL = breaksL xs ms := ⟨_, rfl⟩
    rw [← hBL] at hBP ⊢
    clear hBL
    have HBL := Lib.hid hBP
    clear hBP
    have HML := Lib.hid hml
    have HXL := Lib.hid hxl
    clear hml hxl
    go_enter Try.func22, Try.ntmps22
    go_upto_region 6 with (first
      | (go_at_call 43; refine (cc _ ha hm).mono ?_; rintro e w1 ⟨rfl, hb1⟩)
      | (go_at_call 44; refine (cp _ (ha.below hb1) (hm.below hb1)).mono ?_; rintro e w2 ⟨g, q, rfl, hb2, P⟩)
      | (go_at_call 45; refine (cs g q _ P).mono ?_; rintro e w3 ⟨h, N, f, rfl, Hm, hb3, hf, hI⟩))
    have hb9 := below_trans' (below_trans' hb1 hb1.size hb2) (Nat.le_trans hb1.size hb2.size) hb3
    have P3 := P.below hb3
    have HHm := Lib.hid Hm
    have HI := Lib.hid hI
    have HF := Lib.hid hf
    clear cc cp cs hb1 hb2 hb3 P Hm hI hf
    generalize posN xs = L at *
    go_wp2_with fail
    obtain ⟨W0, hW0⟩ : ∃ W0, W0 = w3.alloc (.cells #[.int .i64 (-1), .int .i64 0, .int .i64 1] 76) := ⟨_, rfl⟩
    rw [← hW0]
    have B0 : Blk W0 w3.heap.size 76 #[.int .i64 (-1), .int .i64 0, .int .i64 1] := by rw [hW0]; exact Blk.new _ _ _
    have hW1 : W0.heap.size = w3.heap.size + 1 := by rw [hW0]; simp
    have hbW : ∀ wr, W0.grownBy wr (some w3.heap.size) → Below w3.heap.size w3 wr := fun wr hg => by
      rw [hW0] at hg
      exact ((Below.refl _ w3).alloc (Nat.le_refl _) _).grown hg (by simp) (fun k hk => by injection hk with hk; omega)
    have HBW := Lib.hid hbW
    clear hbW hW0
    generalize hpp : w3.heap.size = p at *
    go_loopw [9] (fun vo wr => ∃ (i k : Nat) (a c0 : Int) (bl : List Nat) (A1 : Option Addr) (c1 : Nat), i ≤ L.length ∧ (i = 0 ∧ a = -1 ∧ k = 0 ∨ 0 < i ∧ a = gN L (i - 1)) ∧ (0 ≤ c0 ∧ c0 < 4) ∧ vo = .slice A1 bl.length c1 ∧ bl.length ≤ i ∧ bl ++ pathM xs ms (L.drop i) a k c0 = BL ∧ Own wr W0.heap.size 3 1 intC A1 bl.length c1 (ints bl) ∧ Blk wr p 76 #[.int .i64 a, .int .i64 (min k (m - 1) : Nat), .int .i64 c0] ∧ W0.grownBy wr (some p)) (fun vo _ => n - lenOf vo)
    case atStart =>
      refine ⟨0, 0, -1, 1, [], none, 0, Nat.zero_le _, .inl ⟨rfl, rfl, rfl⟩, by omega, rfl, Nat.le_refl _, ?_, Own.nil_ _ _ _ _ _, by simpa using B0, World.grownBy.refl _ _⟩
      rw [List.nil_append, List.drop_zero]
      exact HBL.out
    case round =>
      obtain ⟨i, k, a, c0, bl, A1, c1, hi, hia, hc0, rfl, hbi, hpath, ho, Bn, hg⟩ := hrel
      clear B0
      have hbr := HBW.out wr hg
      have n0 : wr.cell? ⟨p, 0, none⟩ = some (.int .i64 a) := Bn.cell 0 rfl
      have n1 : wr.cell? ⟨p, 1, none⟩ = some (.int .i64 (min k (m - 1) : Nat)) := Bn.cell 1 rfl
      have n2 : wr.cell? ⟨p, 2, none⟩ = some (.int .i64 c0) := Bn.cell 2 rfl
      by_cases hil : i = L.length
      · have ha2 : a = (n : Int) - 1 := by
          rcases hia with h1 | h1
          · omega
          · rw [h1.2, (hlast (i - 1) (by omega)).2 (by omega)]; have := G.n0; omega
        have hbl : bl = BL := by
          rw [← hpath, List.drop_eq_nil_of_le (by omega), path_nil, List.append_nil]
        subst hbl
        rw [ha2] at n0
        clear hpath hia ha2
        go_wp2_with fail
        go_ret2
        exact ⟨A1, c1, rfl, ho.base (by rw [hW1]; exact Nat.le_trans hb9.size (by omega)), below_trans' hb9 hb9.size (by rw [hpp]; exact hbr)⟩
      · have P1 := P3.below (by rw [hpp]; exact hbr)
        have H1 := HHm.out.below (by rw [hpp]; exact hbr)
        have hiL : i < L.length := by omega
        have hk : min k (m - 1) < m := by have := G.m0; omega
        have hne : scM xs ms (L.drop i) a k c0 none ≠ none := by rw [drop_at hiL]; exact scM_ne xs ms
        obtain ⟨x, hx⟩ := Option.ne_none_iff_exists'.1 hne
        have hmem : x.2 ∈ L.drop i := by
          rcases scM_mem xs ms _ _ _ _ _ _ hx with h1 | h1
          · cases h1
          · exact h1
        obtain ⟨j0, hj0, hjx⟩ := gN_of_mem hmem
        rw [gN_drop] at hjx
        rw [List.length_drop] at hj0
        obtain ⟨j, hj⟩ : ∃ j, j = i + j0 := ⟨_, rfl⟩
        rw [← hj] at hjx
        have hjL : j < L.length := by omega
        have hbn := hlt j hjL
        have hab : -1 ≤ a ∧ a < gN L j := by
          rcases hia with h1 | h1
          · omega
          · have := gN_rise hsort (i := i - 1) (j := j) (by omega) hjL
            omega
        have han : (a != (n : Int) - 1) = true := by
          have : a ≠ (n : Int) - 1 := by
            rcases hia with h1 | h1
            · omega
            · have h2 := (hlast (i - 1) (by omega)).1
              omega
          simpa using this
        have hval : f a (min k (m - 1) : Nat) c0 = (x.1, (x.2 : Int)) := by
          have h1 : f a (min k (m - 1) : Nat) c0 = valS xs ms (L.drop i) a (min k (m - 1)) c0 := by
            rcases hia with h1 | h1
            · rw [h1.2.1, h1.2.2, Nat.zero_min, h1.1, List.drop_zero]
              exact HF.out c0 hc0.1 hc0.2
            · have h2 := HI.out (i - 1) (Nat.zero_le _) (by omega) (min k (m - 1)) (by rw [HML.out]; omega) c0 hc0.1 hc0.2
              rw [show i - 1 + 1 = i by omega, ← h1.2] at h2
              exact h2
          rw [h1, valS_min (k' := k) (by rw [HML.out]; omega)]
          unfold valS
          rw [hx]
          rfl
        have hl := H1.lookup (a := a) (k := (min k (m - 1) : Nat)) (c := c0) (by unfold okI; have := G.n1; omega) (by unfold okI; have := G.m1; omega) (by unfold okI; omega)
        rw [hval] at hl
        have hstep := path_step xs ms (by rw [drop_at hiL]; simp) hx
        rw [← hjx, hj, after_drop hsort (Nat.le_add_right i j0) (by omega), ← hj] at hstep
        rw [hstep] at hpath
        have hcm := cls4 xs ms a k (gN L j)
        have cl := fun w h => line_any g q n m (gN L j) (min k (m - 1)) a xs ms w h hbn hab G.n1 ⟨G.m0, by have := G.m1; omega⟩ G.R G.M
        rw [line_min xs ms (k' := k) (by rw [HML.out]; omega)] at cl
        have hcc : Cm xs ms a k (gN L j) = (lineF xs ms a (gN L j) k).cls := rfl
        rw [hcc] at hcm hpath
        rw [← hjx] at hl
        have hfd := fld1 x.1 (gN L j) wr
        unfold stV chV at hl
        simp only at hl
        have HP := Lib.hid hpath
        have hkm : (min (k + 1) (m - 1) : Nat) = min (min k (m - 1) + 1) (m - 1) := by omega
        have HKM := Lib.hid hkm
        clear hval hx hmem hne hstep hpath hjx hcc hia hkm
        generalize lineF xs ms a (gN L j) k = y at *
        obtain ⟨xf, xt, xb, xm, xw, xr, xc, xbad, xo, xd⟩ := y
        unfold lnV at cl
        simp only at cl hcm HP
        have hjb : -1 ≤ (gN L j : Int) := by omega
        have HJ := Lib.hid (show (gN L j : Int) = (gN L (j + 1 - 1) : Nat) from rfl)
        generalize gN L j = b at *
        generalize hkk : min k (m - 1) = kk at *
        go_upto_region 10 with fail
        go_cut [12] (fun v wx => ∃ pl, v = .pointer (some ⟨pl, 0, none⟩) ∧ wr.heap.size ≤ pl ∧ Blk wx pl 56 #[.int .i64 xf, .int .i64 xt, .int .i64 xb, .int .i64 xm, .int .i64 xw, .int .i64 xr, .int .i64 xc, .int .i64 xbad, .int .i64 xo, .int .i64 xd] ∧ Below wr.heap.size wr wx)
        case first => as_aux_lemma =>
          go_wp2_with (first | (go_at_call 46; refine (cl _ P1).mono ?_; rintro e w4 ⟨rfl, hb4⟩))
          go_meet
          case rel => exact ⟨_, rfl, hb4.size, Blk.new _ _ _, hb4.alloc hb4.size _⟩
        case rest =>
          obtain ⟨pl, rfl, hpl, Bx, hb4⟩ := hcut
          have Bn4 := Bn.below hb4
          have ho4 := ho.below hb4
          have hlt4 := ho.lt
          have gk4 := gb_far hg (gb_below hb4 none) (fun k hk => by cases hk)
          have hw4 : W0.heap.size ≤ wc.heap.size := Nat.le_trans hg.size hb4.size
          have hnn := G.n1
          have hm0 := G.m0
          have hm1 := G.m1
          clear cl P1 H1 hl hfd n0 n1 n2
          by_cases hkc : (kk : Int) + 1 ≤ (m : Int) - 1
          · go_wp2_with (at_builtin; refine wpList_push elemI rfl (.tmp 42) (.tmp 44) rfl rfl _ rfl (ho4.alloc _) (b : Int) _ rfl (by simp) (intC_one _) rfl (by unfold maxLen; omega) (Nat.le_trans hw4 (by simp)) ?_; intro A3 c3 w5 ho5 hg5 ha5; have hne5 : ∀ k, some p = some k → blk A3 ≠ some k := fun k hk e => (by injection hk with hk; have := (ho5.lt k e).1; omega); have Bn5 := (Bn4.alloc _).keep hg5 (fun e => by have := (hlt4 p e).1; omega); have Bx5 := (Bx.alloc _).keep hg5 (fun e => by have := (hlt4 pl e).2; omega); have gk := gb_far (only_alloc gk4 _) hg5 (fun k hk => (hlt4 k hk).1); have n0 : w5.cell? ⟨p, 0, none⟩ = some (.int .i64 a) := Bn5.cell 0 rfl; have n1 : w5.cell? ⟨p, 1, none⟩ = some (.int .i64 kk) := Bn5.cell 1 rfl; have n2 : w5.cell? ⟨p, 2, none⟩ = some (.int .i64 c0) := Bn5.cell 2 rfl; have l6 : w5.cell? ⟨pl, 6, none⟩ = some (.int .i64 xc) := Bx5.cell 6 rfl; have f0 := Bn5.frozen 0; have f1 := Bn5.frozen 1; have f2 := Bn5.frozen 2)
            go_roundw
            case rel =>
              refine ⟨j + 1, k + 1, (b : Int), xc, bl ++ [b], A3, c3, by omega, .inr ⟨by omega, HJ.out⟩, hcm, by rw [List.length_append]; rfl, by rw [List.length_append]; simp only [List.length_singleton]; omega, by rw [List.append_assoc]; exact HP.out, ?_, ?_, gb_set (gb_set (gb_set gk 0 _) 1 _) 2 _⟩
              · rw [List.length_append, ints_snoc]
                exact ((ho5.keep (only_set (World.grownBy.refl _ _) 0 _) hne5).keep (only_set (World.grownBy.refl _ _) 1 _) hne5).keep (only_set (World.grownBy.refl _ _) 2 _) hne5
              · rw [HKM.out, show min (kk + 1) (m - 1) = kk + 1 by omega]
                exact ((Bn5.set_ 0 (.int .i64 b)).set_ 1 (.int .i64 (kk + 1 : Nat))).set_ 2 (.int .i64 xc)
            case measure => simp [lenOf]; omega
          · go_wp2_with (at_builtin; refine wpList_push elemI rfl (.tmp 42) (.tmp 44) rfl rfl _ rfl (ho4.alloc _) (b : Int) _ rfl (by simp) (intC_one _) rfl (by unfold maxLen; omega) (Nat.le_trans hw4 (by simp)) ?_; intro A3 c3 w5 ho5 hg5 ha5; have hne5 : ∀ k, some p = some k → blk A3 ≠ some k := fun k hk e => (by injection hk with hk; have := (ho5.lt k e).1; omega); have Bn5 := (Bn4.alloc _).keep hg5 (fun e => by have := (hlt4 p e).1; omega); have Bx5 := (Bx.alloc _).keep hg5 (fun e => by have := (hlt4 pl e).2; omega); have gk := gb_far (only_alloc gk4 _) hg5 (fun k hk => (hlt4 k hk).1); have n0 : w5.cell? ⟨p, 0, none⟩ = some (.int .i64 a) := Bn5.cell 0 rfl; have n1 : w5.cell? ⟨p, 1, none⟩ = some (.int .i64 kk) := Bn5.cell 1 rfl; have n2 : w5.cell? ⟨p, 2, none⟩ = some (.int .i64 c0) := Bn5.cell 2 rfl; have l6 : w5.cell? ⟨pl, 6, none⟩ = some (.int .i64 xc) := Bx5.cell 6 rfl; have f0 := Bn5.frozen 0; have f1 := Bn5.frozen 1; have f2 := Bn5.frozen 2)
            go_roundw
            case rel =>
              refine ⟨j + 1, k + 1, (b : Int), xc, bl ++ [b], A3, c3, by omega, .inr ⟨by omega, HJ.out⟩, hcm, by rw [List.length_append]; rfl, by rw [List.length_append]; simp only [List.length_singleton]; omega, by rw [List.append_assoc]; exact HP.out, ?_, ?_, gb_set (gb_set (gb_set gk 0 _) 1 _) 2 _⟩
              · rw [List.length_append, ints_snoc]
                exact ((ho5.keep (only_set (World.grownBy.refl _ _) 0 _) hne5).keep (only_set (World.grownBy.refl _ _) 1 _) hne5).keep (only_set (World.grownBy.refl _ _) 2 _) hne5
              · rw [HKM.out, show min (kk + 1) (m - 1) = m - 1 by omega]
                have hmz : ((m - 1 : Nat) : Int) = (m : Int) - 1 := by omega
                rw [hmz]
                exact ((Bn5.set_ 0 (.int .i64 b)).set_ 1 (.int .i64 ((m : Int) - 1))).set_ 2 (.int .i64 xc)
            case measure => simp [lenOf]; omega
  · rw [if_neg h0]
    have h1 : (chkB xs ms != 0) = true := by simpa using h0
    generalize chkB xs ms = v at *
    go_enter Try.func22, Try.ntmps22
    go_wp2_with (first | (go_at_call 43; refine (cc _ ha hm).mono ?_; rintro e w1 ⟨rfl, hb1⟩))
    go_ret2
    exact ⟨none, 0, rfl, Own.nil_ _ _ _ _ _, hb1⟩
end Go.Proofs.Ytogbapdioccamaa
