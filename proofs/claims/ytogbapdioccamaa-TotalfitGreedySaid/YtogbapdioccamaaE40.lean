/- Greedy of the program. -/
import Derived.Test.YtogbapdioccamaaE39
import Derived.Test.YtogbapdioccamaaE23
import Derived.Deep.CutBlock
namespace Go.Proofs.Ytogbapdioccamaa
open Go.RowKit

theorem fld8 (a b c d e f g h i j : Int) (w : World) : (Instr.field 56 (.agg #[.int .i64 a, .int .i64 b, .int .i64 c, .int .i64 d, .int .i64 e, .int .i64 f, .int .i64 g, .int .i64 h, .int .i64 i, .int .i64 j]) 8).run Try.prog w = .ok (.int .i64 i) w := by kernel_rfl

theorem endG_cons (xs : List It) (ms : List Int) (a : Int) (k b : Nat) (r : List Nat) (acc : Nat) : endG xs ms a k (b :: r) acc = if fbm xs b = true then (if (lineF xs ms a b k).over = 0 then b else acc) else endG xs ms a k r (if (lineF xs ms a b k).over = 0 then b else acc) := rfl

set_option maxRecDepth 100000 in
set_option maxHeartbeats 4000000 in
theorem Greedy_any (hp : PrepOk) (A M : Option Addr) (n m c d : Nat) (xs : List It) (ms : List Int) (w : World) (ha : Sl w 6 itC A n xs) (hm : Sl w 1 intC M m ms) (hn : n ≤ 4096) (hmm : m ≤ 4096) :
    Calls Try.prog 33 #[.slice A n c, .slice M m d] w fun e w' => SlRes w e w' (chkB xs ms) (if chkB xs ms = 0 then greedyL xs ms else []) := by
  have cc := fun w h1 h2 => check_any A M n m c d xs ms w h1 h2 hn hmm
  by_cases h0 : chkB xs ms = 0
  · have G := chkB_good ha.len hm.len hn h0
    have cp := fun w h1 h2 => hp A M n m c d xs ms w h1 h2 ⟨G.n0, hn⟩ G.R
    have co := fun w h => positions_any A n c xs w h hn
    have hxl := ha.len
    obtain ⟨hL0, -⟩ := posN_last hxl G.n0 G.F
    have hlt := fun j (h : j < (posN xs).length) => (posN_lt h : gN (posN xs) j < xs.length)
    have hsort := posN_sorted xs
    have hLn : (posN xs).length ≤ n := by
      have := posT_len xs xs.length
      unfold posN
      omega
    rw [hxl] at hlt
    rw [if_pos h0, h0]
    rw [h0] at cc
    clear h0
    have hBP : greedyG xs ms (posN xs).length (posN xs) (-1) 0 = greedyL xs ms := rfl
    obtain ⟨GL, hGL⟩ : ∃ GL, GL = greedyL xs ms := ⟨_, rfl⟩
    rw [← hGL] at hBP ⊢
    clear hGL
    have HBL := Lib.hid hBP
    have HLT := Lib.hid hlt
    have HS := Lib.hid hsort
    clear hBP hxl hlt hsort
    go_enter Try.func33, Try.ntmps33
    go_upto_region 6 with (first
      | (go_at_call 43; refine (cc _ ha hm).mono ?_; rintro e w1 ⟨rfl, hb1⟩)
      | (go_at_call 44; refine (cp _ (ha.below hb1) (hm.below hb1)).mono ?_; rintro e w2 ⟨g, q, rfl, hb2, P⟩)
      | (go_at_call 41; refine (co _ ((ha.below hb1).below hb2)).mono ?_; rintro e w3 ⟨A3, c3, rfl, ho3, hb3⟩))
    obtain ⟨g2, rfl, _, _⟩ := ho3.form hL0
    have hS3 := ho3.sl intC_len
    have hb9 := below_trans' (below_trans' hb1 hb1.size hb2) (Nat.le_trans hb1.size hb2.size) hb3
    have P3 := P.below hb3
    clear cc cp co hb1 hb2 hb3 P ho3
    generalize posN xs = L at *
    go_wp2_with fail
    go_loopw [9, 10, 11] (fun vo va vi wr => ∃ (i f : Nat) (a : Int) (bl : List Nat) (A1 : Option Addr) (c1 : Nat), i ≤ L.length ∧ vi = .int .i64 i ∧ va = .int .i64 a ∧ (i = 0 ∧ a = -1 ∨ 0 < i ∧ a = gN L (i - 1)) ∧ vo = .slice A1 bl.length c1 ∧ bl.length ≤ i ∧ L.length - i ≤ f ∧ bl ++ greedyG xs ms f (L.drop i) a bl.length = GL ∧ Own wr w3.heap.size 3 1 intC A1 bl.length c1 (ints bl) ∧ Below w3.heap.size w3 wr) (fun _ _ vi _ => L.length - (intOf vi).toNat)
    case atStart =>
      refine ⟨0, L.length, -1, [], none, 0, Nat.zero_le _, rfl, rfl, .inl ⟨rfl, rfl⟩, rfl, Nat.le_refl _, by omega, ?_, Own.nil_ _ _ _ _ _, Below.refl _ _⟩
      rw [List.nil_append, List.drop_zero]
      exact HBL.out
    case round =>
      obtain ⟨i, f, a, bl, A1, c1, hi, rfl, rfl, hia, rfl, hbi, hf, hpath, ho, hbw⟩ := hrel
      by_cases hil : i < L.length
      · obtain ⟨f, rfl⟩ : ∃ f', f = f' + 1 := ⟨f - 1, by omega⟩
        have hdr := drop_at hil
        have hstep : greedyG xs ms (f + 1) (L.drop i) a bl.length = endG xs ms a bl.length (L.drop i) (gN L i) :: greedyG xs ms f (after (endG xs ms a bl.length (L.drop i) (gN L i)) (L.drop i)) (endG xs ms a bl.length (L.drop i) (gN L i)) (bl.length + 1) := by rw [hdr]; rfl
        rw [hstep] at hpath
        have HP := Lib.hid hpath
        clear hstep hpath hdr
        have haa : -1 ≤ a ∧ a < n ∧ ∀ j, i ≤ j → j < L.length → a < gN L j := by
          rcases hia with h1 | h1
          · exact ⟨by omega, by have := G.n0; omega, fun j _ _ => by omega⟩
          · have h2 := HLT.out (i - 1) (by omega)
            exact ⟨by omega, by omega, fun j h3 h4 => by have := gN_rise HS.out (i := i - 1) (j := j) (by omega) h4; omega⟩
        go_upto_block 2 with fail
        go_cut [12] (fun v wx => ∃ e, i ≤ e ∧ e < L.length ∧ v = .int .i64 e ∧ gN L e = endG xs ms a bl.length (L.drop i) (gN L i) ∧ Below wr.heap.size wr wx)
        case first =>
          go_wp2_with fail
          go_loopw [12, 13] (fun ve vj wx => ∃ e j : Nat, i ≤ j ∧ j ≤ L.length ∧ i ≤ e ∧ e < L.length ∧ ve = .int .i64 e ∧ vj = .int .i64 j ∧ endG xs ms a bl.length (L.drop j) (gN L e) = endG xs ms a bl.length (L.drop i) (gN L i) ∧ Below wr.heap.size wr wx) (fun _ vj _ => L.length - (intOf vj).toNat)
          case atStart => exact ⟨i, i, Nat.le_refl _, hi, Nat.le_refl _, hil, rfl, rfl, rfl, Below.refl _ _⟩
          case round =>
            obtain ⟨e, j, hij, hj, hie, heL, rfl, rfl, hen, hb4⟩ := hrel
            obtain ⟨wx, rfl⟩ : ∃ wx : World, wx = wr := ⟨_, rfl⟩
            have hbx := below_trans' hbw hbw.size hb4
            by_cases hjl : j < L.length
            · have hbn := HLT.out j hjl
              obtain ⟨ad2, rfl, -⟩ := ha.it hbn
              have hax := ha.below (below_trans' hb9 hb9.size hbx)
              have P1 := P3.below hbx
              have hrr : ∀ W, Below w3.heap.size w3 W → W.cell? ⟨g2, j, none⟩ = some (.int .i64 (gN L j)) := fun W hW => by
                obtain ⟨ad5, e5, _, r⟩ := (hS3.below hW).int hjl
                injection e5 with e5
                subst e5
                rw [gI_ints hjl, add0] at r
                exact r
              have r := hrr _ hbx
              have cl := fun w h => line_any g q n m (gN L j) bl.length a xs ms w h hbn ⟨haa.1, haa.2.2 j hij hjl⟩ G.n1 ⟨G.m0, by have := G.m1; omega⟩ G.R G.M
              have cf := forced_any (gT xs (gN L j))
              rw [drop_at hjl] at hen
              rw [endG_cons] at hen
              have hfb : fbm xs (gN L j) = decide ((gT xs (gN L j)).kind = 3 ∧ (gT xs (gN L j)).cost = -10000) := by
                unfold fbm forcedI
                by_cases h3 : (gT xs (gN L j)).kind = 3 <;> by_cases h4 : (gT xs (gN L j)).cost = -10000 <;> simp [h3, h4]
              rw [← hfb] at cf
              have hfd := fld8
              generalize hx : lineF xs ms a (gN L j) bl.length = x at *
              obtain ⟨xf, xt, xb, xm, xw, xr, xc, xbad, xo, xd⟩ := x
              unfold lnV at cl
              simp only at cl hen
              clear hx hfb
              by_cases ho0 : xo = 0
              · rw [if_pos ho0] at hen
                have ho1 : (xo == 0) = true := by simpa using ho0
                clear ho0
                cases hfm : fbm xs (gN L j)
                · rw [hfm] at cf hen
                  have HEN := Lib.hid (show endG xs ms a bl.length (L.drop (j + 1)) (gN L j) = endG xs ms a bl.length (L.drop i) (gN L i) from hen)
                  clear hen hfm
                  go_wp2_with (first
                    | (go_at_call 46; refine (cl _ P1).mono ?_; rintro e5 w5 ⟨rfl, hb5⟩; obtain ⟨ad4, e4, hl4, q0, q1, q2, q3, q4, q5⟩ := (hax.below hb5).it hbn; injection e4 with e4; subst e4; have r5 := hrr w5 (below_trans' hbx hbx.size hb5))
                    | (go_at_call 38; refine (cf _).mono ?_; rintro e6 w6 ⟨rfl, hb6⟩))
                  go_roundw
                  case rel => exact ⟨j, j + 1, by omega, by omega, by omega, by omega, rfl, by go_num, HEN.out, below_trans' hb4 hb4.size (below_trans' hb5 hb5.size hb6)⟩
                  case measure => simp [intOf]; omega
                · rw [hfm] at cf hen
                  have HEN := Lib.hid (show gN L j = endG xs ms a bl.length (L.drop i) (gN L i) from hen)
                  clear hen hfm
                  go_wp2_with (first
                    | (go_at_call 46; refine (cl _ P1).mono ?_; rintro e5 w5 ⟨rfl, hb5⟩; obtain ⟨ad4, e4, hl4, q0, q1, q2, q3, q4, q5⟩ := (hax.below hb5).it hbn; injection e4 with e4; subst e4; have r5 := hrr w5 (below_trans' hbx hbx.size hb5))
                    | (go_at_call 38; refine (cf _).mono ?_; rintro e6 w6 ⟨rfl, hb6⟩))
                  go_meet
                  case rel => exact ⟨j, by omega, by omega, rfl, HEN.out, below_trans' hb4 hb4.size (below_trans' hb5 hb5.size hb6)⟩
              · rw [if_neg ho0] at hen
                have ho1 : (xo == 0) = false := by simpa using ho0
                clear ho0
                cases hfm : fbm xs (gN L j)
                · rw [hfm] at cf hen
                  have HEN := Lib.hid (show endG xs ms a bl.length (L.drop (j + 1)) (gN L e) = endG xs ms a bl.length (L.drop i) (gN L i) from hen)
                  clear hen hfm
                  go_wp2_with (first
                    | (go_at_call 46; refine (cl _ P1).mono ?_; rintro e5 w5 ⟨rfl, hb5⟩; obtain ⟨ad4, e4, hl4, q0, q1, q2, q3, q4, q5⟩ := (hax.below hb5).it hbn; injection e4 with e4; subst e4; have r5 := hrr w5 (below_trans' hbx hbx.size hb5))
                    | (go_at_call 38; refine (cf _).mono ?_; rintro e6 w6 ⟨rfl, hb6⟩))
                  go_roundw
                  case rel => exact ⟨e, j + 1, by omega, by omega, by omega, by omega, rfl, by go_num, HEN.out, below_trans' hb4 hb4.size (below_trans' hb5 hb5.size hb6)⟩
                  case measure => simp [intOf]; omega
                · rw [hfm] at cf hen
                  have HEN := Lib.hid (show gN L e = endG xs ms a bl.length (L.drop i) (gN L i) from hen)
                  clear hen hfm
                  go_wp2_with (first
                    | (go_at_call 46; refine (cl _ P1).mono ?_; rintro e5 w5 ⟨rfl, hb5⟩; obtain ⟨ad4, e4, hl4, q0, q1, q2, q3, q4, q5⟩ := (hax.below hb5).it hbn; injection e4 with e4; subst e4; have r5 := hrr w5 (below_trans' hbx hbx.size hb5))
                    | (go_at_call 38; refine (cf _).mono ?_; rintro e6 w6 ⟨rfl, hb6⟩))
                  go_meet
                  case rel => exact ⟨e, by omega, by omega, rfl, HEN.out, below_trans' hb4 hb4.size (below_trans' hb5 hb5.size hb6)⟩
            · rw [List.drop_eq_nil_of_le (by omega)] at hen
              have HEN := Lib.hid (show gN L e = endG xs ms a bl.length (L.drop i) (gN L i) from hen)
              clear hen
              go_wp2_with fail
              go_meet
              case rel => exact ⟨e, hie, heL, rfl, HEN.out, hb4⟩
        case rest =>
          obtain ⟨e, hie, heL, rfl, hE, hb4⟩ := hcut
          rw [← hE] at HP
          have hbw4 := below_trans' hbw hbw.size hb4
          obtain ⟨ad, e1, _, r⟩ := (hS3.below hbw4).int heL
          injection e1 with e1
          subst e1
          rw [gI_ints heL, add0] at r
          have ho4 := ho.below hb4
          have haf := after_drop HS.out hie heL
          have HAF := Lib.hid haf
          clear haf hE
          have hel := HLT.out e heL
          have HB := Lib.hid (show (gN L e : Int) = (gN L (e + 1 - 1) : Nat) from rfl)
          rw [HAF.out] at HP
          generalize gN L e = b at *
          have hlt4 := ho.lt
          have hnn := G.n1
          go_wp2_with (at_builtin; refine wpList_push elemI rfl (.tmp 61) (.tmp 63) rfl rfl _ rfl (ho4.alloc _) (b : Int) _ rfl (by simp) (intC_one _) rfl (by unfold maxLen; omega) (Nat.le_trans hbw4.size (by simp)) ?_; intro A5 c5 w5 ho5 hg5 ha5)
          go_roundw
          case rel =>
            refine ⟨e + 1, f, (b : Int), bl ++ [b], A5, c5, by omega, by go_num, rfl, .inr ⟨by omega, HB.out⟩, by rw [List.length_append]; rfl, by rw [List.length_append]; simp only [List.length_singleton]; omega, by omega, ?_, ?_, (hbw4.alloc hbw4.size _).grown hg5 (Nat.le_trans hbw4.size (by simp)) (fun k hk => (hlt4 k hk).1)⟩
            · rw [List.append_assoc, List.length_append]
              exact HP.out
            · rw [List.length_append, ints_snoc]
              exact ho5
          case measure => simp [intOf]; omega
      · have hiL : i = L.length := by omega
        have hbl : bl = GL := by
          rw [← hpath, List.drop_eq_nil_of_le (by omega)]
          cases f <;> simp [greedyG]
        subst hbl
        clear hpath hia
        go_wp2_with fail
        go_ret2
        exact ⟨A1, c1, rfl, ho.base hb9.size, below_trans' hb9 hb9.size hbw⟩
  · rw [if_neg h0]
    have h1 : (chkB xs ms != 0) = true := by simpa using h0
    generalize chkB xs ms = v at *
    go_enter Try.func33, Try.ntmps33
    go_wp2_with (first | (go_at_call 43; refine (cc _ ha hm).mono ?_; rintro e w1 ⟨rfl, hb1⟩))
    go_ret2
    exact ⟨none, 0, rfl, Own.nil_ _ _ _ _ _, hb1⟩
end Go.Proofs.Ytogbapdioccamaa
