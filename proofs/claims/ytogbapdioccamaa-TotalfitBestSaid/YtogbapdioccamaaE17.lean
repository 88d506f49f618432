/- choose. -/
import Derived.Test.YtogbapdioccamaaE16
import Derived.Deep.CutBlock
namespace Go.Proofs.Ytogbapdioccamaa
open Go.RowKit

set_option maxRecDepth 100000 in
set_option maxHeartbeats 4000000 in
theorem choose_any (g : Nat) (q : PA) (n m h N K c k : Nat) (f : Int → Int → Int → Int × Int) (a : Int) (B : Option Addr) (l : List Nat) (xs : List It) (ms : List Int) (w : World) (P : Par w g q n m xs ms) (H : Mp w h N f) (hB : Sl w 1 intC B K (ints l))
    (hl : ∀ i, i < K → a < gN l i ∧ gN l i < n) (ha : -1 ≤ a ∧ a < n) (hK : K ≤ 4096) (hn : n ≤ 4096) (hm : 0 < m ∧ m ≤ 4096) (hk : k < m) (hR : ∀ k, k < n → Right 31680 (gT xs k)) (hM : ∀ k, k < m → 1 ≤ gI ms k ∧ gI ms k ≤ 31680) (hN : N < 1000000)
    (hf : ∀ i, i < K → ∀ c', 0 ≤ c' → c' ≤ 3 → -4000000000000000000 ≤ (f (gN l i) (min (k + 1) (m - 1) : Nat) c').1 ∧ (f (gN l i) (min (k + 1) (m - 1) : Nat) c').1 ≤ 4000000000000000000) :
    Calls Try.prog 56 #[.pointer (some ⟨g, 0, none⟩), .map (some h), .slice B K c, .int .i64 a, .int .i64 k] w fun e w' => e = .returned (.tuple #[]) ∧ Mp w' h (N + 4) (chF xs ms f a k (min (k + 1) (m - 1)) l) ∧ w.grownBy w' (some h) := by
  have hll : l.length = K := by have := hB.len; simpa [ints] using this
  have HL := Lib.hid hll
  clear hll
  obtain ⟨v, hv⟩ : ∃ v, v = vC xs ms f a k (min (k + 1) (m - 1)) := ⟨_, rfl⟩
  obtain ⟨fb, hfb⟩ : ∃ fb : Nat → Bool, fb = fun b => forcedI (gT xs b) := ⟨_, rfl⟩
  have HV := Lib.hid hv
  have HF := Lib.hid hfb
  clear hv hfb
  go_enter Try.func56, Try.ntmps56
  go_upto_block 0 with fail
  go_cut [] (fun wx => ∃ A, CW w wx A ∧ ∀ c, c < 4 → A c = scanG fb (v c) l none)
  case first => as_aux_lemma =>
    go_wp2_with fail
    go_loopw [21] (fun vj wr => ∃ (j : Nat) (A : AccT), j ≤ K ∧ vj = .int .i64 j ∧ CW w wr A ∧ ∀ c, c < 4 → scanG fb (v c) (l.drop j) (A c) = scanG fb (v c) l none) (fun vj _ => K - (intOf vj).toNat)
    case atStart => exact ⟨0, _, Nat.zero_le _, rfl, CW.new w, fun _ _ => rfl⟩
    case round =>
      obtain ⟨j, A, hj, rfl, C, hs⟩ := hrel
      by_cases hlt : j < K
      · obtain ⟨ad, e, hl', r⟩ := (hB.below C.bw).int hlt
        subst e
        rw [gI_ints (by rw [HL.out]; exact hlt)] at r
        have hb := hl j hlt
        have hfj := hf j hlt
        have hdr := drop_at (l := l) (j := j) (by rw [HL.out]; exact hlt)
        rw [hdr] at hs
        clear hdr
        have hok := line_ok (a := a) (b := gN l j) (k := k) P.its.len P.mss.len hm.1 hb.2 hn hR hM
        have hcb : -10000 ≤ (gT xs (gN l j)).cost ∧ (gT xs (gN l j)).cost ≤ 10000 := ⟨(hR _ hb.2).c0, (hR _ hb.2).c1⟩
        have cl := fun w h => line_any g q n m (gN l j) k a xs ms w h hb.2 ⟨ha.1, hb.1⟩ hn hm hR hM
        have cd := fun w h (c : Nat) (hc : c < 4) => demerits_any g q n m (gN l j) a c (lineF xs ms a (gN l j) k) xs ms w h hb.2 rfl (by omega) hcb hok.bad ⟨hok.over.1, by have := hok.over.2; omega⟩ hok.cls (by omega)
        have hdb := fun c : Nat => dem_bd (a := a) (c := c) hok hcb
        have hcl := hok.cls
        have hvv : ∀ c, v c (gN l j) = (f (gN l j) (min (k + 1) (m - 1) : Nat) (lineF xs ms a (gN l j) k).cls).1 + demF 31680 xs (lineF xs ms a (gN l j) k) (gN l j) a c := fun c => by rw [HV.out]; rfl
        have hff : fb (gN l j) = forcedI (gT xs (gN l j)) := by rw [HF.out]
        have P1 := P.below C.bw
        have H1 := H.below C.bw
        generalize hx : lineF xs ms a (gN l j) k = x at *
        clear hx hok
        obtain ⟨xf, xt, xb, xm, xw, xr, xc, xbad, xo, xd⟩ := x
        unfold lnV at cl cd
        simp only at hcl hvv
        have hdc : ∀ c : Nat, -200000000 ≤ v c (gN l j) - (f (gN l j) (min (k + 1) (m - 1) : Nat) xc).1 ∧ v c (gN l j) - (f (gN l j) (min (k + 1) (m - 1) : Nat) xc).1 ≤ 50000000000000 := fun c => by rw [hvv c]; have := hdb c; omega
        have cd2 : ∀ (w : World), Par w g q n m xs ms → ∀ c : Nat, c < 4 → Calls Try.prog 61 #[.pointer (some ⟨g, 0, none⟩), .agg #[.int .i64 xf, .int .i64 xt, .int .i64 xb, .int .i64 xm, .int .i64 xw, .int .i64 xr, .int .i64 xc, .int .i64 xbad, .int .i64 xo, .int .i64 xd], .int .i64 a, .int .i64 c] w fun e w' => e = .returned (.int .i64 (v c (gN l j) - (f (gN l j) (min (k + 1) (m - 1) : Nat) xc).1)) ∧ Below w.heap.size w w' := fun w h c hc => by
          have h1 := cd w h c hc
          rw [show v c (gN l j) - (f (gN l j) (min (k + 1) (m - 1) : Nat) xc).1 = demF 31680 xs ⟨xf, xt, xb, xm, xw, xr, xc, xbad, xo, xd⟩ (gN l j) a c by rw [hvv c]; omega]
          exact h1
        clear cd hdb hvv
        have hfx := hfj xc hcl.1 hcl.2
        clear hfj
        have hlk := fun W => fun hM => Mp.lookup (w := W) (b := h) (n := N) (f := f) hM (a := (gN l j : Int)) (k := (min (k + 1) (m - 1) : Nat)) (c := xc) (by unfold okI; omega) (by unfold okI; omega) (by unfold okI; omega)
        generalize f (gN l j) (min (k + 1) (m - 1) : Nat) xc = fx at *
        obtain ⟨rs, nx⟩ := fx
        simp only at hfx hdc cd2 hlk
        go_upto_region 5 with fail
        go_cut [14] (fun v wx => ∃ p, v = .pointer (some ⟨p, 0, none⟩) ∧ wr.heap.size ≤ p ∧ Blk wx p 56 #[.int .i64 xf, .int .i64 xt, .int .i64 xb, .int .i64 xm, .int .i64 xw, .int .i64 xr, .int .i64 xc, .int .i64 xbad, .int .i64 xo, .int .i64 xd] ∧ Below wr.heap.size wr wx)
        case first => as_aux_lemma =>
          go_wp2_with (first | (go_at_call 46; refine (cl _ P1).mono ?_; rintro e w3 ⟨rfl, hb3⟩))
          go_meet
          case rel => exact ⟨_, rfl, hb3.size, Blk.new _ _ _, hb3.alloc hb3.size _⟩
        case rest =>
          obtain ⟨p, rfl, hp, Bx, hb4⟩ := hcut
          have hpp : p ≠ w.heap.size ∧ p ≠ w.heap.size + 1 := by have h0 := C.b1.lt; omega
          clear cl P1
          have C := C.below hb4
          have P1 := P.below C.bw
          have H1 := H.below C.bw
          clear hb4
          go_upto_region 6 with fail
          go_cut [15] (fun v wx => v = .int .i64 rs ∧ wx = wc.drewN 1)
          case first => as_aux_lemma =>
            have hl1 := hlk _ H1
            have hl2 := hlk _ H1.drew
            unfold stV chV at hl1 hl2
            have p1 : wc.cell? ⟨g, 1, none⟩ = some (.slice q.M m q.d) := P1.blk.cell 1 rfl
            have c6 : wc.cell? ⟨p, 6, none⟩ = some (.int .i64 xc) := Bx.cell 6 rfl
            have hml : m ≤ 4096 := hm.2
            have hf1 := fld0 rs nx wc
            have hf2 := fld0 rs nx wc.drew
            clear hs hl hf hdc cd2 hlk
            by_cases hkm : (k : Int) + 1 ≤ (m : Int) - 1
            · rw [show ((min (k + 1) (m - 1) : Nat) : Int) = (k : Int) + 1 by omega] at hl1 hl2
              go_region
              all_goals go_wp2_with fail
              all_goals go_meet
              all_goals exact ⟨rfl, rfl⟩
            · rw [show ((min (k + 1) (m - 1) : Nat) : Int) = (m : Int) - 1 by omega] at hl1 hl2
              go_region
              all_goals go_wp2_with fail
              all_goals go_meet
              all_goals exact ⟨rfl, rfl⟩
          case rest =>
            obtain ⟨rfl, rfl⟩ := hcut
            have C := C.drewN 1
            have Bx := Bx.drewN 1
            clear P1 H1 hlk
            generalize wc.drewN 1 = W at *
            generalize gN l j = b at *
            have HPP : p ≠ w.heap.size ∧ p ≠ w.heap.size + 1 := hpp
            go_wp2_with fail
            go_loopw [46] (fun vi wr2 => ∃ (i : Nat) (A2 : AccT), i ≤ 4 ∧ vi = .int .i64 i ∧ CW w wr2 A2 ∧ Blk wr2 p 56 #[.int .i64 xf, .int .i64 xt, .int .i64 xb, .int .i64 xm, .int .i64 xw, .int .i64 xr, .int .i64 xc, .int .i64 xbad, .int .i64 xo, .int .i64 xd] ∧ ∀ y, y < 4 → A2 y = if y < i then betterC (A y) (v y b, b) else A y) (fun vi _ => 4 - (intOf vi).toNat)
            case atStart => exact ⟨0, A, by omega, rfl, C, Bx, fun y _ => by rw [if_neg (by omega)]⟩
            case round =>
              clear C Bx
              obtain ⟨i, A2, hi, rfl, C, Bx, hA⟩ := hrel
              obtain ⟨wr2, rfl⟩ : ∃ wr2 : World, wr2 = wr := ⟨_, rfl⟩
              by_cases hi4 : i < 4
              · have hAi := hA i hi4
                rw [if_neg (by omega)] at hAi
                have hdi := hdc i
                go_upto_region 10 with fail
                go_cut [17] (fun vv wx => vv = .int .i64 (v i b) ∧ CW w wx A2 ∧ Blk wx p 56 #[.int .i64 xf, .int .i64 xt, .int .i64 xb, .int .i64 xm, .int .i64 xw, .int .i64 xr, .int .i64 xc, .int .i64 xbad, .int .i64 xo, .int .i64 xd])
                case first => as_aux_lemma =>
                  have k0 : wr2.cell? ⟨p, 0, none⟩ = some (.int .i64 xf) := Bx.cell 0 rfl
                  have k1 : wr2.cell? ⟨p, 1, none⟩ = some (.int .i64 xt) := Bx.cell 1 rfl
                  have k2 : wr2.cell? ⟨p, 2, none⟩ = some (.int .i64 xb) := Bx.cell 2 rfl
                  have k3 : wr2.cell? ⟨p, 3, none⟩ = some (.int .i64 xm) := Bx.cell 3 rfl
                  have k4 : wr2.cell? ⟨p, 4, none⟩ = some (.int .i64 xw) := Bx.cell 4 rfl
                  have k5 : wr2.cell? ⟨p, 5, none⟩ = some (.int .i64 xr) := Bx.cell 5 rfl
                  have k6 : wr2.cell? ⟨p, 6, none⟩ = some (.int .i64 xc) := Bx.cell 6 rfl
                  have k7 : wr2.cell? ⟨p, 7, none⟩ = some (.int .i64 xbad) := Bx.cell 7 rfl
                  have k8 : wr2.cell? ⟨p, 8, none⟩ = some (.int .i64 xo) := Bx.cell 8 rfl
                  have k9 : wr2.cell? ⟨p, 9, none⟩ = some (.int .i64 xd) := Bx.cell 9 rfl
                  have P2 := P.below C.bw
                  go_wp2_with (first | (go_at_call 61; refine (cd2 _ P2 i hi4).mono ?_; rintro e w3 ⟨rfl, hb3⟩))
                  go_meet
                  case rel => exact ⟨by congr 1; omega, C.below hb3, Bx.below hb3⟩
                case rest =>
                  clear C Bx cd2 hdc
                  obtain ⟨rfl, C, Bx⟩ := hcut
                  have d0 := C.b0.cell i (accB_at A2 hi4)
                  have e0 := C.b1.cell (i * 2) (accL_at0 A2 hi4)
                  have e1 := (C.b1.other (g' := w.heap.size) (by omega) i (.bool true)).cell (i * 2) (accL_at0 A2 hi4)
                  have e2 : ((wc.setCell ⟨w.heap.size, i, none⟩ (.bool true)).setCell ⟨w.heap.size + 1, i * 2, none⟩ (.int .i64 (v i b))).cell? ⟨w.heap.size + 1, i * 2 + 1, none⟩ = some (.int .i64 (nxt (A2 i))) := ((C.b1.other (g' := w.heap.size) (by omega) i (.bool true)).set_ (i * 2) (.int .i64 (v i b))).cell (i * 2 + 1) (by rw [Array.getElem?_setIfInBounds_ne (by omega)]; exact accL_at1 A2 hi4)
                  have g0 := C.b0.frozen i
                  have g1 := (C.b1.other (g' := w.heap.size) (by omega) i (.bool true)).frozen (i * 2)
                  have g2 := ((C.b1.other (g' := w.heap.size) (by omega) i (.bool true)).set_ (i * 2) (.int .i64 (v i b))).frozen (i * 2 + 1)
                  have C2 := C.put hi4 (v i b) b
                  have hne : p ≠ w.heap.size ∧ p ≠ w.heap.size + 1 := HPP
                  have B2 := ((Bx.other (g' := w.heap.size) (by omega) i (.bool true)).other (g' := w.heap.size + 1) (by omega) (i * 2) (.int .i64 (v i b))).other (g' := w.heap.size + 1) (by omega) (i * 2 + 1) (.int .i64 b)
                  have hgo : betterC (A i) (v i b, b) = some (v i b, b) → ∀ y, y < 4 → setA A2 i (v i b, b) y = if y < i + 1 then betterC (A y) (v y b, b) else A y := fun hb y hy => by
                    by_cases e : y = i
                    · subst e
                      rw [setA_same, if_pos (by omega), hb]
                    · rw [setA_other _ _ e, hA y hy]
                      by_cases h2 : y < i
                      · rw [if_pos h2, if_pos (by omega)]
                      · rw [if_neg h2, if_neg (by omega)]
                  have hno : betterC (A i) (v i b, b) = A i → ∀ y, y < 4 → A2 y = if y < i + 1 then betterC (A y) (v y b, b) else A y := fun hb y hy => by
                    rw [hA y hy]
                    by_cases e : y = i
                    · subst e
                      rw [if_neg (by omega), if_pos (by omega), hb]
                    · by_cases h2 : y < i
                      · rw [if_pos h2, if_pos (by omega)]
                      · rw [if_neg h2, if_neg (by omega)]
                  rw [hAi] at d0 e0 e1 e2
                  have HG := Lib.hid hgo
                  have HN := Lib.hid hno
                  have HC2 := Lib.hid C2
                  have HB2 := Lib.hid B2
                  clear hgo hno C2 B2 hA hAi
                  generalize hvi : v i b = vi at *
                  cases hAA : A i with
                  | none =>
                    have HO := Lib.hid hAA
                    rw [hAA] at d0 e0 e1 e2
                    clear hAA
                    simp only [Option.isSome_none, cst, nxt] at d0 e0 e1 e2
                    as_aux_lemma =>
                      go_wp2_with fail
                      go_roundw
                      case rel => exact ⟨i + 1, _, by omega, by go_num, HC2.out, HB2.out, HG.out (by rw [HO.out]; rfl)⟩
                      case measure => simp [intOf]; omega
                  | some y =>
                    have HO := Lib.hid hAA
                    rw [hAA] at d0 e0 e1 e2
                    clear hAA
                    simp only [Option.isSome_some, cst, nxt] at d0 e0 e1 e2
                    by_cases hlt2 : vi < y.1
                    · have hlt3 : decide (vi < y.1) = true := decide_eq_true hlt2
                      have HL2 := Lib.hid hlt2
                      clear hlt2
                      as_aux_lemma =>
                        go_wp2_with fail
                        go_roundw
                        case rel => exact ⟨i + 1, _, by omega, by go_num, HC2.out, HB2.out, HG.out (by rw [HO.out]; exact if_pos HL2.out)⟩
                        case measure => simp [intOf]; omega
                    · have hlt3 : decide (vi < y.1) = false := decide_eq_false hlt2
                      have HL2 := Lib.hid hlt2
                      clear hlt2
                      as_aux_lemma =>
                        go_wp2_with fail
                        go_roundw
                        case rel => exact ⟨i + 1, _, by omega, by go_num, C, Bx, HN.out (by rw [HO.out]; exact if_neg HL2.out)⟩
                        case measure => simp [intOf]; omega
              · have h4 : i = 4 := by omega
                subst h4
                have P2 := P.below C.bw
                obtain ⟨ad2, e2, hl2, q0, q1, q2, q3, q4, q5⟩ := P2.its.it hb.2
                have p0 := P2.blk.cell 0 rfl
                rw [e2] at p0
                have cf := forced_any (gT xs b)
                have hs2 : ∀ c, c < 4 → scanG fb (v c) (b :: l.drop (j + 1)) (A c) = if fb b = true then A2 c else scanG fb (v c) (l.drop (j + 1)) (A2 c) := fun c hc => by
                  have h1 := hA c hc
                  rw [if_pos hc] at h1
                  rw [h1]
                  rfl
                by_cases hfb : fb b = true
                · have hdec : (gT xs b).kind = 3 ∧ (gT xs b).cost = -10000 := by
                    rw [hff] at hfb
                    unfold forcedI at hfb
                    simpa using hfb
                  rw [decide_eq_true hdec] at cf
                  have HR2 := Lib.hid (fun c hc => by rw [← hs c hc, hs2 c hc, if_pos hfb] : ∀ c, c < 4 → A2 c = scanG fb (v c) l none)
                  clear hs hs2 hA hdc cd2 hdec hfb hff Bx
                  as_aux_lemma =>
                    go_wp2_with (first | (go_at_call 38; refine (cf _).mono ?_; rintro e w3 ⟨rfl, hb3⟩))
                    go_meet
                    case rel => exact ⟨A2, C.below hb3, HR2.out⟩
                · have hdec : ¬ ((gT xs b).kind = 3 ∧ (gT xs b).cost = -10000) := by
                    intro h
                    apply hfb
                    rw [hff]
                    unfold forcedI
                    simpa using h
                  rw [decide_eq_false hdec] at cf
                  have HR2 := Lib.hid (fun c hc => by rw [← hs c hc, hs2 c hc, if_neg hfb] : ∀ c, c < 4 → scanG fb (v c) (l.drop (j + 1)) (A2 c) = scanG fb (v c) l none)
                  clear hs hs2 hA hdc cd2 hdec hfb hff Bx
                  as_aux_lemma =>
                    go_wp2_with (first | (go_at_call 38; refine (cf _).mono ?_; rintro e w3 ⟨rfl, hb3⟩))
                    go_roundw
                    case rel => exact ⟨j + 1, A2, by omega, by go_num, C.below hb3, HR2.out⟩
                    case measure => simp [intOf]; omega
      · have hjK : j = K := by omega
        have hres : ∀ c, c < 4 → A c = scanG fb (v c) l none := fun c hc => by
          have h1 := hs c hc
          rw [List.drop_eq_nil_of_le (by rw [HL.out]; omega)] at h1
          exact h1
        clear hs
        subst hjK
        go_wp2_with fail
        go_meet
        case rel => exact ⟨A, C, hres⟩
  case rest =>
    obtain ⟨A, C, hA⟩ := hcut
    have HA := Lib.hid hA
    clear hA
    have H1 := H.below C.bw
    have hh := H.lt
    have hw := C.bw
    go_wp2_with fail
    go_loopw [85] (fun vi wr => ∃ i : Nat, i ≤ 4 ∧ vi = .int .i64 i ∧ Mp wr h (N + i) (chP f a k A i) ∧ wc.grownBy wr (some h)) (fun vi _ => 4 - (intOf vi).toNat)
    case atStart => exact ⟨0, by omega, rfl, by rw [chP_zero]; exact H1, World.grownBy.refl _ _⟩
    case round =>
      obtain ⟨i, hi, rfl, Hm, hg⟩ := hrel
      clear H H1
      by_cases hi4 : i < 4
      · have B1 := C.b1.keep hg (by intro e; injection e with e; omega)
        have l0 := B1.cell (i * 2) (accL_at0 A hi4)
        have l1 := B1.cell (i * 2 + 1) (accL_at1 A hi4)
        obtain ⟨w', hr, hm', hg'⟩ := Hm.update (by unfold maxLen; omega) (a := a) (k := k) (c := i) (by unfold okI; omega) (by unfold okI; omega) (by unfold okI; omega) (cst (A i)) (nxt (A i))
        rw [chP_succ] at hm'
        unfold stV chV at hr
        as_aux_lemma =>
          go_wp2_with fail
          go_roundw
          case rel => exact ⟨i + 1, by omega, by go_num, hm', hg.trans hg'⟩
          case measure => simp [intOf]; omega
      · have h4 : i = 4 := by omega
        subst h4
        go_wp2_with fail
        go_end0
        have e : chP f a k A 4 = chF xs ms f a k (min (k + 1) (m - 1)) l := by
          funext a' k' c'
          unfold chP chF
          by_cases hc : a' = a ∧ k' = (k : Int) ∧ 0 ≤ c' ∧ c' < 4
          · rw [if_pos (⟨hc.1, hc.2.1, hc.2.2.1, by omega⟩ : a' = a ∧ k' = (k : Int) ∧ 0 ≤ c' ∧ c' < ((4 : Nat) : Int)), if_pos hc, HA.out _ (by omega), HV.out, HF.out]
          · rw [if_neg (fun h => hc ⟨h.1, h.2.1, h.2.2.1, by omega⟩ : ¬ (a' = a ∧ k' = (k : Int) ∧ 0 ≤ c' ∧ c' < ((4 : Nat) : Int))), if_neg hc]
        rw [e] at Hm
        exact ⟨rfl, Hm, (⟨hw.os, hw.tape, hw.output, hw.size, fun k hk _ => hw.block k hk⟩ : w.grownBy wc (some h)).trans hg⟩
end Go.Proofs.Ytogbapdioccamaa
