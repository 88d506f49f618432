/- line of the model. -/
import Derived.Test.YtogbapdioccamaaE11
import Derived.Test.YtogbapdioccamaaE12
import Derived.Deep.CutBlock
namespace Go.Proofs.Ytogbapdioccamaa
open Go.RowKit
theorem LW.new0 (w : World) (cs : Array Value) : LW w ((w.alloc (.cells z10 56)).alloc (.cells cs 56)) cs :=
  ⟨(Blk.new w _ _).alloc _, Blk.new2 w _ _ _, ((Below.refl _ _).alloc (Nat.le_refl _) _).alloc (by simp) _⟩

set_option maxRecDepth 100000 in
set_option maxHeartbeats 4000000 in
theorem mline_any (A M : Option Addr) (n m b num c d : Nat) (a : Int) (xs : List It) (ms : List Int) (w : World) (hA : Sl w 6 itC A n xs) (hMs : Sl w 1 intC M m ms) (hb : b < n) (ha : -1 ≤ a ∧ a < b) (hn : n ≤ 4096) (hm : 0 < m ∧ m ≤ 4096) (hnum : num ≤ 100000)
    (hR : ∀ k, k < n → Right 31680 (gT xs k)) (hM : ∀ k, k < m → 1 ≤ gI ms k ∧ gI ms k ≤ 31680) :
    Calls Try.prog 48 #[.slice A n c, .slice M m d, .int .i64 num, .int .i64 a, .int .i64 b] w fun e w' => e = .returned (lnV (lineF xs ms a b num)) ∧ Below w.heap.size w w' := by
  obtain ⟨T, hT⟩ : ∃ T, T = lnV (lineF xs ms a b num) := ⟨_, rfl⟩
  rw [← hT]
  rw [lineF_eq] at hT
  have HT := Lib.hid hT
  clear hT
  have hlen := hA.len
  have hmem : ∀ x ∈ xs, Right 31680 x := fun x hx => by
    obtain ⟨i, hi, rfl⟩ := List.mem_iff_getElem.1 hx
    have h := hR i (by omega)
    have e : gT xs i = xs[i] := by have := gT_some hi; rw [List.getElem?_eq_getElem hi] at this; injection this with this; exact this.symm
    rw [e] at h
    exact h
  have SW : ∀ k, k ≤ n → 0 ≤ sumTo wOf xs k ∧ sumTo wOf xs k ≤ 200000000 := fun k hk => by
    have h := sumTo_bd (f := wOf) (l := xs) (M := 31680) (fun x hx => by have := (hmem x hx).w0; have := (hmem x hx).w1; unfold wOf; split <;> omega) (i := k) (by omega)
    omega
  have SY : ∀ k, k ≤ n → 0 ≤ sumTo (·.stretch) xs k ∧ sumTo (·.stretch) xs k ≤ 5000000000 := fun k hk => by
    have h := sumTo_bd (f := (·.stretch)) (l := xs) (M := 1048576) (fun x hx => ⟨(hmem x hx).y0, (hmem x hx).y1⟩) (i := k) (by omega)
    omega
  have SZ : ∀ k, k ≤ n → 0 ≤ sumTo (·.shrink) xs k ∧ sumTo (·.shrink) xs k ≤ 200000000 := fun k hk => by
    have h := sumTo_bd (f := (·.shrink)) (l := xs) (M := 31680) (fun x hx => ⟨(hmem x hx).z0, Int.le_trans (hmem x hx).z1 (hmem x hx).w1⟩) (i := k) (by omega)
    omega
  have SDY : ∀ k, k ≤ b → 0 ≤ sumTo (·.stretch) xs b - sumTo (·.stretch) xs k := fun k hk => by
    have h := sumTo_mono (f := (·.stretch)) (l := xs) (fun x hx => (hmem x hx).y0) hk (by omega)
    omega
  have SDZ : ∀ k, k ≤ b → 0 ≤ sumTo (·.shrink) xs b - sumTo (·.shrink) xs k := fun k hk => by
    have h := sumTo_mono (f := (·.shrink)) (l := xs) (fun x hx => (hmem x hx).z0) hk (by omega)
    omega
  have HSW := Lib.hid SW
  have HSY := Lib.hid SY
  have HSZ := Lib.hid SZ
  have HDY := Lib.hid SDY
  have HDZ := Lib.hid SDZ
  have HL := Lib.hid hlen
  have hml := hMs.len
  have HML := Lib.hid hml
  clear hlen hmem SW SY SZ SDY SDZ hml
  go_enter Try.func48, Try.ntmps48
  go_upto_region 1 with fail
  go_cut [11] (fun v wx => v = .pointer (some ⟨w.heap.size + 1, 0, none⟩) ∧ LW w wx #[.int .i64 0, .int .i64 b, .int .i64 b, .int .i64 (measOf ms num), .int .i64 0, .int .i64 0, .int .i64 0, .int .i64 0, .int .i64 0, .int .i64 0])
  case first => as_aux_lemma =>
    have hM2 := hMs.below ((Below.refl _ w).alloc (Nat.le_refl _) (.cells z10 56))
    unfold z10 at hM2
    by_cases hk : num ≤ m - 1
    · obtain ⟨ad, e, hl, r⟩ := hM2.int (k := num) (by omega)
      subst e
      have HM := Lib.hid (show measOf ms num = gI ms num by unfold measOf gI; rw [HML.out, Nat.min_eq_left hk])
      have h1 : (num : Int) ≤ (m : Int) - 1 := by omega
      go_wp2_with fail
      go_meet
      case rel => exact ⟨by simp, by rw [HM.out]; exact LW.new0 w _⟩
    · obtain ⟨ad, e, hl, r⟩ := hM2.int (k := m - 1) (by omega)
      subst e
      have HM := Lib.hid (show measOf ms num = gI ms (m - 1) by unfold measOf gI; rw [HML.out, Nat.min_eq_right (by omega)])
      have h1 : ¬ (num : Int) ≤ (m : Int) - 1 := by omega
      have h3 : ((m : Int) - 1) = ((m - 1 : Nat) : Int) := by omega
      go_wp2_with fail
      go_meet
      case rel => exact ⟨by simp, by rw [HM.out]; exact LW.new0 w _⟩
  case rest =>
    obtain ⟨rfl, L⟩ := hcut
    have hMb : 1 ≤ measOf ms num ∧ measOf ms num ≤ 31680 := meas_bd HML.out hm.1 hM
    generalize hMM : measOf ms num = M2 at *
    clear hMM
    go_upto_if 29 with fail
    go_cut [] (fun wx => LW w wx #[.int .i64 (fromOf xs a b : Nat), .int .i64 b, .int .i64 b, .int .i64 M2, .int .i64 0, .int .i64 0, .int .i64 0, .int .i64 0, .int .i64 0, .int .i64 0])
    case first => as_aux_lemma =>
      by_cases h0 : 0 ≤ a
      · obtain ⟨k, hk⟩ : ∃ k : Nat, a + 1 = (k : Int) := ⟨(a + 1).toNat, by omega⟩
        have hf : fromOf xs a b = min (start xs k) b := by unfold fromOf; rw [if_pos h0]; congr 2; omega
        have HF := Lib.hid hf
        clear hf
        have h0' : decide (0 ≤ a) = true := decide_eq_true h0
        have c0 : wc.cell? ⟨w.heap.size + 1, 0, none⟩ = some (.int .i64 0) := L.b1.cell 0 rfl
        have fz := L.b1.frozen 0
        have L2 := L.set 0 (.int .i64 k)
        go_wp2_with fail
        go_loopw [] (fun wr => ∃ i : Nat, i ≤ b ∧ min (start xs i) b = min (start xs k) b ∧ LW w wr #[.int .i64 i, .int .i64 b, .int .i64 b, .int .i64 M2, .int .i64 0, .int .i64 0, .int .i64 0, .int .i64 0, .int .i64 0, .int .i64 0]) (fun wr => b - (intOf ((wr.cell? ⟨w.heap.size + 1, 0, none⟩).getD undef)).toNat)
        case atStart => exact ⟨k, by omega, rfl, L2⟩
        case round =>
          obtain ⟨i, hi, hmin, L3⟩ := hrel
          clear L L2 c0 fz
          have c0 : wr.cell? ⟨w.heap.size + 1, 0, none⟩ = some (.int .i64 i) := L3.b1.cell 0 rfl
          have fz := L3.b1.frozen 0
          have hsg := start_ge xs i
          by_cases hib : i = b
          · have HX := Lib.hid (show min (start xs k) b = i by omega)
            clear hmin hsg
            subst hib
            go_wp2_with fail
            go_meet
            case rel => rw [HF.out, HX.out]; exact L3
          · have hlt : i < b := by omega
            have hst := start_lt (xs := xs) (k := i) (by rw [HL.out]; omega)
            have hA3 := hA.below L3.bw
            obtain ⟨ad, e, hl, q0, -, -, -, -, -⟩ := hA3.it (k := i) (by omega)
            subst e
            by_cases hk1 : (gT xs i).kind = 1
            · rw [if_pos (.inl hk1)] at hst
              have HX := Lib.hid (show min (start xs k) b = i by omega)
              rw [hk1] at q0
              clear hmin hsg hst
              go_wp2_with fail
              go_meet
              case rel => rw [HF.out, HX.out]; exact L3
            · have hk1' : ((gT xs i).kind != 1) = true := by simpa using hk1
              have cf := fun w h => mforced_any (some ad) n c xs (i : Int) w h
              rw [forI_at (by rw [HL.out]; omega)] at cf
              by_cases hff : (gT xs i).kind = 3 ∧ (gT xs i).cost = -10000
              · have hfi : forcedI (gT xs i) = true := by unfold forcedI; rw [hff.1, hff.2]; rfl
                rw [if_pos (.inr hfi)] at hst
                have HX := Lib.hid (show min (start xs k) b = i by omega)
                rw [decide_eq_true hff.1, decide_eq_true hff.2] at cf
                clear hmin hsg hst hff hk1
                go_wp2_with (first | (go_at_call 47; refine (cf _ hA3).mono ?_; rintro e w3 ⟨rfl, rfl⟩))
                go_meet
                case rel => rw [HF.out, HX.out]; exact L3
              · have hfi : ¬ forcedI (gT xs i) = true := by
                  unfold forcedI
                  intro h
                  simp only [Bool.and_eq_true, beq_iff_eq] at h
                  exact hff h
                rw [if_neg (by rintro (h | h); exact hk1 h; exact hfi h)] at hst
                have HX := Lib.hid (show min (start xs (i + 1)) b = min (start xs k) b by rw [← hst]; exact hmin)
                have hcf : (decide ((gT xs i).kind = 3) && decide ((gT xs i).cost = -10000)) = false := by
                  by_cases h3 : (gT xs i).kind = 3
                  · have h4 : ¬ (gT xs i).cost = -10000 := fun h => hff ⟨h3, h⟩
                    rw [decide_eq_false h4, Bool.and_false]
                  · rw [decide_eq_false h3]; rfl
                rw [hcf] at cf
                have L4 := L3.set 0 (.int .i64 (i + 1 : Nat))
                have HL4 := Lib.hid L4
                clear hmin hsg hst hff hk1 hcf L4
                go_wp2_with (first | (go_at_call 47; refine (cf _ hA3).mono ?_; rintro e w3 ⟨rfl, rfl⟩))
                go_roundw
                case rel => exact ⟨i + 1, by omega, HX.out, HL4.out⟩
                case measure =>
                  have e1 := HL4.out.b1.cell 0 rfl
                  rw [show ((i + 1 : Nat) : Int) = (i : Int) + 1 from rfl] at e1
                  rw [c0]
                  simp [e1, intOf]
                  omega
      · have hf : fromOf xs a b = 0 := by unfold fromOf; rw [if_neg h0]
        have HF := Lib.hid hf
        clear hf
        have h0' : decide (0 ≤ a) = false := decide_eq_false h0
        go_wp2_with fail
        go_meet
        case rel => rw [HF.out]; exact L
    case rest =>
      have hfb := fromOf_le xs a b
      generalize fromOf xs a b = f at *
      clear L
      have L := hcut
      clear hcut
      have c0 : wc.cell? ⟨w.heap.size + 1, 0, none⟩ = some (.int .i64 f) := L.b1.cell 0 rfl
      go_wp2_with fail
      go_loopw [12, 13, 14] (fun vy vz vi wr => ∃ i : Nat, f ≤ i ∧ i ≤ b ∧ vi = .int .i64 i ∧ vy = .int .i64 (sumTo (·.stretch) xs i - sumTo (·.stretch) xs f) ∧ vz = .int .i64 (sumTo (·.shrink) xs i - sumTo (·.shrink) xs f) ∧ LW w wr #[.int .i64 f, .int .i64 b, .int .i64 b, .int .i64 M2, .int .i64 (sumTo wOf xs i - sumTo wOf xs f), .int .i64 0, .int .i64 0, .int .i64 0, .int .i64 0, .int .i64 0]) (fun _ _ vi _ => b - (intOf vi).toNat)
      case atStart => exact ⟨f, Nat.le_refl _, hfb, rfl, by rw [Int.sub_self], by rw [Int.sub_self], by rw [Int.sub_self]; exact L⟩
      case round =>
        obtain ⟨i, hfi, hib, rfl, rfl, rfl, L3⟩ := hrel
        clear L c0
        by_cases hlt : i < b
        · obtain ⟨ad, e, hAB, -⟩ := hA.it (k := i) (by omega)
          subst e
          obtain ⟨ad', e, hl, q0, q1, q2, q3, -, -⟩ := (hA.below L3.bw).it (k := i) (by omega)
          injection e with e
          subst e
          have RI := hR i (by omega)
          have w1 := HSW.out i (by omega)
          have w2 := HSW.out f (by omega)
          have y1 := HSY.out i (by omega)
          have y2 := HSY.out f (by omega)
          have z1 := HSZ.out i (by omega)
          have z2 := HSZ.out f (by omega)
          have eW : sumTo wOf xs (i + 1) = sumTo wOf xs i + wOf (gT xs i) := rfl
          have eY : sumTo (·.stretch) xs (i + 1) = sumTo (·.stretch) xs i + (gT xs i).stretch := rfl
          have eZ : sumTo (·.shrink) xs (i + 1) = sumTo (·.shrink) xs i + (gT xs i).shrink := rfl
          have HW := Lib.hid eW
          have HY := Lib.hid eY
          have HZ := Lib.hid eZ
          clear eW eY eZ
          by_cases h3 : (gT xs i).kind = 3
          · have h0 := RI.noG (by omega)
            have e0 : wOf (gT xs i) = 0 := if_pos h3
            have E0 := Lib.hid e0
            have E1 := Lib.hid h0
            rw [h3] at q0
            clear e0 h0 RI
            go_wp2_with fail
            go_roundw
            case rel =>
              refine ⟨i + 1, by omega, by omega, by go_num, by rw [HY.out, E1.out.1, Int.add_zero], by rw [HZ.out, E1.out.2, Int.add_zero], ?_⟩
              rw [HW.out, E0.out, Int.add_zero]
              exact L3
            case measure => simp [intOf]; omega
          · have h3' : ((gT xs i).kind != 3) = true := by simpa using h3
            have E0 := Lib.hid (show wOf (gT xs i) = (gT xs i).width from if_neg h3)
            have g1 := RI.w0
            have g2 := RI.w1
            have g3 := RI.y0
            have g4 := RI.y1
            have g5 := RI.z0
            have g6 := RI.z1
            have hbk : ad.block < w.heap.size := hAB
            have hbk2 : (ad.add (i * 6)).block < w.heap.size := by rw [block_add]; exact hbk
            have K : ∀ u : Value, ∀ (p : Addr) (v : Value), p.block < w.heap.size → wr.cell? p = some v → (wr.setCell ⟨w.heap.size + 1, 4, none⟩ u).cell? p = some v := fun u p v hp hv => by
              rw [← hv]
              exact World.cell?_of_block (Below.heap_setCell wr _ u p.block (fun e => by have : p.block = w.heap.size + 1 := e; omega))
            have q20 := K (.int .i64 (sumTo wOf xs i - sumTo wOf xs f + (gT xs i).width)) _ _ (by exact hbk2) q2
            have q30 := K (.int .i64 (sumTo wOf xs i - sumTo wOf xs f + (gT xs i).width)) _ _ (by exact hbk2) q3
            have q10 := K (.int .i64 (sumTo wOf xs i - sumTo wOf xs f + (gT xs i).width)) _ _ (by exact hbk2) q1
            clear K
            have c4 : wr.cell? ⟨w.heap.size + 1, 4, none⟩ = some (.int .i64 (sumTo wOf xs i - sumTo wOf xs f)) := L3.b1.cell 4 rfl
            have fz := L3.b1.frozen 4
            have L4 := Lib.hid (L3.set 4 (.int .i64 (sumTo wOf xs i - sumTo wOf xs f + (gT xs i).width)))
            clear RI h3 L3 hR
            generalize gT xs i = it at *
            generalize sumTo wOf xs i = s1 at *
            generalize sumTo wOf xs f = s2 at *
            generalize sumTo (·.stretch) xs i = s3 at *
            generalize sumTo (·.stretch) xs f = s4 at *
            generalize sumTo (·.shrink) xs i = s5 at *
            generalize sumTo (·.shrink) xs f = s6 at *
            go_wp2_with fail
            go_region
            all_goals go_wp2_with fail
            all_goals go_roundw
            case rel =>
              refine ⟨i + 1, by omega, by omega, by go_num, by rw [HY.out]; congr 1; omega, by rw [HZ.out]; congr 1; omega, ?_⟩
              rw [HW.out, E0.out, show s1 + it.width - s2 = s1 - s2 + it.width by omega]
              exact L4.out.drewN 1
            case measure => simp [intOf]; omega
        · have hib2 : b = i := by omega
          subst hib2
          have w1 := HSW.out b (by omega)
          have w2 := HSW.out f (by omega)
          have y1 := HSY.out b (by omega)
          have y2 := HSY.out f (by omega)
          have z1 := HSZ.out b (by omega)
          have z2 := HSZ.out f (by omega)
          have y3 := HDY.out f hfb
          have z3 := HDZ.out f hfb
          have HRb := hR b hb
          obtain ⟨ad, e, hl, q0, q1, -, -, -, -⟩ := (hA.below L3.bw).it hb
          subst e
          have L := L3
          clear L3 hfi hib hlt
          go_upto_if 98 with fail
          go_cut [] (fun wx => LW w wx #[.int .i64 f, .int .i64 b, .int .i64 b, .int .i64 M2, .int .i64 (widthOf xs f b), .int .i64 0, .int .i64 0, .int .i64 0, .int .i64 0, .int .i64 0])
          case first => as_aux_lemma =>
            by_cases h3 : (gT xs b).kind = 3
            · have HW := Lib.hid (show widthOf xs f b = sumTo wOf xs b - sumTo wOf xs f + (gT xs b).width by unfold widthOf; rw [if_pos h3])
              rw [h3]
              have g1 := HRb.w0
              have g2 := HRb.w1
              have c4 : wr.cell? ⟨w.heap.size + 1, 4, none⟩ = some (.int .i64 (sumTo wOf xs b - sumTo wOf xs f)) := L.b1.cell 4 rfl
              have fz := L.b1.frozen 4
              have L2 := Lib.hid (L.set 4 (.int .i64 (sumTo wOf xs b - sumTo wOf xs f + (gT xs b).width)))
              clear L
              go_wp2_with fail
              go_region
              all_goals go_wp2_with fail
              all_goals go_meet
              all_goals (rw [HW.out]; exact L2.out.drewN 1)
            · have HW := Lib.hid (show widthOf xs f b = sumTo wOf xs b - sumTo wOf xs f by unfold widthOf; rw [if_neg h3]; omega)
              have h3' : ((gT xs b).kind == 3) = false := by simpa using h3
              go_wp2_with fail
              go_meet
              case rel => rw [HW.out]; exact L
          case rest =>
            clear L q0 q1
            have L := hcut
            clear hcut
            have hWb : -200000000 ≤ widthOf xs f b ∧ widthOf xs f b ≤ 200040000 := by
              have := HRb.w0
              have := HRb.w1
              unfold widthOf
              split <;> omega
            generalize widthOf xs f b = Wd at *
            have hyb : sumTo (·.stretch) xs b - sumTo (·.stretch) xs f ≤ 5000000000 := by omega
            have hzb : sumTo (·.shrink) xs b - sumTo (·.shrink) xs f ≤ 200000000 := by omega
            generalize sumTo (·.stretch) xs b - sumTo (·.stretch) xs f = Y at *
            generalize sumTo (·.shrink) xs b - sumTo (·.shrink) xs f = Z at *
            clear w1 w2 y1 y2 z1 z2 HRb
            have hdb : -300000000 ≤ M2 - Wd ∧ M2 - Wd ≤ 300000000 := by omega
            have c3 : wc.cell? ⟨w.heap.size + 1, 3, none⟩ = some (.int .i64 M2) := L.b1.cell 3 rfl
            have c4 : wc.cell? ⟨w.heap.size + 1, 4, none⟩ = some (.int .i64 Wd) := L.b1.cell 4 rfl
            generalize hd : M2 - Wd = d at *
            have hrb := ratio_bd (d := d) y3 z3
            go_upto_block 4 with fail
            go_cut [] (fun wx => LW w wx #[.int .i64 f, .int .i64 b, .int .i64 b, .int .i64 M2, .int .i64 Wd, .int .i64 (ratioOf d Y Z), .int .i64 0, .int .i64 0, .int .i64 (overOf d Z), .int .i64 0])
            case first => as_aux_lemma =>
              have fz := L.b1.frozen 5
              have fz8 := L.b1.frozen 8
              have c5 : wc.cell? ⟨w.heap.size + 1, 5, none⟩ = some (.int .i64 0) := L.b1.cell 5 rfl
              have c8 : wc.cell? ⟨w.heap.size + 1, 8, none⟩ = some (.int .i64 0) := L.b1.cell 8 rfl
              by_cases d1 : 0 < d
              · have d1' : decide (0 < d) = true := decide_eq_true d1
                have H3 := Lib.hid (show overOf d Z = 0 from if_neg (by omega))
                by_cases hY : Y = 0
                · subst hY
                  have H1 := Lib.hid (show ratioOf d 0 Z = 10000 by unfold ratioOf; rw [if_neg (by omega), if_pos ⟨d1, rfl⟩])
                  have L5 := L.set 5 (.int .i64 10000)
                  clear d1
                  go_wp2_with fail
                  go_meet
                  case rel => rw [H1.out, H3.out]; exact L5
                · have hY' : (Y == 0) = false := by simpa using hY
                  have H1 := Lib.hid (show ratioOf d Y Z = min (d * 1000 / Y) 10000 by unfold ratioOf; rw [if_neg (by omega), if_neg (by omega), if_pos d1])
                  by_cases hq : d * 1000 / Y ≤ 10000
                  · have L5 := L.set 5 (.int .i64 (d * 1000 / Y))
                    have H4 := Lib.hid (show min (d * 1000 / Y) 10000 = d * 1000 / Y from Int.min_eq_left hq)
                    go_wp2_with fail
                    go_meet
                    case rel => rw [H1.out, H3.out, H4.out]; exact L5
                  · have L5 := L.set 5 (.int .i64 10000)
                    have H4 := Lib.hid (show min (d * 1000 / Y) 10000 = 10000 from Int.min_eq_right (by omega))
                    go_wp2_with fail
                    go_meet
                    case rel => rw [H1.out, H3.out, H4.out]; exact L5
              · have d1' : decide (0 < d) = false := decide_eq_false d1
                by_cases d0 : d < 0
                · have d0' : decide (d < 0) = true := decide_eq_true d0
                  by_cases hz : -d ≤ Z
                  · have hz' : decide (-d ≤ Z) = true := decide_eq_true hz
                    have H1 := Lib.hid (show ratioOf d Y Z = -(-d * 1000 / Z) by unfold ratioOf; rw [if_neg (by omega), if_neg (by omega), if_neg d1, if_pos hz])
                    have H3 := Lib.hid (show overOf d Z = 0 from if_neg (by omega))
                    have L5 := L.set 5 (.int .i64 (-(-d * 1000 / Z)))
                    have q1 : 0 ≤ -d * 1000 / Z := Int.ediv_nonneg (by omega) (by omega)
                    have q2 : -d * 1000 / Z ≤ 1000 := Int.ediv_le_of_le_mul (by omega) (by omega)
                    go_wp2_with fail
                    go_meet
                    case rel => rw [H1.out, H3.out]; exact L5
                  · have hz' : decide (-d ≤ Z) = false := decide_eq_false hz
                    have H1 := Lib.hid (show ratioOf d Y Z = -1000 by unfold ratioOf; rw [if_neg (by omega), if_neg (by omega), if_neg d1, if_neg hz])
                    have H3 := Lib.hid (show overOf d Z = -d - Z from if_pos (by omega))
                    have L5 := (L.set 5 (.int .i64 (-1000))).set 8 (.int .i64 (-d - Z))
                    go_wp2_with fail
                    go_meet
                    case rel => rw [H1.out, H3.out]; exact L5
                · have d0' : decide (d < 0) = false := decide_eq_false d0
                  have e0 : d = 0 := by omega
                  have H1 := Lib.hid (show ratioOf d Y Z = 0 by unfold ratioOf; rw [if_pos e0])
                  have H3 := Lib.hid (show overOf d Z = 0 from if_neg (by omega))
                  clear e0
                  go_wp2_with fail
                  go_meet
                  case rel => rw [H1.out, H3.out]; exact L
            case rest =>
              clear L c3 c4 hd
              have L := hcut
              clear hcut
              have HB : ¬ 0 < overOf d Z → badOf d Z (ratioOf d Y Z) = min 10000 (max (ratioOf d Y Z) (-ratioOf d Y Z) * max (ratioOf d Y Z) (-ratioOf d Y Z) * max (ratioOf d Y Z) (-ratioOf d Y Z) / 10000000) := fun h => by
                unfold overOf at h
                unfold badOf
                split at h
                · omega
                · rw [if_neg (by assumption), Int.min_comm]
              have HC : 0 < overOf d Z → badOf d Z (ratioOf d Y Z) = 10000 := fun h => by
                unfold overOf at h
                unfold badOf
                split at h
                · rw [if_pos (by assumption)]
                · omega
              generalize ratioOf d Y Z = r at *
              generalize badOf d Z r = bo at *
              generalize overOf d Z = o at *
              have c5 : wc.cell? ⟨w.heap.size + 1, 5, none⟩ = some (.int .i64 r) := L.b1.cell 5 rfl
              go_upto_region 24 with fail
              go_cut [16] (fun v wx => v = .int .i64 (max r (-r)) ∧ wx = wc)
              case first => as_aux_lemma =>
                by_cases r0 : 0 ≤ r
                · have HX := Lib.hid (show max r (-r) = r from Int.max_eq_left (by omega))
                  clear HB HC
                  go_wp2_with fail
                  all_goals go_meet
                  all_goals exact ⟨by rw [HX.out], rfl⟩
                · have HX := Lib.hid (show max r (-r) = -r from Int.max_eq_right (by omega))
                  clear HB HC
                  go_wp2_with fail
                  all_goals go_meet
                  all_goals exact ⟨by rw [HX.out], rfl⟩
              case rest =>
                obtain ⟨rfl, rfl⟩ := hcut
                have ht : 0 ≤ max r (-r) ∧ max r (-r) ≤ 10000 := by omega
                generalize max r (-r) = t at *
                have m1 : 0 ≤ t * t := Int.mul_nonneg (by omega) (by omega)
                have m2 : t * t ≤ 10000 * 10000 := Int.mul_le_mul (by omega) (by omega) (by omega) (by omega)
                have m3 : 0 ≤ t * t * t := Int.mul_nonneg (by omega) (by omega)
                have m4 : t * t * t ≤ 10000 * 10000 * 10000 := Int.mul_le_mul (by omega) (by omega) (by omega) (by omega)
                have HB2 := Lib.hid HB
                have HC2 := Lib.hid HC
                clear HB HC
                have c7 : wc.cell? ⟨w.heap.size + 1, 7, none⟩ = some (.int .i64 0) := L.b1.cell 7 rfl
                have fz7 := L.b1.frozen 7
                go_upto_region 25 with fail
                go_cut [] (fun wx => LW w wx #[.int .i64 f, .int .i64 b, .int .i64 b, .int .i64 M2, .int .i64 Wd, .int .i64 r, .int .i64 0, .int .i64 (min 10000 (t * t * t / 10000000)), .int .i64 o, .int .i64 0])
                case first => as_aux_lemma =>
                  by_cases hq : t * t * t / 10000000 ≤ 10000
                  · have L5 := L.set 7 (.int .i64 (t * t * t / 10000000))
                    have H4 := Lib.hid (show min 10000 (t * t * t / 10000000) = t * t * t / 10000000 from Int.min_eq_right hq)
                    go_wp2_with fail
                    all_goals go_meet
                    all_goals first
                      | (rw [H4.out]; exact L5)
                      | (have e : t * t * t / 10000000 = 10000 := by omega
                         rw [H4.out, e]
                         rw [e] at L5
                         exact L5)
                  · have L5 := L.set 7 (.int .i64 10000)
                    have H4 := Lib.hid (show min 10000 (t * t * t / 10000000) = 10000 from Int.min_eq_left (by omega))
                    go_wp2_with fail
                    all_goals go_meet
                    all_goals (rw [H4.out]; exact L5)
                case rest =>
                  clear L c7 fz7 m1 m2 m3 m4
                  have L := hcut
                  clear hcut
                  generalize min 10000 (t * t * t / 10000000) = bb at *
                  have c7 : wc.cell? ⟨w.heap.size + 1, 7, none⟩ = some (.int .i64 bb) := L.b1.cell 7 rfl
                  have c8 : wc.cell? ⟨w.heap.size + 1, 8, none⟩ = some (.int .i64 o) := L.b1.cell 8 rfl
                  have fz7 := L.b1.frozen 7
                  go_upto_if 171 with fail
                  go_cut [] (fun wx => LW w wx #[.int .i64 f, .int .i64 b, .int .i64 b, .int .i64 M2, .int .i64 Wd, .int .i64 r, .int .i64 0, .int .i64 bo, .int .i64 o, .int .i64 0])
                  case first => as_aux_lemma =>
                    by_cases o0 : 0 < o
                    · have H1 := Lib.hid (HC2.out o0)
                      have o0' : decide (0 < o) = true := decide_eq_true o0
                      have L5 := L.set 7 (.int .i64 10000)
                      go_wp2_with fail
                      go_meet
                      case rel => rw [H1.out]; exact L5
                    · have H1 := Lib.hid (HB2.out o0)
                      have o0' : decide (0 < o) = false := decide_eq_false o0
                      go_wp2_with fail
                      go_meet
                      case rel => rw [H1.out]; exact L
                  case rest =>
                    clear L c5 c7 c8 fz7
                    have L := hcut
                    clear hcut
                    have c5 : wc.cell? ⟨w.heap.size + 1, 5, none⟩ = some (.int .i64 r) := L.b1.cell 5 rfl
                    have c6 : wc.cell? ⟨w.heap.size + 1, 6, none⟩ = some (.int .i64 0) := L.b1.cell 6 rfl
                    have fz6 := L.b1.frozen 6
                    go_upto_block 5 with fail
                    go_cut [] (fun wx => LW w wx #[.int .i64 f, .int .i64 b, .int .i64 b, .int .i64 M2, .int .i64 Wd, .int .i64 r, .int .i64 (clsOf r), .int .i64 bo, .int .i64 o, .int .i64 0])
                    case first => as_aux_lemma =>
                      by_cases k1 : r < -500
                      · have H1 := Lib.hid (show clsOf r = 0 from if_pos k1)
                        have k1' : decide (r < -500) = true := decide_eq_true k1
                        have L5 := L.set 6 (.int .i64 0)
                        go_wp2_with fail
                        go_meet
                        case rel => rw [H1.out]; exact L5
                      have k1' : decide (r < -500) = false := decide_eq_false k1
                      by_cases k2 : r ≤ 500
                      · have H1 := Lib.hid (show clsOf r = 1 by unfold clsOf; rw [if_neg k1, if_pos k2])
                        have k2' : decide (r ≤ 500) = true := decide_eq_true k2
                        have L5 := L.set 6 (.int .i64 1)
                        go_wp2_with fail
                        go_meet
                        case rel => rw [H1.out]; exact L5
                      have k2' : decide (r ≤ 500) = false := decide_eq_false k2
                      by_cases k3 : r ≤ 1000
                      · have H1 := Lib.hid (show clsOf r = 2 by unfold clsOf; rw [if_neg k1, if_neg k2, if_pos k3])
                        have k3' : decide (r ≤ 1000) = true := decide_eq_true k3
                        have L5 := L.set 6 (.int .i64 2)
                        go_wp2_with fail
                        go_meet
                        case rel => rw [H1.out]; exact L5
                      · have k3' : decide (r ≤ 1000) = false := decide_eq_false k3
                        have H1 := Lib.hid (show clsOf r = 3 by unfold clsOf; rw [if_neg k1, if_neg k2, if_neg k3])
                        have L5 := L.set 6 (.int .i64 3)
                        go_wp2_with fail
                        go_meet
                        case rel => rw [H1.out]; exact L5
                    case rest =>
                      clear L c5 c6 fz6
                      have L := hcut
                      clear hcut
                      generalize clsOf r = cl at *
                      have c0 : wc.cell? ⟨w.heap.size + 1, 0, none⟩ = some (.int .i64 f) := L.b1.cell 0 rfl
                      have c1 : wc.cell? ⟨w.heap.size + 1, 1, none⟩ = some (.int .i64 b) := L.b1.cell 1 rfl
                      have c2 : wc.cell? ⟨w.heap.size + 1, 2, none⟩ = some (.int .i64 b) := L.b1.cell 2 rfl
                      have c3 : wc.cell? ⟨w.heap.size + 1, 3, none⟩ = some (.int .i64 M2) := L.b1.cell 3 rfl
                      have c4 : wc.cell? ⟨w.heap.size + 1, 4, none⟩ = some (.int .i64 Wd) := L.b1.cell 4 rfl
                      have c5 : wc.cell? ⟨w.heap.size + 1, 5, none⟩ = some (.int .i64 r) := L.b1.cell 5 rfl
                      have c6 : wc.cell? ⟨w.heap.size + 1, 6, none⟩ = some (.int .i64 cl) := L.b1.cell 6 rfl
                      have c7 : wc.cell? ⟨w.heap.size + 1, 7, none⟩ = some (.int .i64 bo) := L.b1.cell 7 rfl
                      have c8 : wc.cell? ⟨w.heap.size + 1, 8, none⟩ = some (.int .i64 o) := L.b1.cell 8 rfl
                      have c9 : wc.cell? ⟨w.heap.size + 1, 9, none⟩ = some (.int .i64 0) := L.b1.cell 9 rfl
                      have z10 : wc.cell? ⟨w.heap.size, 0, none⟩ = some (.int .i64 0) := L.b0.cell 0 rfl
                      have fz0 := L.b0.frozen 0
                      have z11 : wc.cell? ⟨w.heap.size, 1, none⟩ = some (.int .i64 0) := L.b0.cell 1 rfl
                      have fz1 := L.b0.frozen 1
                      have z12 : wc.cell? ⟨w.heap.size, 2, none⟩ = some (.int .i64 0) := L.b0.cell 2 rfl
                      have fz2 := L.b0.frozen 2
                      have z13 : wc.cell? ⟨w.heap.size, 3, none⟩ = some (.int .i64 0) := L.b0.cell 3 rfl
                      have fz3 := L.b0.frozen 3
                      have z14 : wc.cell? ⟨w.heap.size, 4, none⟩ = some (.int .i64 0) := L.b0.cell 4 rfl
                      have fz4 := L.b0.frozen 4
                      have z15 : wc.cell? ⟨w.heap.size, 5, none⟩ = some (.int .i64 0) := L.b0.cell 5 rfl
                      have fz5 := L.b0.frozen 5
                      have z16 : wc.cell? ⟨w.heap.size, 6, none⟩ = some (.int .i64 0) := L.b0.cell 6 rfl
                      have fz6 := L.b0.frozen 6
                      have z17 : wc.cell? ⟨w.heap.size, 7, none⟩ = some (.int .i64 0) := L.b0.cell 7 rfl
                      have fz7 := L.b0.frozen 7
                      have z18 : wc.cell? ⟨w.heap.size, 8, none⟩ = some (.int .i64 0) := L.b0.cell 8 rfl
                      have fz8 := L.b0.frozen 8
                      have z19 : wc.cell? ⟨w.heap.size, 9, none⟩ = some (.int .i64 0) := L.b0.cell 9 rfl
                      have fz9 := L.b0.frozen 9
                      have R0 : LR w wc #[.int .i64 0, .int .i64 0, .int .i64 0, .int .i64 0, .int .i64 0, .int .i64 0, .int .i64 0, .int .i64 0, .int .i64 0, .int .i64 0] := ⟨L.b0, L.bw⟩
                      have R1 : LR w _ #[.int .i64 f, .int .i64 0, .int .i64 0, .int .i64 0, .int .i64 0, .int .i64 0, .int .i64 0, .int .i64 0, .int .i64 0, .int .i64 0] := R0.set 0 (.int .i64 f)
                      have R2 : LR w _ #[.int .i64 f, .int .i64 b, .int .i64 0, .int .i64 0, .int .i64 0, .int .i64 0, .int .i64 0, .int .i64 0, .int .i64 0, .int .i64 0] := R1.set 1 (.int .i64 b)
                      have R3 : LR w _ #[.int .i64 f, .int .i64 b, .int .i64 b, .int .i64 0, .int .i64 0, .int .i64 0, .int .i64 0, .int .i64 0, .int .i64 0, .int .i64 0] := R2.set 2 (.int .i64 b)
                      have R4 : LR w _ #[.int .i64 f, .int .i64 b, .int .i64 b, .int .i64 M2, .int .i64 0, .int .i64 0, .int .i64 0, .int .i64 0, .int .i64 0, .int .i64 0] := R3.set 3 (.int .i64 M2)
                      have R5 : LR w _ #[.int .i64 f, .int .i64 b, .int .i64 b, .int .i64 M2, .int .i64 Wd, .int .i64 0, .int .i64 0, .int .i64 0, .int .i64 0, .int .i64 0] := R4.set 4 (.int .i64 Wd)
                      have R6 : LR w _ #[.int .i64 f, .int .i64 b, .int .i64 b, .int .i64 M2, .int .i64 Wd, .int .i64 r, .int .i64 0, .int .i64 0, .int .i64 0, .int .i64 0] := R5.set 5 (.int .i64 r)
                      have R7 : LR w _ #[.int .i64 f, .int .i64 b, .int .i64 b, .int .i64 M2, .int .i64 Wd, .int .i64 r, .int .i64 cl, .int .i64 0, .int .i64 0, .int .i64 0] := R6.set 6 (.int .i64 cl)
                      have R8 : LR w _ #[.int .i64 f, .int .i64 b, .int .i64 b, .int .i64 M2, .int .i64 Wd, .int .i64 r, .int .i64 cl, .int .i64 bo, .int .i64 0, .int .i64 0] := R7.set 7 (.int .i64 bo)
                      have R9 : LR w _ #[.int .i64 f, .int .i64 b, .int .i64 b, .int .i64 M2, .int .i64 Wd, .int .i64 r, .int .i64 cl, .int .i64 bo, .int .i64 o, .int .i64 0] := R8.set 8 (.int .i64 o)
                      have R10 : LR w _ #[.int .i64 f, .int .i64 b, .int .i64 b, .int .i64 M2, .int .i64 Wd, .int .i64 r, .int .i64 cl, .int .i64 bo, .int .i64 o, .int .i64 0] := R9.set 9 (.int .i64 0)
                      clear R0 R1 R2 R3 R4 R5 R6 R7 R8 R9
                      clear L
                      go_wp2_with fail
                      refine bodyPost_ret (v := T) ?_ rfl ⟨rfl, R10.bw⟩
                      rw [HT.out]
                      exact results_cell_row rfl _ _ w.heap.size 56 _ (0, 0) _ rfl R10.b0 Try.underlying56 rfl (by kernel_rfl)
end Go.Proofs.Ytogbapdioccamaa
