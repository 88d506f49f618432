/- The walk of the law TotalfitScales. -/
import Derived.Test.YtogbapdioccamaaE49
import Derived.Test.YtogbapdioccamaaE46
import Derived.Deep.CutBlock
namespace Go.Proofs.Ytogbapdioccamaa
open Go.RowKit

set_option maxRecDepth 100000 in
theorem Lines_good (A M B : Option Addr) (n m K c d cB : Nat) (bl : List Nat) (xs : List It) (ms : List Int) (w : World) (ha : Sl w 6 itC A n xs) (hm : Sl w 1 intC M m ms) (hB : Sl w 1 intC B K (ints bl)) (hn : n ≤ 4096) (hmm : m ≤ 4096) (hK : K ≤ 4096)
    (h0 : chkB xs ms = 0) (hb : BrOk xs n bl) :
    Calls Try.prog 30 #[.slice A n c, .slice M m d, .slice B K cB] w fun e w' => ∃ A' c', e = .returned (.tuple #[.slice A' K c', .int .i64 0]) ∧ Sl w' 10 lnC A' K (linesN xs ms bl K) ∧ Below w.heap.size w w' :=
  (Lines_any prepOk A M B n m K c d cB (ints bl) xs ms w ha hm hB hn hmm hK h0).mono fun e w' h => by
    rcases h with ⟨h1, _⟩ | ⟨_, bl', A', c', h2, h3, h4, h5, h6⟩
    · exact absurd (brk_ok hb) h1
    · have e1 : bl = bl' := by rw [← tn_ints bl, h2, tn_ints]
      subst e1
      exact ⟨A', c', h4, h5.sl lnC_len, h6⟩
theorem map_take_snoc {f : Int} {xs : List It} {k : Nat} (h : k < xs.length) : (xs.map (scI f)).take (k + 1) = (xs.map (scI f)).take k ++ [scI f (gT xs k)] := by
  rw [List.take_add_one, List.getElem?_map, gT_some h]
  rfl
theorem mapI_take_snoc {f : Int} {ms : List Int} {k : Nat} (h : k < ms.length) : (ms.map (f * ·)).take (k + 1) = (ms.map (f * ·)).take k ++ [f * gI ms k] := by
  rw [List.take_add_one, List.getElem?_map, gI_some h]
  rfl
theorem mul_bd {f a M : Int} (h1 : 1 ≤ f) (h2 : f ≤ 5) (h3 : 0 ≤ a) (h4 : a ≤ M) : 0 ≤ f * a ∧ f * a ≤ 5 * M :=
  ⟨Int.mul_nonneg (by omega) h3, Int.le_trans (Int.mul_le_mul_of_nonneg_right h2 h3) (Int.mul_le_mul_of_nonneg_left h4 (by omega))⟩

set_option maxRecDepth 100000 in
set_option maxHeartbeats 4000000 in
theorem law_scales (A B : Option Addr) (n c m d : Nat) (mu : Int) (xs : List It) (ms : List Int) (w : World) (ha : Sl w 6 itC A n xs) (hb : Sl w 1 intC B m ms) (hn : n ≤ c ∧ c ≤ maxLen) (hm : m ≤ d ∧ d ≤ maxLen) (hmu : 0 ≤ mu ∧ mu ≤ 255) :
    Calls Try.prog 7 #[.slice A n c, .slice B m d, .int .u8 mu] w fun e w' => e = .returned (.bool true) ∧ Below w.heap.size w w' := by
  have c1 := fun W => cut_any A n c W hn.1 hn.2
  have c2 := fun W => few_any B m d W hm.1 hm.2
  have ha' := ha.take (k := min n 60) (Nat.min_le_left _ _)
  have hb' := hb.take (k := min m 10) (Nat.min_le_left _ _)
  have h60 : min n 60 ≤ 60 := Nat.min_le_right _ _
  have h10 : min m 10 ≤ 10 := Nat.min_le_right _ _
  generalize xs.take (min n 60) = xs' at *
  generalize ms.take (min m 10) = ms' at *
  generalize min n 60 = n' at *
  generalize min m 10 = m' at *
  have hxl := ha'.len
  have hml := hb'.len
  have kb := fun W h1 h2 => both_any A B n' m' c d xs' ms' W h1 h2 (by omega) (by omega)
  clear ha hb hn hm
  have hbw := Below.refl w.heap.size w
  by_cases h0 : chkB xs' ms' = 0
  · have G := chkB_good hxl hml (by omega) h0
    rw [h0] at kb
    have hF : 1 ≤ 1 + mu % 5 ∧ 1 + mu % 5 ≤ 5 := by omega
    generalize hFF : 1 + mu % 5 = F at *
    have hxl2 : (xs'.map (scI F)).length = n' := by rw [List.length_map]; exact hxl
    have hml2 : (ms'.map (F * ·)).length = m' := by rw [List.length_map]; exact hml
    have HTX := Lib.hid (fun k (hk : k < n') => map_take_snoc (f := F) (xs := xs') (k := k) (by omega))
    have HTM := Lib.hid (fun k (hk : k < m') => mapI_take_snoc (f := F) (ms := ms') (k := k) (by omega))
    have HEX := Lib.hid (show (xs'.map (scI F)).take n' = xs'.map (scI F) by rw [← hxl2, List.take_length])
    have HEM := Lib.hid (show (ms'.map (F * ·)).take m' = ms'.map (F * ·) by rw [← hml2, List.take_length])
    have HFF := Lib.hid hFF
    have HXL := Lib.hid hxl
    have HML := Lib.hid hml
    have HXL2 := Lib.hid hxl2
    have HML2 := Lib.hid hml2
    have H0 := Lib.hid h0
    clear h0 hxl hml hxl2 hml2
    go_enter Try.func7, Try.ntmps7
    go_upto_region 4 with (first
      | (go_at_call 12; refine (c1 _).mono ?_; rintro e w1 ⟨rfl, rfl⟩)
      | (go_at_call 13; refine (c2 _).mono ?_; rintro e w1 ⟨rfl, rfl⟩)
      | (go_at_call 14; refine (known_of prepOk _).mono ?_; rintro e w2 ⟨rfl, h9⟩; have hbw := below_trans' hbw hbw.size h9)
      | (go_at_call 24; refine (kb _ (ha'.below hbw) (hb'.below hbw)).mono ?_; rintro e w3 ⟨rfl, h9⟩; have hbw := below_trans' hbw hbw.size h9))
    clear hFF
    have hmu2 : 0 ≤ mu % 5 ∧ mu % 5 < 5 := by omega
    go_wp2_with fail
    rw [HFF.out]
    have ha3 := ha'.below hbw
    have hb3 := hb'.below hbw
    clear HFF hmu2 c1 c2 kb
    go_loopw [8, 9] (fun vo vi wr => ∃ (k : Nat) (A1 : Option Addr) (c1 : Nat), k ≤ n' ∧ vi = .int .i64 k ∧ vo = .slice A1 k c1 ∧ Own wr w3.heap.size 52 6 itC A1 k c1 ((xs'.map (scI F)).take k) ∧ Below w3.heap.size w3 wr) (fun _ vi _ => n' - (intOf vi).toNat)
    case atStart => exact ⟨0, none, 0, Nat.zero_le _, rfl, rfl, Own.nil_ _ _ _ _ _, Below.refl _ _⟩
    case round =>
      obtain ⟨k, A1, c1, hk, rfl, rfl, ho, hbr⟩ := hrel
      by_cases hlt : k < n'
      · obtain ⟨ad, rfl, hl2, k0, k1, k2, k3, k4, k5⟩ := (ha3.below hbr).it hlt
        have R := G.R k hlt
        have HT := Lib.hid (HTX.out k hlt)
        have w1 := mul_bd hF.1 hF.2 R.w0 R.w1
        have y1 := mul_bd hF.1 hF.2 R.y0 R.y1
        have z1 := mul_bd hF.1 hF.2 R.z0 (Int.le_trans R.z1 R.w1)
        obtain ⟨x, hx⟩ : ∃ x, x = gT xs' k := ⟨_, rfl⟩
        rw [← hx] at k0 k1 k2 k3 k4 k5 HT w1 y1 z1
        clear R hx
        obtain ⟨xk, xw, xy, xz, xc, xf⟩ := x
        simp only at k0 k1 k2 k3 k4 k5 w1 y1 z1
        generalize (xs'.map (scI F)).take k = P at *
        go_upto_region 9 with fail
        go_cut [10] (fun v wx => ∃ p, v = .pointer (some ⟨p, 0, none⟩) ∧ wr.heap.size ≤ p ∧ Blk wx p 52 #[.int .i64 xk, .int .i64 xw, .int .i64 xy, .int .i64 xz, .int .i64 xc, .bool xf] ∧ Below wr.heap.size wr wx)
        case first =>
          go_wp2_with fail
          go_meet
          case rel => exact ⟨_, rfl, Nat.le_refl _, Blk.new _ _ _, (Below.refl _ _).alloc (Nat.le_refl _) _⟩
        case rest =>
          obtain ⟨p, rfl, hp, Bx, hb4⟩ := hcut
          clear k0 k1 k2 k3 k4 k5
          go_upto_region 10 with fail
          go_cut [] (fun wx => Blk wx p 52 #[.int .i64 xk, .int .i64 (F * xw), .int .i64 (F * xy), .int .i64 (F * xz), .int .i64 xc, .bool xf] ∧ Below wr.heap.size wr wx)
          case first =>
            have k1 : wc.cell? ⟨p, 1, none⟩ = some (.int .i64 xw) := Bx.cell 1 rfl
            have k2 : wc.cell? ⟨p, 2, none⟩ = some (.int .i64 xy) := Bx.cell 2 rfl
            have k3 : wc.cell? ⟨p, 3, none⟩ = some (.int .i64 xz) := Bx.cell 3 rfl
            have f1 := Bx.frozen 1
            have f2 := Bx.frozen 2
            have f3 := Bx.frozen 3
            go_wp2_with fail
            go_meet
            case rel => exact ⟨((Bx.set_ 1 (.int .i64 (F * xw))).set_ 2 (.int .i64 (F * xy))).set_ 3 (.int .i64 (F * xz)), setBw (setBw (setBw hb4 hp 1 _) hp 2 _) hp 3 _⟩
          case rest =>
            clear Bx hb4
            obtain ⟨Bx, hb4⟩ := hcut
            have k0 : wc.cell? ⟨p, 0, none⟩ = some (.int .i64 xk) := Bx.cell 0 rfl
            have k1 : wc.cell? ⟨p, 1, none⟩ = some (.int .i64 (F * xw)) := Bx.cell 1 rfl
            have k2 : wc.cell? ⟨p, 2, none⟩ = some (.int .i64 (F * xy)) := Bx.cell 2 rfl
            have k3 : wc.cell? ⟨p, 3, none⟩ = some (.int .i64 (F * xz)) := Bx.cell 3 rfl
            have k4 : wc.cell? ⟨p, 4, none⟩ = some (.int .i64 xc) := Bx.cell 4 rfl
            have k5 : wc.cell? ⟨p, 5, none⟩ = some (.bool xf) := Bx.cell 5 rfl
            have ho4 := ho.below hb4
            have hbr4 := below_trans' hbr hbr.size hb4
            go_wp2_with (at_builtin; refine wpList_push elemT rfl (.tmp 64) (.tmp 66) rfl rfl _ rfl (ho4.alloc _) (⟨xk, F * xw, F * xy, F * xz, xc, xf⟩ : It) _ rfl (by simp) (itC_one _) rfl (by unfold maxLen; omega) (Nat.le_trans hbr4.size (by simp)) ?_; intro A3 c3 w5 ho5 hg5 ha5)
            go_roundw
            case rel =>
              refine ⟨k + 1, A3, c3, by omega, by go_num, rfl, ?_, (hbr4.alloc hbr4.size _).grown hg5 (Nat.le_trans hbr4.size (by simp)) (fun g hg => (ho4.lt g hg).1)⟩
              rw [HT.out]
              exact ho5
            case measure => simp [intOf]; omega
      · have hkn : k = n' := by omega
        subst hkn
        rw [HEX.out] at ho
        clear HTX HEX
        go_wp2_with fail
        obtain ⟨w4, rfl⟩ : ∃ w4 : World, w4 = wr := ⟨_, rfl⟩
        have hbw4 := below_trans' hbw hbw.size hbr
        have hb4 := hb3.below hbr
        have hs4 := ho.sl itC_len
        clear hb3 ha3 ho
        go_loopw [11, 12] (fun vo vi wy => ∃ (j : Nat) (A2 : Option Addr) (c2 : Nat), j ≤ m' ∧ vi = .int .i64 j ∧ vo = .slice A2 j c2 ∧ Own wy w4.heap.size 3 1 intC A2 j c2 ((ms'.map (F * ·)).take j) ∧ Below w4.heap.size w4 wy) (fun _ vi _ => m' - (intOf vi).toNat)
        case atStart => exact ⟨0, none, 0, Nat.zero_le _, rfl, rfl, Own.nil_ _ _ _ _ _, Below.refl _ _⟩
        case round =>
          obtain ⟨j, A2, c2, hj, rfl, rfl, ho, hby⟩ := hrel
          by_cases hlt : j < m'
          · obtain ⟨ad, rfl, hl2, k0⟩ := (hb4.below hby).int hlt
            have M := G.M j hlt
            have HT := Lib.hid (HTM.out j hlt)
            have w1 := mul_bd hF.1 hF.2 (show 0 ≤ gI ms' j by omega) M.2
            generalize gI ms' j = x at *
            generalize (ms'.map (F * ·)).take j = P at *
            go_wp2_with (at_builtin; refine wpList_push elemI rfl (.tmp 74) (.tmp 81) rfl rfl _ rfl (ho.alloc _) (F * x) _ rfl (by simp) (intC_one _) rfl (by unfold maxLen; omega) (Nat.le_trans hby.size (by simp)) ?_; intro A3 c3 w5 ho5 hg5 ha5)
            go_roundw
            case rel =>
              refine ⟨j + 1, A3, c3, by omega, by go_num, rfl, ?_, (hby.alloc hby.size _).grown hg5 (Nat.le_trans hby.size (by simp)) (fun g hg => (ho.lt g hg).1)⟩
              rw [HT.out]
              exact ho5
            case measure => simp [intOf]; omega
          · have hjm : j = m' := by omega
            subst hjm
            rw [HEM.out] at ho
            clear HTM HEM
            have hbw5 := below_trans' hbw4 hbw4.size hby
            have hs5 := hs4.below hby
            have hm5 := ho.sl intC_len
            clear ho hs4 hb4 hby hbr hbw4
            have kb2 := fun W h1 h2 => both_any A1 A2 k j c1 c2 (xs'.map (scI F)) (ms'.map (F * ·)) W h1 h2 (by omega) (by omega)
            by_cases hB0 : chkB (xs'.map (scI F)) (ms'.map (F * ·)) = 0
            · have G2 := chkB_good HXL2.out HML2.out (by omega) hB0
              have hbr := G.brok HXL.out
              have hlen := brok_len HXL.out hbr
              have hbk := brk_ok hbr
              have q1 := fun W h1 h2 => Breaks_any prepOk A B k j c d xs' ms' W h1 h2 (by omega) (by omega)
              have q2 := fun W h1 h2 => Breaks_any prepOk A1 A2 k j c1 c2 (xs'.map (scI F)) (ms'.map (F * ·)) W h1 h2 (by omega) (by omega)
              simp only [H0.out, hB0, if_true] at q1 q2
              have q3 := fun A3 c3 W h1 h2 => mcheckBreaks_any A A3 k (breaksL xs' ms').length c c3 xs' (ints (breaksL xs' ms')) W h1 h2 (by omega) (by omega)
              rw [hbk] at q3
              have q4 := fun A3 c3 W h1 h2 h3 => Lines_good A B A3 k j (breaksL xs' ms').length c d c3 (breaksL xs' ms') xs' ms' W h1 h2 h3 (by omega) (by omega) (by omega) H0.out hbr
              have q5 := fun A3 c3 W h1 h2 h3 => Lines_good A1 A2 A3 k j (breaksL xs' ms').length c1 c2 c3 (breaksL xs' ms') (xs'.map (scI F)) (ms'.map (F * ·)) W h1 h2 h3 (by omega) (by omega) (by omega) hB0 (sc_brok hbr)
              have q6 := fun A3 c3 W h => over_any A3 (breaksL xs' ms').length c3 (linesN xs' ms' (breaksL xs' ms') (breaksL xs' ms').length) W h (by omega)
              have q7 := fun A3 B3 c3 d3 W h1 h2 => same_c A3 B3 (breaksL xs' ms').length c3 d3 (ints (breaksL xs' ms')) W h1 h2 (by omega)
              have hsc := sc_good (f := F) (by omega) G HXL.out HML.out G2
              have hln : ∀ i, i < (breaksL xs' ms').length → (gL (linesN (xs'.map (scI F)) (ms'.map (F * ·)) (breaksL xs' ms') (breaksL xs' ms').length) i).ratio = (gL (linesN xs' ms' (breaksL xs' ms') (breaksL xs' ms').length) i).ratio ∧ (gL (linesN (xs'.map (scI F)) (ms'.map (F * ·)) (breaksL xs' ms') (breaksL xs' ms').length) i).bad = (gL (linesN xs' ms' (breaksL xs' ms') (breaksL xs' ms').length) i).bad ∧ (gL (linesN (xs'.map (scI F)) (ms'.map (F * ·)) (breaksL xs' ms') (breaksL xs' ms').length) i).over = F * (gL (linesN xs' ms' (breaksL xs' ms') (breaksL xs' ms').length) i).over ∧ 0 ≤ F * (gL (linesN xs' ms' (breaksL xs' ms') (breaksL xs' ms').length) i).over ∧ F * (gL (linesN xs' ms' (breaksL xs' ms') (breaksL xs' ms').length) i).over ≤ 5000000000 := fun i hi => by
                rw [gL_lines hi, gL_lines hi]
                obtain ⟨e1, _, e3, e4⟩ := sc_ln (f := F) (by omega) (xs := xs') (ms := ms') (bl := breaksL xs' ms') i
                have hok := (G.oks HXL.out HML.out hbr).1 i hi
                have := mul_bd hF.1 hF.2 hok.over.1 hok.over.2
                exact ⟨e1, e3, e4, this.1, by have := this.2; simp only [withD]; omega⟩
              have HSC := Lib.hid hsc
              have HLN := Lib.hid hln
              rw [hB0] at kb2
              clear hsc hln hbk hbr G G2 hB0 H0 HXL HML HXL2 HML2
              generalize linesN xs' ms' (breaksL xs' ms') (breaksL xs' ms').length = LX at *
              generalize linesN (xs'.map (scI F)) (ms'.map (F * ·)) (breaksL xs' ms') (breaksL xs' ms').length = LY at *
              generalize breaksL (xs'.map (scI F)) (ms'.map (F * ·)) = BB at *
              generalize breaksL xs' ms' = BL at *
              generalize xs'.map (scI F) = XB at *
              generalize ms'.map (F * ·) = MB at *
              go_upto_region 27 with (first
                | (go_at_call 24; refine (kb2 _ hs5 hm5).mono ?_; rintro e w6 ⟨rfl, h9⟩; have hbw := below_trans' hbw5 hbw5.size h9; have hs5 := hs5.below h9; have hm5 := hm5.below h9; clear hbw5 h9)
                | (go_at_call 22; refine (q1 _ (ha'.below hbw) (hb'.below hbw)).mono ?_; rintro e w7 ⟨A3, c3, rfl, ho3, h9⟩; have hbw := below_trans' hbw hbw.size h9; have hs5 := hs5.below h9; have hm5 := hm5.below h9; have hs3 := ho3.sl intC_len; clear h9 ho3 q1)
                | (go_at_call 22; refine (q2 _ hs5 hm5).mono ?_; rintro e w8 ⟨A4, c4, rfl, ho4, h9⟩; have hbw := below_trans' hbw hbw.size h9; have hs5 := hs5.below h9; have hm5 := hm5.below h9; have hs3 := hs3.below h9; have hs4 := ho4.sl intC_len; clear h9 ho4)
                | (go_at_call 26; refine (q3 A3 c3 _ (ha'.below hbw) hs3).mono ?_; rintro e w9 ⟨rfl, h9⟩; have hbw := below_trans' hbw hbw.size h9; have hs5 := hs5.below h9; have hm5 := hm5.below h9; have hs3 := hs3.below h9; have hs4 := hs4.below h9; clear h9)
                | (go_at_call 30; refine (q4 A3 c3 _ (ha'.below hbw) (hb'.below hbw) hs3).mono ?_; rintro e w10 ⟨A5, c5, rfl, hx5, h9⟩; have hbw := below_trans' hbw hbw.size h9; have hs5 := hs5.below h9; have hm5 := hm5.below h9; have hs3 := hs3.below h9; have hs4 := hs4.below h9; clear h9 q4)
                | (go_at_call 30; refine (q5 A3 c3 _ hs5 hm5 hs3).mono ?_; rintro e w11 ⟨A6, c6, rfl, hy5, h9⟩; have hbw := below_trans' hbw hbw.size h9; have hs3 := hs3.below h9; have hs4 := hs4.below h9; have hx5 := hx5.below h9; clear h9))
              go_wp2_with fail
              clear q2 q3 q5 kb2 hs5 hm5
              go_loopw [21] (fun vi wz => ∃ i : Nat, i ≤ BL.length ∧ vi = .int .i64 i ∧ Below w11.heap.size w11 wz) (fun vi _ => BL.length - (intOf vi).toNat)
              case atStart => exact ⟨0, Nat.zero_le _, rfl, Below.refl _ _⟩
              case round =>
                obtain ⟨i, hi, rfl, hbz⟩ := hrel
                obtain ⟨wz, rfl⟩ : ∃ wz : World, wz = wr := ⟨_, rfl⟩
                have hx := hx5.below hbz
                by_cases hil : i < BL.length
                · obtain ⟨l1, l2, l3, l4, l5⟩ := HLN.out i hil
                  obtain ⟨ad, rfl, hla, -, hq⟩ := hx.ln hil
                  obtain ⟨ae, rfl, hlb, -, hp⟩ := (hy5.below hbz).ln hil
                  have t5 := hq 5 _ (by omega) rfl
                  have t7 := hq 7 _ (by omega) rfl
                  have t8 := hq 8 _ (by omega) rfl
                  have p5 := hp 5 _ (by omega) rfl
                  have p7 := hp 7 _ (by omega) rfl
                  have p8 := hp 8 _ (by omega) rfl
                  rw [l1] at p5
                  rw [l2] at p7
                  rw [l3] at p8
                  have hwr : IntKind.i64.wrap (F * (gL LX i).over) = F * (gL LX i).over := IntWalk.i64_in _ (by omega)
                  have HX := Lib.hid hx5
                  have HY := Lib.hid hy5
                  clear hq hp hx hx5 hy5 l1 l2 l3
                  generalize (gL LX i).ratio = r5 at *
                  generalize (gL LX i).bad = r7 at *
                  generalize (gL LX i).over = r8 at *
                  go_wp2_with fail
                  go_quiet (fail)
                  go_wp2_with fail
                  go_roundw
                  case rel => exact ⟨i + 1, by omega, by go_num, below_drewN hbz _⟩
                  case measure => simp [intOf]; omega
                · have hib : i = BL.length := by omega
                  subst hib
                  by_cases hov : ovC LX = 0
                  · have e2 := HSC.out hov
                    rw [hov] at q6
                    clear hov HSC
                    subst e2
                    have hs3' := hs3.below hbz
                    have hs4' := hs4.below hbz
                    go_wp2_with (first
                      | (go_at_call 29; refine (q6 A5 c5 _ hx).mono ?_; rintro e w12 ⟨rfl, h9⟩; have hbq := below_trans' hbz hbz.size h9; have hs3 := hs3'.below h9; have hs4 := hs4'.below h9)
                      | (go_at_call 20; refine (q7 A3 A4 c3 c4 _ hs3 hs4).mono ?_; rintro e w13 ⟨rfl, h9⟩; have hbq := below_trans' hbq hbq.size h9))
                    go_ret
                    exact ⟨rfl, below_trans' hbw hbw.size hbq⟩
                  · have h1 : decide (0 < ovC LX) = true := decide_eq_true (by omega)
                    clear hov
                    go_wp2_with (first
                      | (go_at_call 29; refine (q6 A5 c5 _ hx).mono ?_; rintro e w12 ⟨rfl, h9⟩; have hbq := below_trans' hbz hbz.size h9))
                    go_ret
                    exact ⟨rfl, below_trans' hbw hbw.size hbq⟩
            · have h1 : (chkB (xs'.map (scI F)) (ms'.map (F * ·)) != 0) = true := by simpa using hB0
              clear hB0
              generalize chkB (xs'.map (scI F)) (ms'.map (F * ·)) = v at *
              go_wp2_with (first
                | (go_at_call 24; refine (kb2 _ hs5 hm5).mono ?_; rintro e w6 ⟨rfl, h9⟩; have hbw6 := below_trans' hbw5 hbw5.size h9))
              go_ret
              exact ⟨rfl, hbw6⟩
  · have h1 : (chkB xs' ms' != 0) = true := by simpa using h0
    clear h0
    generalize chkB xs' ms' = v at *
    go_enter Try.func7, Try.ntmps7
    go_wp2_with (first
      | (go_at_call 12; refine (c1 _).mono ?_; rintro e w1 ⟨rfl, rfl⟩)
      | (go_at_call 13; refine (c2 _).mono ?_; rintro e w1 ⟨rfl, rfl⟩)
      | (go_at_call 14; refine (known_of prepOk _).mono ?_; rintro e w2 ⟨rfl, h9⟩; have hbw := below_trans' hbw hbw.size h9)
      | (go_at_call 24; refine (kb _ (ha'.below hbw) (hb'.below hbw)).mono ?_; rintro e w3 ⟨rfl, h9⟩; have hbw := below_trans' hbw hbw.size h9))
    go_ret
    exact ⟨rfl, hbw⟩
end Go.Proofs.Ytogbapdioccamaa
