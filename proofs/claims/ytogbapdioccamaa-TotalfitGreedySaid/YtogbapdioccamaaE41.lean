/- Greedy's breaks of the model. -/
import Derived.Test.YtogbapdioccamaaE39
import Derived.Test.YtogbapdioccamaaE30
import Derived.Deep.CutBlock
namespace Go.Proofs.Ytogbapdioccamaa
open Go.RowKit

section
variable (xs : List It)
def cnt (k : Nat) : Nat := (posT xs k).length
theorem cnt_yes {k : Nat} (h : posB xs k = true) : cnt xs (k + 1) = cnt xs k + 1 := by unfold cnt; rw [posT_yes h, List.length_append]; rfl
theorem cnt_no {k : Nat} (h : posB xs k = false) : cnt xs (k + 1) = cnt xs k := by unfold cnt; rw [posT_no h]
theorem cnt_zero : cnt xs 0 = 0 := rfl
theorem posT_split (k : Nat) : ∀ (d : Nat), ∃ r, posT xs (k + d) = posT xs k ++ r
  | 0 => ⟨[], by simp⟩
  | d + 1 => by
    obtain ⟨r, h⟩ := posT_split k d
    rw [← Nat.add_assoc, posT_succ, h]
    split
    · exact ⟨r ++ [k + d], by rw [List.append_assoc]⟩
    · exact ⟨r, rfl⟩
theorem cnt_at {n k : Nat} (hl : xs.length = n) (hk : k < n) (h : posB xs k = true) : cnt xs k < (posN xs).length ∧ gN (posN xs) (cnt xs k) = k := by
  obtain ⟨r, hr⟩ := posT_split xs (k + 1) (n - (k + 1))
  rw [show k + 1 + (n - (k + 1)) = n by omega, posT_yes h, List.append_assoc] at hr
  have e : posN xs = posT xs k ++ ([k] ++ r) := by unfold posN; rw [hl]; exact hr
  rw [e]
  unfold cnt gN
  refine ⟨by simp, ?_⟩
  rw [List.getD_eq_getElem?_getD, List.getElem?_append_right (Nat.le_refl _), Nat.sub_self]
  rfl
theorem cnt_end {n : Nat} (hl : xs.length = n) : cnt xs n = (posN xs).length := by unfold cnt posN; rw [hl]
theorem cnt_gN {n j : Nat} (hl : xs.length = n) (hj : j < (posN xs).length) : cnt xs (gN (posN xs) j) = j ∧ cnt xs (gN (posN xs) j + 1) = j + 1 := by
  obtain ⟨h1, h2⟩ := posN_mem.1 (gN_mem hj)
  obtain ⟨h3, h4⟩ := cnt_at xs hl (by omega) h2
  have e : cnt xs (gN (posN xs) j) = j := by
    rcases Nat.lt_trichotomy (cnt xs (gN (posN xs) j)) j with h | h | h
    · have := gN_rise (posN_sorted xs) h hj; omega
    · exact h
    · have := gN_rise (posN_sorted xs) h h3; omega
  exact ⟨e, by rw [cnt_yes xs h2, e]⟩
end
theorem endG_cons' (xs : List It) (ms : List Int) (a : Int) (k b : Nat) (r : List Nat) (acc : Nat) : endG xs ms a k (b :: r) acc = if fbm xs b = true then (if (lineF xs ms a b k).over = 0 then b else acc) else endG xs ms a k r (if (lineF xs ms a b k).over = 0 then b else acc) := rfl
theorem endG_first (xs : List It) (ms : List Int) (a : Int) (k b : Nat) (r : List Nat) : endG xs ms a k (b :: r) b = if fbm xs b = true then b else endG xs ms a k r b := by
  rw [endG_cons']
  by_cases h : (lineF xs ms a b k).over = 0
  · rw [if_pos h]
  · rw [if_neg h]
theorem gfld8 (a b c d e f g h i j : Int) (w : World) : (Instr.field 56 (.agg #[.int .i64 a, .int .i64 b, .int .i64 c, .int .i64 d, .int .i64 e, .int .i64 f, .int .i64 g, .int .i64 h, .int .i64 i, .int .i64 j]) 8).run Try.prog w = .ok (.int .i64 i) w := by kernel_rfl
/-- b behind the positions looked at: none yet, or the last one whose line fits. -/
def Seen (xs : List It) (ms : List Int) (a : Int) (k i0 j : Nat) (L : List Nat) (b : Int) : Prop :=
  (j = i0 ∧ b = -1) ∨ ∃ e : Nat, e < L.length ∧ i0 < j ∧ i0 ≤ e ∧ b = (gN L e : Nat) ∧ endG xs ms a k (L.drop j) (gN L e) = endG xs ms a k (L.drop i0) (gN L i0)
theorem Seen.neg {xs : List It} {ms : List Int} {a : Int} {k i0 j : Nat} {L : List Nat} {b : Int} (h : Seen xs ms a k i0 j L b) : -1 ≤ b := by
  rcases h with ⟨_, rfl⟩ | ⟨e, _, _, _, rfl, _⟩ <;> omega
theorem Seen.step {xs : List It} {ms : List Int} {a : Int} {k i0 j p : Nat} {L : List Nat} {b b' : Int} (h : Seen xs ms a k i0 j L b) (hj : j < L.length) (hp : gN L j = p)
    (hb : (b < 0 ∨ (lineF xs ms a p k).over = 0) ∧ b' = p ∨ (0 ≤ b ∧ (lineF xs ms a p k).over ≠ 0) ∧ b' = b) :
    ∃ e, i0 ≤ e ∧ e < L.length ∧ b' = (gN L e : Nat) ∧ (if fbm xs p = true then gN L e else endG xs ms a k (L.drop (j + 1)) (gN L e)) = endG xs ms a k (L.drop i0) (gN L i0) := by
  rcases h with ⟨rfl, rfl⟩ | ⟨e, he, hij, hie, rfl, hen⟩
  · rcases hb with ⟨_, rfl⟩ | ⟨⟨h1, _⟩, _⟩
    · exact ⟨j, Nat.le_refl _, hj, by rw [hp], by rw [drop_at hj, endG_first, hp]⟩
    · omega
  · rw [drop_at hj, endG_cons', hp] at hen
    rcases hb with ⟨h1 | h1, rfl⟩ | ⟨⟨_, h2⟩, rfl⟩
    · omega
    · rw [if_pos h1] at hen
      exact ⟨j, by omega, hj, by rw [hp], by rw [hp]; exact hen⟩
    · rw [if_neg h2] at hen
      exact ⟨e, hie, he, rfl, hen⟩

set_option maxRecDepth 100000 in
set_option maxHeartbeats 4000000 in
theorem mgreedy_any (A M : Option Addr) (n m c d : Nat) (xs : List It) (ms : List Int) (w : World) (ha : Sl w 6 itC A n xs) (hm : Sl w 1 intC M m ms) (G : Good xs ms n m) :
    Calls Try.prog 34 #[.slice A n c, .slice M m d] w fun e w' => ∃ A' c', e = .returned (.slice A' (greedyL xs ms).length c') ∧ Own w' w.heap.size 3 1 intC A' (greedyL xs ms).length c' (ints (greedyL xs ms)) ∧ Below w.heap.size w w' := by
  have hxl := ha.len
  have hn := G.n1
  have hn0 := G.n0
  have hm1 := G.m1
  obtain ⟨hL0, hL1⟩ := posN_last hxl G.n0 G.F
  have hlt := fun j (h : j < (posN xs).length) => (posN_lt h : gN (posN xs) j < xs.length)
  have hsort := posN_sorted xs
  have hLn : (posN xs).length ≤ n := by
    have := posT_len xs xs.length
    unfold posN
    omega
  rw [hxl] at hlt
  have hct := fun k (h1 : k < n) h2 => cnt_at xs hxl (k := k) h1 h2
  have hce := cnt_end xs hxl
  have hcg := fun j (h : j < (posN xs).length) => cnt_gN xs hxl h
  have hBP : greedyG xs ms (posN xs).length (posN xs) (-1) 0 = greedyL xs ms := rfl
  obtain ⟨GL, hGL⟩ : ∃ GL, GL = greedyL xs ms := ⟨_, rfl⟩
  rw [← hGL] at hBP ⊢
  clear hGL
  have HBL := Lib.hid hBP
  have HLT := Lib.hid hlt
  have HS := Lib.hid hsort
  have HCT := Lib.hid hct
  have HCE := Lib.hid hce
  have HCG := Lib.hid hcg
  have HLAST := Lib.hid hL1
  have HX := Lib.hid hxl
  clear hBP hxl hlt hsort hct hce hcg hL1
  have cp := fun i w h => mposition_any A n c xs i w h hn
  have cf := fun i w h => mforced_any A n c xs i w h
  have CP := Lib.hid cp
  have CF := Lib.hid cf
  clear cp cf
  generalize posN xs = L at *
  go_enter Try.func34, Try.ntmps34
  go_wp2_with fail
  go_loopw [5, 6] (fun vo va wr => ∃ (i f : Nat) (a : Int) (bl : List Nat) (A1 : Option Addr) (c1 : Nat), i ≤ L.length ∧ va = .int .i64 a ∧ (i = 0 ∧ a = -1 ∨ 0 < i ∧ a = gN L (i - 1)) ∧ vo = .slice A1 bl.length c1 ∧ bl.length ≤ i ∧ L.length - i ≤ f ∧ bl ++ greedyG xs ms f (L.drop i) a bl.length = GL ∧ Own wr w.heap.size 3 1 intC A1 bl.length c1 (ints bl) ∧ Below w.heap.size w wr) (fun _ va _ => (n : Nat) - (intOf va + 1).toNat)
  case atStart =>
    refine ⟨0, L.length, -1, [], none, 0, Nat.zero_le _, rfl, .inl ⟨rfl, rfl⟩, rfl, Nat.le_refl _, by omega, ?_, Own.nil_ _ _ _ _ _, Below.refl _ _⟩
    rw [List.nil_append, List.drop_zero]
    exact HBL.out
  case round =>
    obtain ⟨i, f, a, bl, A1, c1, hi, rfl, hia, rfl, hbi, hf, hpath, ho, hbw⟩ := hrel
    by_cases hil : i < L.length
    · obtain ⟨f, rfl⟩ : ∃ f', f = f' + 1 := ⟨f - 1, by omega⟩
      have hdr := drop_at hil
      have hstep : greedyG xs ms (f + 1) (L.drop i) a bl.length = endG xs ms a bl.length (L.drop i) (gN L i) :: greedyG xs ms f (after (endG xs ms a bl.length (L.drop i) (gN L i)) (L.drop i)) (endG xs ms a bl.length (L.drop i) (gN L i)) (bl.length + 1) := by rw [hdr]; rfl
      rw [hstep] at hpath
      have HP := Lib.hid hpath
      clear hstep hpath hdr
      have haa : -1 ≤ a ∧ a < n - 1 ∧ cnt xs (a + 1).toNat = i ∧ ∀ j, i ≤ j → j < L.length → a < gN L j := by
        rcases hia with h1 | h1
        · refine ⟨by omega, by omega, ?_, fun j _ _ => by omega⟩
          rw [h1.1, h1.2]
          rfl
        · have h2 := HLT.out (i - 1) (by omega)
          have h3 := HCG.out (i - 1) (by omega)
          have h4 : gN L (i - 1) < gN L i := gN_rise HS.out (by omega) hil
          have h5 := HLT.out i hil
          refine ⟨by omega, by omega, ?_, fun j h3 h4 => by have := gN_rise HS.out (i := i - 1) (j := j) (by omega) h4; omega⟩
          rw [h1.2, show ((gN L (i - 1) : Int) + 1).toNat = gN L (i - 1) + 1 by omega, h3.2]
          omega
      obtain ⟨ha1, ha2, ha3, ha4⟩ := haa
      have hlt1 : decide (a < (n : Int) - 1) = true := decide_eq_true ha2
      have HA3 := Lib.hid ha3
      have HA4 := Lib.hid ha4
      clear ha3 ha4 hia
      go_upto_block 2 with fail
      go_cut [7] (fun v wx => ∃ e, i ≤ e ∧ e < L.length ∧ v = .int .i64 (gN L e : Nat) ∧ gN L e = endG xs ms a bl.length (L.drop i) (gN L i) ∧ Below wr.heap.size wr wx)
      case first =>
        go_wp2_with fail
        go_loopw [7, 8] (fun vb vi wx => ∃ (p : Nat) (b : Int), a < p ∧ p ≤ n ∧ vi = .int .i64 p ∧ vb = .int .i64 b ∧ i ≤ cnt xs p ∧ Seen xs ms a bl.length i (cnt xs p) L b ∧ Below wr.heap.size wr wx) (fun _ vi _ => n - (intOf vi).toNat)
        case atStart => exact ⟨(a + 1).toNat, -1, by omega, by omega, by congr 1; omega, rfl, by rw [HA3.out]; exact Nat.le_refl _, .inl ⟨HA3.out, rfl⟩, Below.refl _ _⟩
        case round =>
          obtain ⟨p, b, hap, hpn, rfl, rfl, hip, hseen, hb4⟩ := hrel
          have HSEEN := Lib.hid hseen
          clear hseen
          have hbx := below_trans' hbw hbw.size hb4
          have hax := ha.below hbx
          have hmx := hm.below hbx
          by_cases hpl : p < n
          · have cp := CP.out (p : Int) wr hax
            rw [posI_at (by have := HX.out; omega)] at cp
            cases hpb : posB xs p
            · have HCN := Lib.hid (cnt_no xs hpb)
              rw [hpb] at cp
              clear hpb
              go_wp2_with (first | (go_at_call 42; refine cp.mono ?_; rintro e w3 ⟨rfl, rfl⟩))
              go_roundw
              case rel => exact ⟨p + 1, b, by omega, by omega, by go_num, rfl, by rw [HCN.out]; exact hip, by rw [HCN.out]; exact HSEEN.out, hb4⟩
              case measure => simp [intOf]; omega
            · have HCN := Lib.hid (cnt_yes xs hpb)
              obtain ⟨hj, hgj⟩ := HCT.out p hpl hpb
              have hgj := Lib.hid hgj
              have cf := CF.out (p : Int)
              have hfI : forI xs (p : Int) = fbm xs p := by
                rw [forI_at (by have := HX.out; omega)]
                unfold fbm forcedI
                by_cases h3 : (gT xs p).kind = 3 <;> by_cases h4 : (gT xs p).cost = -10000 <;> simp [h3, h4]
              rw [hfI] at cf
              rw [hpb] at cp
              have cl := mline_any A M n m p bl.length c d a xs ms wr hax hmx hpl ⟨ha1, by omega⟩ hn ⟨G.m0, by omega⟩ (by omega) G.R G.M
              have hstep := fun b' hb => HSEEN.out.step (b' := b') hj hgj.out hb
              have hb1 := HSEEN.out.neg
              generalize hx : lineF xs ms a p bl.length = x at *
              obtain ⟨xf, xt, xb, xm, xw, xr, xc, xbad, xo, xd⟩ := x
              unfold lnV at cl
              simp only at cl hstep
              have HST := Lib.hid hstep
              clear hx hfI hpb hstep HSEEN hgj
              by_cases hbn : b < 0
              · have hb2 : decide (b < 0) = true := decide_eq_true hbn
                obtain ⟨e, hie, heL, heq, hen⟩ := HST.out p (.inl ⟨.inl hbn, rfl⟩)
                have HEQ := Lib.hid heq
                clear hbn heq HST
                cases hfm : fbm xs p
                · rw [hfm] at cf hen
                  have HEN := Lib.hid (show endG xs ms a bl.length (L.drop (cnt xs p + 1)) (gN L e) = endG xs ms a bl.length (L.drop i) (gN L i) from hen)
                  clear hen hfm
                  go_wp2_with (first
                    | (go_at_call 42; refine cp.mono ?_; rintro e3 w3 ⟨rfl, rfl⟩)
                    | (go_at_call 48; refine cl.mono ?_; rintro e4 w4 ⟨rfl, hb5⟩)
                    | (go_at_call 47; refine (cf _ ((hax.below hb5).below ((Below.refl _ _).alloc (Nat.le_refl _) _))).mono ?_; rintro e6 w6 ⟨rfl, rfl⟩))
                  go_roundw
                  case rel => exact ⟨p + 1, p, by omega, by omega, by go_num, rfl, by rw [HCN.out]; omega, by rw [HCN.out]; exact .inr ⟨e, heL, by omega, hie, HEQ.out, HEN.out⟩, (below_trans' hb4 hb4.size hb5).alloc (Nat.le_trans hb4.size hb5.size) _⟩
                  case measure => simp [intOf]; omega
                · rw [hfm] at cf hen
                  have HEN := Lib.hid (show gN L e = endG xs ms a bl.length (L.drop i) (gN L i) from hen)
                  clear hen hfm
                  go_wp2_with (first
                    | (go_at_call 42; refine cp.mono ?_; rintro e3 w3 ⟨rfl, rfl⟩)
                    | (go_at_call 48; refine cl.mono ?_; rintro e4 w4 ⟨rfl, hb5⟩)
                    | (go_at_call 47; refine (cf _ ((hax.below hb5).below ((Below.refl _ _).alloc (Nat.le_refl _) _))).mono ?_; rintro e6 w6 ⟨rfl, rfl⟩))
                  go_meet
                  case rel => exact ⟨e, hie, heL, by rw [← HEQ.out], HEN.out, (below_trans' hb4 hb4.size hb5).alloc (Nat.le_trans hb4.size hb5.size) _⟩
              · have hb2 : decide (b < 0) = false := decide_eq_false hbn
                by_cases ho0 : xo = 0
                · have ho1 : (xo == 0) = true := by simpa using ho0
                  obtain ⟨e, hie, heL, heq, hen⟩ := HST.out p (.inl ⟨.inr ho0, rfl⟩)
                  have HEQ := Lib.hid heq
                  clear hbn heq HST ho0
                  cases hfm : fbm xs p
                  · rw [hfm] at cf hen
                    have HEN := Lib.hid (show endG xs ms a bl.length (L.drop (cnt xs p + 1)) (gN L e) = endG xs ms a bl.length (L.drop i) (gN L i) from hen)
                    clear hen hfm
                    go_wp2_with (first
                      | (go_at_call 42; refine cp.mono ?_; rintro e3 w3 ⟨rfl, rfl⟩)
                      | (go_at_call 48; refine cl.mono ?_; rintro e4 w4 ⟨rfl, hb5⟩)
                      | (go_at_call 47; refine (cf _ ((hax.below hb5).below ((Below.refl _ _).alloc (Nat.le_refl _) _))).mono ?_; rintro e6 w6 ⟨rfl, rfl⟩))
                    go_roundw
                    case rel => exact ⟨p + 1, p, by omega, by omega, by go_num, rfl, by rw [HCN.out]; omega, by rw [HCN.out]; exact .inr ⟨e, heL, by omega, hie, HEQ.out, HEN.out⟩, (below_trans' hb4 hb4.size hb5).alloc (Nat.le_trans hb4.size hb5.size) _⟩
                    case measure => simp [intOf]; omega
                  · rw [hfm] at cf hen
                    have HEN := Lib.hid (show gN L e = endG xs ms a bl.length (L.drop i) (gN L i) from hen)
                    clear hen hfm
                    go_wp2_with (first
                      | (go_at_call 42; refine cp.mono ?_; rintro e3 w3 ⟨rfl, rfl⟩)
                      | (go_at_call 48; refine cl.mono ?_; rintro e4 w4 ⟨rfl, hb5⟩)
                      | (go_at_call 47; refine (cf _ ((hax.below hb5).below ((Below.refl _ _).alloc (Nat.le_refl _) _))).mono ?_; rintro e6 w6 ⟨rfl, rfl⟩))
                    go_meet
                    case rel => exact ⟨e, hie, heL, by rw [← HEQ.out], HEN.out, (below_trans' hb4 hb4.size hb5).alloc (Nat.le_trans hb4.size hb5.size) _⟩
                · have ho1 : (xo == 0) = false := by simpa using ho0
                  obtain ⟨e, hie, heL, heq, hen⟩ := HST.out b (.inr ⟨⟨by omega, ho0⟩, rfl⟩)
                  have HEQ := Lib.hid heq
                  clear hbn heq HST ho0
                  cases hfm : fbm xs p
                  · rw [hfm] at cf hen
                    have HEN := Lib.hid (show endG xs ms a bl.length (L.drop (cnt xs p + 1)) (gN L e) = endG xs ms a bl.length (L.drop i) (gN L i) from hen)
                    clear hen hfm
                    go_wp2_with (first
                      | (go_at_call 42; refine cp.mono ?_; rintro e3 w3 ⟨rfl, rfl⟩)
                      | (go_at_call 48; refine cl.mono ?_; rintro e4 w4 ⟨rfl, hb5⟩)
                      | (go_at_call 47; refine (cf _ ((hax.below hb5).below ((Below.refl _ _).alloc (Nat.le_refl _) _))).mono ?_; rintro e6 w6 ⟨rfl, rfl⟩))
                    go_roundw
                    case rel => exact ⟨p + 1, b, by omega, by omega, by go_num, rfl, by rw [HCN.out]; omega, by rw [HCN.out]; exact .inr ⟨e, heL, by omega, hie, HEQ.out, HEN.out⟩, (below_trans' hb4 hb4.size hb5).alloc (Nat.le_trans hb4.size hb5.size) _⟩
                    case measure => simp [intOf]; omega
                  · rw [hfm] at cf hen
                    have HEN := Lib.hid (show gN L e = endG xs ms a bl.length (L.drop i) (gN L i) from hen)
                    clear hen hfm
                    go_wp2_with (first
                      | (go_at_call 42; refine cp.mono ?_; rintro e3 w3 ⟨rfl, rfl⟩)
                      | (go_at_call 48; refine cl.mono ?_; rintro e4 w4 ⟨rfl, hb5⟩)
                      | (go_at_call 47; refine (cf _ ((hax.below hb5).below ((Below.refl _ _).alloc (Nat.le_refl _) _))).mono ?_; rintro e6 w6 ⟨rfl, rfl⟩))
                    go_meet
                    case rel => exact ⟨e, hie, heL, by rw [← HEQ.out], HEN.out, (below_trans' hb4 hb4.size hb5).alloc (Nat.le_trans hb4.size hb5.size) _⟩
          · have hpn2 : p = n := by omega
            subst hpn2
            have hs := HSEEN.out
            rw [HCE.out] at hs
            obtain ⟨e, heL, hij, hie, heq, hen⟩ : ∃ e : Nat, e < L.length ∧ i < L.length ∧ i ≤ e ∧ b = (gN L e : Nat) ∧ endG xs ms a bl.length (L.drop L.length) (gN L e) = endG xs ms a bl.length (L.drop i) (gN L i) := by
              rcases hs with ⟨h1, _⟩ | h
              · omega
              · exact h
            rw [List.drop_eq_nil_of_le (Nat.le_refl _)] at hen
            have HEN := Lib.hid (show gN L e = endG xs ms a bl.length (L.drop i) (gN L i) from hen)
            have HEQ := Lib.hid heq
            clear hen heq hs HSEEN
            go_wp2_with fail
            go_meet
            case rel => exact ⟨e, hie, heL, by rw [← HEQ.out], HEN.out, hb4⟩
      case rest =>
        obtain ⟨e, hie, heL, rfl, hE, hb4⟩ := hcut
        rw [← hE] at HP
        have hbw4 := below_trans' hbw hbw.size hb4
        have ho4 := ho.below hb4
        have haf := after_drop HS.out hie heL
        have HAF := Lib.hid haf
        clear haf hE
        have hel := HLT.out e heL
        have hae := HA4.out e hie heL
        have HB := Lib.hid (show (gN L e : Int) = (gN L (e + 1 - 1) : Nat) from rfl)
        rw [HAF.out] at HP
        generalize gN L e = b at *
        have hlt4 := ho.lt
        go_wp2_with (at_builtin; refine wpList_push elemI rfl (.tmp 45) (.tmp 47) rfl rfl _ rfl (ho4.alloc _) (b : Int) _ rfl (by simp) (intC_one _) rfl (by unfold maxLen; omega) (Nat.le_trans hbw4.size (by simp)) ?_; intro A5 c5 w5 ho5 hg5 ha5)
        go_roundw
        case rel =>
          refine ⟨e + 1, f, (b : Int), bl ++ [b], A5, c5, by omega, rfl, .inr ⟨by omega, HB.out⟩, by rw [List.length_append]; rfl, by rw [List.length_append]; simp only [List.length_singleton]; omega, by omega, ?_, ?_, (hbw4.alloc hbw4.size _).grown hg5 (Nat.le_trans hbw4.size (by simp)) (fun k hk => (hlt4 k hk).1)⟩
          · rw [List.append_assoc, List.length_append]
            exact HP.out
          · rw [List.length_append, ints_snoc]
            exact ho5
        case measure => simp [intOf]; omega
    · have hiL : i = L.length := by omega
      have hbl : bl = GL := by
        rw [← hpath, List.drop_eq_nil_of_le (by omega)]
        cases f <;> simp [greedyG]
      subst hbl
      have han : a = (n : Int) - 1 := by
        rcases hia with h1 | h1
        · omega
        · have h2 := (HLAST.out (i - 1) (by omega)).2 (by omega)
          rw [h1.2, h2]
          omega
      have hlt1 : decide (a < (n : Int) - 1) = false := decide_eq_false (by omega)
      clear hpath hia han
      go_wp2_with fail
      go_ret
      exact ⟨A1, c1, rfl, ho, hbw⟩
end Go.Proofs.Ytogbapdioccamaa
