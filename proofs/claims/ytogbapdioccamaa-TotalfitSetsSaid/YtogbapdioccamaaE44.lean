/- Lines of the program, with its errors. -/
import Derived.Test.YtogbapdioccamaaE43
import Derived.Test.YtogbapdioccamaaE32
import Derived.Test.YtogbapdioccamaaE24
import Derived.Deep.QuietTactic
import Derived.BigQuiet
namespace Go.Proofs.Ytogbapdioccamaa
open Go.RowKit

theorem contains_pos {xs : List It} {n : Nat} (hl : xs.length = n) (x : Int) : (ints (posN xs)).contains x = posI xs x := by
  rw [Bool.eq_iff_iff, List.contains_iff_mem]
  unfold posI ints
  simp only [List.mem_map, posN_mem, Bool.and_eq_true, decide_eq_true_eq]
  constructor
  · rintro ⟨k, ⟨h1, h2⟩, rfl⟩
    exact ⟨Int.natCast_nonneg k, by simp only [Int.ofNat_eq_natCast]; omega, h2⟩
  · rintro ⟨h1, h2, h3⟩
    exact ⟨x.toNat, ⟨by omega, h3⟩, by simp only [Int.ofNat_eq_natCast]; omega⟩
theorem brok_of_brk {xs : List It} {bs : List Int} {n : Nat} (hl : xs.length = n) (h0 : ∀ j, j < bs.length → badB xs bs j = false) (h : ∀ i, i < n → missB xs bs i = false) : ∃ bl, bs = ints bl ∧ BrOk xs n bl := by
  have hp : ∀ j, j < bs.length → 0 ≤ gI bs j ∧ gI bs j < n ∧ posB xs (gI bs j).toNat = true := fun j hj => by
    have h1 := (badB_ok (h0 j hj)).1
    unfold posI at h1
    simp only [Bool.and_eq_true, decide_eq_true_eq] at h1
    exact ⟨h1.1, by omega, h1.2.2⟩
  have e : bs = ints (bs.map Int.toNat) := by
    unfold ints
    rw [List.map_map]
    refine (List.map_id bs).symm.trans (List.map_congr_left fun x hx => ?_)
    obtain ⟨j, hj, rfl⟩ := mem_gI.1 hx
    have := (hp j hj).1
    simp only [id, Function.comp, Int.ofNat_eq_natCast]
    omega
  have eg : ∀ j, j < bs.length → gI bs j = (gN (bs.map Int.toNat) j : Nat) := fun j hj => by
    have := gI_ints (l := bs.map Int.toNat) (k := j) (by simpa using hj)
    rw [← e] at this
    exact this
  refine ⟨bs.map Int.toNat, e, ⟨fun k hk => ?_, fun k hk => ?_⟩, fun b hb => ?_, fun b hb hf => ?_⟩
  · have hk2 : k < bs.length := by simpa using hk
    have := hp k hk2
    rw [eg k hk2] at this
    omega
  · have hk2 : k + 1 < bs.length := by simpa using hk
    have := (badB_ok (h0 (k + 1) hk2)).2 (by omega)
    rw [eg (k + 1) hk2, Nat.add_sub_cancel, eg k (by omega)] at this
    omega
  · obtain ⟨x, hx, rfl⟩ := List.mem_map.1 hb
    obtain ⟨j, hj, rfl⟩ := mem_gI.1 hx
    have := hp j hj
    exact posN_mem.2 ⟨by omega, this.2.2⟩
  · obtain ⟨h1, h2⟩ := posN_mem.1 hb
    have h3 := h b (by omega)
    unfold missB at h3
    rw [forI_at h1] at h3
    unfold forcedI at hf
    simp only [Bool.and_eq_true, beq_iff_eq] at hf
    rw [decide_eq_true hf.1, decide_eq_true hf.2] at h3
    simp only [Bool.and_self, Bool.true_and, Bool.not_eq_false', decide_eq_true_eq] at h3
    exact List.mem_map.2 ⟨_, h3, by simp⟩
def LnRes (xs : List It) (ms bs : List Int) (n K : Nat) (w : World) (e : Ending) (w' : World) : Prop :=
  (brk xs bs ≠ 0 ∧ e = .returned (.tuple #[.slice none 0 0, .int .i64 (brk xs bs)]) ∧ Below w.heap.size w w') ∨
  (brk xs bs = 0 ∧ ∃ bl A' c', bs = ints bl ∧ BrOk xs n bl ∧ e = .returned (.tuple #[.slice A' K c', .int .i64 0]) ∧ Own w' w.heap.size 56 10 lnC A' K c' (linesN xs ms bl K) ∧ Below w.heap.size w w')
theorem LnRes.bad {xs : List It} {ms bs : List Int} {n K : Nat} {w w' : World} {v : Int} (h : brk xs bs = v) (hv : v ≠ 0) (hb : Below w.heap.size w w') : LnRes xs ms bs n K w (.returned (.tuple #[.slice none 0 0, .int .i64 v])) w' :=
  .inl ⟨by rw [h]; exact hv, by rw [h], hb⟩

set_option maxRecDepth 100000 in
set_option maxHeartbeats 4000000 in
theorem Lines_any (hp : PrepOk) (A M B : Option Addr) (n m K c d cB : Nat) (bs : List Int) (xs : List It) (ms : List Int) (w : World) (ha : Sl w 6 itC A n xs) (hm : Sl w 1 intC M m ms) (hB : Sl w 1 intC B K bs) (hn : n ≤ 4096) (hmm : m ≤ 4096) (hK : K ≤ 4096)
    (h0 : chkB xs ms = 0) :
    Calls Try.prog 30 #[.slice A n c, .slice M m d, .slice B K cB] w fun e w' => LnRes xs ms bs n K w e w' := by
  have cc := fun w h1 h2 => check_any A M n m c d xs ms w h1 h2 hn hmm
  have G := chkB_good ha.len hm.len hn h0
  have cp := fun w h1 h2 => hp A M n m c d xs ms w h1 h2 ⟨G.n0, hn⟩ G.R
  have co := fun w h => positions_any A n c xs w h hn
  have cl := fun bl (hb : BrOk xs n bl) g q w P hB => lines_any g q n m K cB B bl xs ms w P hB hb.rise hn ⟨G.m0, hmm⟩ hK G.R G.M
  have hbl := hB.len
  have hxl := ha.len
  have hLn : (posN xs).length ≤ n := by
    have := posT_len xs xs.length
    unfold posN
    omega
  obtain ⟨hL0, -⟩ := posN_last hxl G.n0 G.F
  have hsort := posN_sorted xs
  have hlt := fun j (h : j < (posN xs).length) => (posN_lt h : gN (posN xs) j < xs.length)
  rw [hxl] at hlt
  have b2 := fun k (hk : k < K) h0 h => brk_two (xs := xs) (bs := bs) (k := k) (by omega) h0 h
  have b6 := fun k (hk : k < K) h0 h hk0 hle => brk_six (xs := xs) (bs := bs) (k := k) (by omega) h0 h hk0 hle
  have b38 := fun (h0 : ∀ j, j < K → badB xs bs j = false) i (hi : i < n) h => brk_state (xs := xs) (bs := bs) (i := i) (fun j hj => h0 j (by omega)) (by omega) h
  have b0 := fun (h0 : ∀ j, j < K → badB xs bs j = false) (h : ∀ i, i < n → missB xs bs i = false) => brk_zero (xs := xs) (bs := bs) (fun j hj => h0 j (by omega)) (fun i hi => h i (by omega))
  have bo := fun (h0 : ∀ j, j < K → badB xs bs j = false) (h : ∀ i, i < n → missB xs bs i = false) => brok_of_brk (xs := xs) (bs := bs) hxl (fun j hj => h0 j (by omega)) h
  have hrs : ∀ (h0 : ∀ j, j < K → badB xs bs j = false), bs.Pairwise (· ≤ ·) := fun h0 => by
    refine List.pairwise_iff_getElem.2 fun i j hi hj hij => ?_
    have e1 := gI_some hi
    have e2 := gI_some hj
    rw [List.getElem?_eq_getElem hi] at e1
    rw [List.getElem?_eq_getElem hj] at e2
    injection e1 with e1
    injection e2 with e2
    rw [e1, e2]
    exact Int.le_of_lt (rise_lt (fun j hj => h0 j (by omega)) hij hj)
  have hmiss : ∀ (h : ∀ j, j < (posN xs).length → forcedI (gT xs (gN (posN xs) j)) = true → bs.contains (gN (posN xs) j : Int) = true), ∀ i, i < n → missB xs bs i = false := fun h i hi => by
    unfold missB
    cases hf : forI xs (i : Int)
    · rfl
    · rw [forI_at (by omega)] at hf
      simp only [Bool.and_eq_true, decide_eq_true_eq] at hf
      have hp : i ∈ posN xs := posN_mem.2 ⟨by omega, by unfold posB; rw [decide_eq_true hf.1, decide_eq_true (by rw [hf.2]; omega)]; rfl⟩
      obtain ⟨j, hj, e⟩ := gN_of_mem hp
      have := h j hj (by rw [e]; unfold forcedI; rw [hf.1, hf.2]; rfl)
      rw [e, List.contains_iff_mem] at this
      rw [decide_eq_true this]
      rfl
  have cb1 := fun A2 c2 x w h1 => bsearch_any A2 (posN xs).length c2 (ints (posN xs)) x w h1 (by omega) (ints_sorted hsort)
  have cb2 := fun h0 x w h1 => bsearch_any B K cB bs x w h1 (by omega) (hrs h0)
  have H2 := Lib.hid b2
  have H6 := Lib.hid b6
  have H38 := Lib.hid b38
  have H0 := Lib.hid b0
  have HO := Lib.hid bo
  have HM := Lib.hid hmiss
  have HX := Lib.hid hxl
  have HC1 := Lib.hid cb1
  have HC2 := Lib.hid cb2
  have HCP := Lib.hid (fun x => contains_pos hxl x)
  have HLT := Lib.hid hlt
  rw [h0] at cc
  clear h0 hbl hxl b2 b6 b38 b0 bo hmiss cb1 cb2 hlt hrs
  go_enter Try.func30, Try.ntmps30
  go_upto_region 5 with (first
      | (go_at_call 43; refine (cc _ ha hm).mono ?_; rintro e w1 ⟨rfl, hb1⟩)
      | (go_at_call 41; refine (co _ (ha.below hb1)).mono ?_; rintro e w2 ⟨A2, c2, rfl, ho, hb2⟩))
  obtain ⟨g2, rfl, hg2, _⟩ := ho.form hL0
  have hS := ho.sl intC_len
  have hb9 := below_trans' hb1 hb1.size hb2
  clear ho cc co hb1 hb2
  go_wp2_with fail
  go_loopw [28] (fun vi wr => ∃ k : Nat, k ≤ K ∧ vi = .int .i64 k ∧ (∀ j, j < k → badB xs bs j = false) ∧ Below w2.heap.size w2 wr) (fun vi _ => K - (intOf vi).toNat)
  case atStart => exact ⟨0, Nat.zero_le _, rfl, fun j h => absurd h (by omega), Below.refl _ _⟩
  case round =>
    obtain ⟨k, hk, rfl, hall, hb3⟩ := hrel
    have HA := Lib.hid hall
    clear hall
    by_cases hlk : k < K
    · have hBr := (hB.below hb9).below hb3
      obtain ⟨ad, rfl, hl', r⟩ := hBr.int hlk
      have cb := HC1.out (some ⟨g2, 0, none⟩) c2 (gI bs k) _ (hS.below hb3)
      rw [HCP.out] at cb
      have hbz := below_trans' hb9 hb9.size hb3
      by_cases hpo : posI xs (gI bs k) = true
      · have HP := Lib.hid hpo
        rw [hpo] at cb
        clear hpo
        by_cases hk0 : k = 0
        · have HK0 := Lib.hid hk0
          have hz1 : decide (0 < k) = false := decide_eq_false (by omega)
          clear hk0
          go_wp2_with (first | (go_at_call 50; refine cb.mono ?_; rintro e w4 ⟨rfl, qq, rfl⟩))
          go_roundw
          case rel =>
            refine ⟨k + 1, by omega, by go_num, fun i hi => ?_, below_drewN hb3 _⟩
            obtain rfl : i = k := by have := HK0.out; omega
            exact badB_no HP.out (.inl HK0.out)
          case measure => simp [intOf]; omega
        · obtain ⟨ad', e, _, rp⟩ := hBr.int (k := k - 1) (by omega)
          injection e with e
          subst e
          have hk1 : decide (0 < k) = true := decide_eq_true (by omega)
          have hk2 : (0 : Int) ≤ (k : Int) - 1 := by omega
          have hk3 : ((k : Int) - 1).toNat = k - 1 := by omega
          by_cases hle : gI bs k ≤ gI bs (k - 1)
          · have HT := Lib.hid (H6.out k hlk HA.out HP.out (by omega) hle)
            have hle1 : decide (gI bs k ≤ gI bs (k - 1)) = true := decide_eq_true hle
            clear hle
            go_wp2_with (first | (go_at_call 50; refine cb.mono ?_; rintro e w4 ⟨rfl, qq, rfl⟩))
            go_ret2
            exact LnRes.bad HT.out (by omega) (below_drewN hbz _)
          · have hle1 : decide (gI bs k ≤ gI bs (k - 1)) = false := decide_eq_false hle
            have HLE := Lib.hid (show gI bs (k - 1) < gI bs k by omega)
            clear hle
            go_wp2_with (first | (go_at_call 50; refine cb.mono ?_; rintro e w4 ⟨rfl, qq, rfl⟩))
            go_roundw
            case rel =>
              refine ⟨k + 1, by omega, by go_num, fun i hi => ?_, below_drewN hb3 _⟩
              rcases Nat.lt_or_ge i k with h | h
              · exact HA.out i h
              · obtain rfl : i = k := by omega
                exact badB_no HP.out (.inr HLE.out)
            case measure => simp [intOf]; omega
      · have hpo2 : posI xs (gI bs k) = false := by simpa using hpo
        have HT := Lib.hid (H2.out k hlk HA.out hpo2)
        rw [hpo2] at cb
        clear hpo hpo2
        go_wp2_with (first | (go_at_call 50; refine cb.mono ?_; rintro e w4 ⟨rfl, qq, rfl⟩))
        go_ret2
        exact LnRes.bad HT.out (by omega) (below_drewN hbz _)
    · have hkK : k = K := by omega
      subst hkK
      have hb4 := below_trans' hb9 hb9.size hb3
      have CB2 := Lib.hid (HC2.out HA.out)
      go_wp2_with fail
      go_loopw [55] (fun vi wx => ∃ j : Nat, j ≤ (posN xs).length ∧ vi = .int .i64 j ∧ (∀ i, i < j → forcedI (gT xs (gN (posN xs) i)) = true → bs.contains (gN (posN xs) i : Int) = true) ∧ Below w.heap.size w wx ∧ Sl wx 1 intC (some ⟨g2, 0, none⟩) (posN xs).length (ints (posN xs))) (fun vi _ => (posN xs).length - (intOf vi).toNat)
      case atStart => exact ⟨0, Nat.zero_le _, rfl, fun j h => absurd h (by omega), hb4, hS.below hb3⟩
      case round =>
        obtain ⟨j, hj, rfl, hfo, hb5, hS5⟩ := hrel
        obtain ⟨wr2, rfl⟩ : ∃ wr2 : World, wr2 = wr := ⟨_, rfl⟩
        clear hS hb3 hb4
        have HF := Lib.hid hfo
        clear hfo
        by_cases hjl : j < (posN xs).length
        · have hBr := hB.below hb5
          obtain ⟨ad, e, hl', r⟩ := hS5.int hjl
          injection e with e
          subst e
          rw [gI_ints hjl, add0] at r
          have hbn := HLT.out j hjl
          have cb := CB2.out (gN (posN xs) j) _ hBr
          obtain ⟨ad2, rfl, hl2, q0, q1, q2, q3, q4, q5⟩ := (ha.below hb5).it hbn
          have cf := forced_any (gT xs (gN (posN xs) j))
          have hff2 : forcedI (gT xs (gN (posN xs) j)) = decide ((gT xs (gN (posN xs) j)).kind = 3 ∧ (gT xs (gN (posN xs) j)).cost = -10000) := by
            unfold forcedI
            by_cases h3 : (gT xs (gN (posN xs) j)).kind = 3 <;> by_cases h4 : (gT xs (gN (posN xs) j)).cost = -10000 <;> simp [h3, h4]
          rw [← hff2] at cf
          have HHa := Lib.hid ha
          have h38 := H38.out HA.out (gN (posN xs) j) hbn
          clear hff2 ha
          cases hff : forcedI (gT xs (gN (posN xs) j))
          · rw [hff] at cf
            have HFJ := Lib.hid (show ∀ i, i < j + 1 → forcedI (gT xs (gN (posN xs) i)) = true → bs.contains (gN (posN xs) i : Int) = true from fun i hi hf => by
              rcases Nat.lt_or_ge i j with h | h
              · exact HF.out i h hf
              · obtain rfl : i = j := by omega
                rw [hff] at hf
                cases hf)
            clear hff h38
            generalize bs.contains (gN (posN xs) j : Int) = found at *
            generalize gN (posN xs) j = b at *
            go_wp2_with (first
              | (go_at_call 50; refine cb.mono ?_; rintro e w4 ⟨rfl, qq, rfl⟩)
              | (go_at_call 38; refine (cf _).mono ?_; rintro e w5 ⟨rfl, hb6⟩))
            go_roundw
            case rel => exact ⟨j + 1, by omega, by go_num, HFJ.out, below_trans' (below_drewN hb5 _) hb5.size hb6, (hS5.drewN _).below hb6⟩
            case measure => simp [intOf]; omega
          · rw [hff] at cf
            cases hfd : bs.contains (gN (posN xs) j : Int)
            · have HT := Lib.hid (h38 (by
                unfold missB
                rw [forI_at (by have := HX.out; omega)]
                unfold forcedI at hff
                simp only [Bool.and_eq_true, beq_iff_eq] at hff
                rw [decide_eq_true hff.1, decide_eq_true hff.2, decide_eq_false (fun h => by rw [← List.contains_iff_mem, hfd] at h; cases h)]
                rfl))
              rw [hfd] at cb
              clear hfd hff h38
              generalize gN (posN xs) j = b at *
              go_wp2_with (first
                | (go_at_call 50; refine cb.mono ?_; rintro e w4 ⟨rfl, qq, rfl⟩)
                | (go_at_call 38; refine (cf _).mono ?_; rintro e w5 ⟨rfl, hb6⟩))
              go_ret2
              exact LnRes.bad HT.out (by omega) (below_trans' (below_drewN hb5 _) hb5.size hb6)
            · rw [hfd] at cb
              have HFD := Lib.hid hfd
              clear hfd hff h38
              have HFJ := Lib.hid (show ∀ i, i < j + 1 → forcedI (gT xs (gN (posN xs) i)) = true → bs.contains (gN (posN xs) i : Int) = true from fun i hi hf => by
                rcases Nat.lt_or_ge i j with h | h
                · exact HF.out i h hf
                · obtain rfl : i = j := by omega
                  exact HFD.out)
              clear HFD
              generalize gN (posN xs) j = b at *
              go_wp2_with (first
                | (go_at_call 50; refine cb.mono ?_; rintro e w4 ⟨rfl, qq, rfl⟩)
                | (go_at_call 38; refine (cf _).mono ?_; rintro e w5 ⟨rfl, hb6⟩))
              go_roundw
              case rel => exact ⟨j + 1, by omega, by go_num, HFJ.out, below_trans' (below_drewN hb5 _) hb5.size hb6, (hS5.drewN _).below hb6⟩
              case measure => simp [intOf]; omega
        · as_aux_lemma =>
            have hms := HM.out (fun i hi => HF.out i (by omega))
            have HZ := Lib.hid (H0.out HA.out hms)
            obtain ⟨bl, hbl, hbo⟩ := HO.out HA.out hms
            have cl2 := cl
            clear cl
            have cl := cl2 bl hbo
            have HBL := Lib.hid hbl
            rw [hbl] at hB
            clear cl2 hbl hms
            go_wp2_with (first
              | (go_at_call 44; refine (cp _ (ha.below hb5) (hm.below hb5)).mono ?_; rintro e w5 ⟨g, q, rfl, hb6, P⟩)
              | (go_at_call 51; refine (cl g q _ P ((hB.below hb5).below hb6)).mono ?_; rintro e w6 ⟨A3, c3, rfl, ho, hb7⟩))
            go_ret2
            exact .inr ⟨HZ.out, bl, A3, c3, HBL.out, hbo, rfl, ho.base (Nat.le_trans hb5.size hb6.size), below_trans' (below_trans' hb5 hb5.size hb6) (Nat.le_trans hb5.size hb6.size) hb7⟩
end Go.Proofs.Ytogbapdioccamaa
