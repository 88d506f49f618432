/- document.checkRevs of none; the checker's reference and head. document.form, item and items of paragraphs' marks. document's items, Check: of paragraphs' marks and lists. -/
import Derived.Test.YthbodpjkckminaaGreatDoorm24
import Derived.BigQuiet
namespace Go.Proofs.YthbodpjkckminaaGreatDoor
open Go.RowKit Go.Maps

set_option maxRecDepth 100000 in
set_option maxHeartbeats 4000000 in
theorem ckRevs_any (A : Option Addr) (c : Nat) (w : World) : Calls Tryz.prog 41 #[.slice A 0 c] w (ErrPost w True) := by
  have N1 := Blk.new w 61 #[.slice A 0 c]
  have hb1 := alloc1 w (.cells #[.slice A 0 c] 61)
  have cA := Lib.hid (fun W q => all_any 0 78 #[.pointer (some ⟨q, 0, none⟩)] (fun _ => True) W (by omega) (enters_of Tryz.func78 (by kernel_rfl) rfl) (fun i W hi _ => absurd hi (Nat.not_lt_zero _)))
  have HP := Lib.hid (show ∀ e w', (∃ r : Int, e = .returned (.int .i64 r) ∧ (r = 0 → True) ∧ Below w.heap.size w w') → ErrPost w True e w' from fun _ _ h => h)
  obtain ⟨p1, hp1⟩ : ∃ p, p = w.heap.size := ⟨_, rfl⟩
  go_enter Tryz.func41, Tryz.ntmps41
  go_upto_region 1 with fail
  generalize w.alloc (.cells #[.slice A 0 c] 61) = w1 at *
  rw [← hp1] at N1 ⊢
  clear hp1
  have q0 := N1.cell 0 rfl
  refine wp_region_held_drew (S := fun w' => w'.cell? ⟨p1, 0, none⟩ = some (.slice A 0 c)) (by kernel_rfl) q0 (fun hHeld => ?_)
  have hbd := bDrew hb1
  generalize w1.drew = wd at *
  refine hx_take 0 (some 3) _ rfl (by kernel_rfl) (by kernel_rfl) (by kernel_rfl) (fun _ _ _ h => h) rfl (Or.inl ⟨by rfl, fun w hSw => by first | (go_simp; done) | (go_simp; with_reducible rfl) | (go_simp; rfl)⟩) (by assumption) ?_
  try simp only [Act.put, List.setIfInBounds_toArray, List.set_cons_zero, List.set_cons_succ]
  refine hx_take 4 (some 7) _ rfl (by kernel_rfl) (by kernel_rfl) (by kernel_rfl) (fun _ _ _ h => h) rfl (Or.inl ⟨by rfl, fun w hSw => by first | (go_simp; done) | (go_simp; with_reducible rfl) | (go_simp; rfl)⟩) (by assumption) ?_
  try simp only [Act.put, List.setIfInBounds_toArray, List.set_cons_zero, List.set_cons_succ]
  refine hx_take 7 (some 10) _ rfl (by kernel_rfl) (by kernel_rfl) (by kernel_rfl) (fun _ _ _ h => h) rfl (Or.inl ⟨by rfl, fun w hSw => by first | (go_simp; done) | (go_simp; with_reducible rfl) | (go_simp; rfl)⟩) (by assumption) ?_
  try simp only [Act.put, List.setIfInBounds_toArray, List.set_cons_zero, List.set_cons_succ]
  refine hx_take 1 (some 4) _ rfl (by kernel_rfl) (by kernel_rfl) (by kernel_rfl) (fun _ _ _ h => h) rfl (Or.inl ⟨by rfl, fun w hSw => by first | (go_simp; done) | (go_simp; with_reducible rfl) | (go_simp; rfl)⟩) (by assumption) ?_
  try simp only [Act.put, List.setIfInBounds_toArray, List.set_cons_zero, List.set_cons_succ]
  refine hx_take 5 (some 8) _ rfl (by kernel_rfl) (by kernel_rfl) (by kernel_rfl) (fun _ _ _ h => h) rfl (Or.inl ⟨by rfl, fun w hSw => by first | (go_simp; done) | (go_simp; with_reducible rfl) | (go_simp; rfl)⟩) (by assumption) ?_
  try simp only [Act.put, List.setIfInBounds_toArray, List.set_cons_zero, List.set_cons_succ]
  refine hx_take 2 (some 5) _ rfl (by kernel_rfl) (by kernel_rfl) (by kernel_rfl) (fun _ _ _ h => h) rfl (Or.inl ⟨by rfl, fun w hSw => by first | (go_simp; done) | (go_simp; with_reducible rfl) | (go_simp; rfl)⟩) (by assumption) ?_
  try simp only [Act.put, List.setIfInBounds_toArray, List.set_cons_zero, List.set_cons_succ]
  refine hx_take 6 (some 9) (.int .i64 ((0 : Nat) : Int)) rfl (by kernel_rfl) (by kernel_rfl) (by kernel_rfl) (fun _ _ _ h => h) rfl (Or.inl ⟨by rfl, fun w hSw => by first | (go_simp; done) | (go_simp; with_reducible rfl) | (go_simp; rfl)⟩) (by assumption) ?_
  try simp only [Act.put, List.setIfInBounds_toArray, List.set_cons_zero, List.set_cons_succ]
  refine hx1 3 (by kernel_rfl) ?_
  refine hx_call 3 (some 6) _ _ (.int .i64 0) (fun w' => wd = w') rfl (by rfl) rfl (by first | (go_simp; done) | (go_simp; rfl)) ((when_any false 9 wd).mono fun _ _ h => ⟨h.1, h.2.symm⟩) ?_
  rintro _ rfl
  refine ⟨hHeld, ?_⟩
  try simp only [Act.put, List.setIfInBounds_toArray, List.set_cons_zero, List.set_cons_succ]
  refine hx1 8 (by kernel_rfl) ?_
  refine hx_callE 8 (some 11) _ _ (ErrR wd (∀ i, i < 0 → True)) rfl (by rfl) rfl (by first | (go_simp; done) | (go_simp; rfl)) ((cA.out wd p1).mono fun _ _ h => h.val) ?_
  rintro v w2 ⟨r, rfl, _, hb2⟩
  have h2 := keepC hb2 hHeld
  refine ⟨h2, ?_⟩
  try simp only [Act.put, List.setIfInBounds_toArray, List.set_cons_zero, List.set_cons_succ]
  have hb3 := alloc1 w2 (.cells #[.int .i64 0, .int .i64 r] 31)
  have h3 := keepC hb3 h2
  have B3 := Blk.slq (xs := [0, r]) (enc := intC) (n := 2) (Blk.new w2 31 #[.int .i64 0, .int .i64 r]) intC_len rfl
  refine hx1 9 (by kernel_rfl) ?_
  refine hx_val 9 (some 12) (.slice (some ⟨w2.heap.size, 0, none⟩) 2 2) (w2.alloc (.cells #[.int .i64 0, .int .i64 r] 31)) rfl (by rfl) rfl (by first | (go_simp; done) | (go_simp; rfl)) h3 ?_
  try simp only [Act.put, List.setIfInBounds_toArray, List.set_cons_zero, List.set_cons_succ]
  refine hx1 10 (by kernel_rfl) ?_
  refine hx_call 10 (some 13) _ _ (.int .i64 (firstNZ [0, r])) (fun w' => w2.alloc (.cells #[.int .i64 0, .int .i64 r] 31) = w') rfl (by rfl) rfl (by first | (go_simp; done) | (go_simp; rfl)) ((dfirst_any _ 2 2 [0, r] _ B3 (by omega)).mono fun _ _ h => ⟨h.1, h.2.symm⟩) ?_
  rintro _ rfl
  refine ⟨h3, ?_⟩
  try simp only [Act.put, List.setIfInBounds_toArray, List.set_cons_zero, List.set_cons_succ]
  refine hx_take 11 (some 2) _ rfl (by kernel_rfl) (by kernel_rfl) (by kernel_rfl) (fun _ _ _ h => h) rfl (Or.inl ⟨by rfl, fun w hSw => by first | (go_simp; done) | (go_simp; with_reducible rfl) | (go_simp; rfl)⟩) (by assumption) ?_
  try simp only [Act.put, List.setIfInBounds_toArray, List.set_cons_zero, List.set_cons_succ]
  refine wpAnyH_done (by kernel_rfl) ?_ _
  have HB := Lib.hid (below_trans' (below_trans' hbd hbd.size hb2) (below_trans' hbd hbd.size hb2).size hb3)
  clear hb2 hb3 h2 h3 B3
  go_wp2_with fail
  go_ret
  exact HP.out _ _ ⟨_, rfl, fun _ => trivial, HB.out⟩
def ckA (b1 b2 b3 b4 b5 : Nat) (u : Int) : Array Value := #[.map (some b1), .map (some b2), .map (some b3), .map (some b4), .map (some b5), .int .i64 u]
set_option maxRecDepth 100000 in
theorem ref_any (p b1 b2 b3 b4 b5 n2 : Nat) (u key value : Int) (w : World) (bk : Blk w p 114 #[.map (some b1), .map (some b2), .map (some b3), .map (some b4), .map (some b5), .int .i64 u]) (mb : Mb w b2 n2) (h20 : key ≠ 20) (h1 : key ≠ 1) (hv : okZ value) :
    Calls Tryz.prog 80 #[.pointer (some ⟨p, 0, none⟩), .int .i64 key, .int .i64 value] w (ErrPost w True) := by
  have HP := Lib.hid (show ∀ e w', (∃ r : Int, e = .returned (.int .i64 r) ∧ (r = 0 → True) ∧ Below w.heap.size w w') → ErrPost w True e w' from fun _ _ h => h)
  have e20 : (key == 20) = false := beq_eq_false_iff_ne.2 h20
  have e1 : (key == 1) = false := beq_eq_false_iff_ne.2 h1
  by_cases h33 : key = 33
  · subst h33
    clear e20 e1 h20 h1
    by_cases h0 : value = 0
    · subst h0
      go_enter Tryz.func80, Tryz.ntmps80
      go_wp2_with (go_at_call 44; refine (when_any _ _ _).mono ?_; rintro e w2 ⟨rfl, rfl⟩)
      go_ret
      exact HP.out _ _ ⟨_, rfl, fun _ => trivial, Below.refl _ _⟩
    · have hne : (value != 0) = true := bne_iff_ne.2 h0
      obtain ⟨b, hlk⟩ := mb.lookup hv
      have q1 := bk.cell 1 rfl
      clear mb bk hv h0
      cases b
      all_goals
        go_enter Tryz.func80, Tryz.ntmps80
        go_wp2_with (go_at_call 44; refine (when_any _ _ _).mono ?_; rintro e w2 ⟨rfl, rfl⟩)
        go_ret
        exact HP.out _ _ ⟨_, rfl, fun _ => trivial, Below.refl _ _⟩
  · have e33 : (key == 33) = false := beq_eq_false_iff_ne.2 h33
    go_enter Tryz.func80, Tryz.ntmps80
    go_wp2_with fail
    go_ret
    exact HP.out _ _ ⟨_, rfl, fun _ => trivial, Below.refl _ _⟩
theorem boxes_hd (w : World) (x y : Value) (H : Array Value) : Blk (((w.alloc (.cells #[x] 104)).alloc (.cells #[y] 3)).alloc (.cells H 60)) w.heap.size 104 #[x]
    ∧ Blk (((w.alloc (.cells #[x] 104)).alloc (.cells #[y] 3)).alloc (.cells H 60)) (w.heap.size + 1) 3 #[y]
    ∧ Blk (((w.alloc (.cells #[x] 104)).alloc (.cells #[y] 3)).alloc (.cells H 60)) (w.heap.size + 1 + 1) 60 H
    ∧ Below w.heap.size w (((w.alloc (.cells #[x] 104)).alloc (.cells #[y] 3)).alloc (.cells H 60)) := by
  have B2 := ((Blk.new w 104 #[x]).alloc (.cells #[y] 3)).alloc (.cells H 60)
  have B3 := (Blk.new (w.alloc (.cells #[x] 104)) 3 #[y]).alloc (.cells H 60)
  have B4 := Blk.new ((w.alloc (.cells #[x] 104)).alloc (.cells #[y] 3)) 60 H
  simp only [World.size_alloc] at B3 B4
  exact ⟨B2, B3, B4, (((alloc1 w _).alloc (by simp) _).alloc (by simp; omega) _)⟩
def hdR (A : Option Addr) (n c : Nat) : Array Value := #[.slice A n c, .int .i64 0, .int .i64 0, .slice none 0 0, .slice none 0 0]
set_option maxRecDepth 100000 in
set_option maxHeartbeats 8000000 in
theorem head_any (el : Int) (p b1 b2 b3 b4 b5 n2 : Nat) (u : Int) (A : Option Addr) (n c : Nat) (ps : List Pr) (w : World) (bk : Blk w p 114 #[.map (some b1), .map (some b2), .map (some b3), .map (some b4), .map (some b5), .int .i64 u]) (mb : Mb w b2 n2) (hs : Sl w 2 prC A n ps) (hn : n ≤ 1000000)
    (hk : ∀ k, k < n → (gP2 ps k).key ≠ 20 ∧ (gP2 ps k).key ≠ 1 ∧ okZ (gP2 ps k).val) :
    Calls Tryz.prog 43 #[.pointer (some ⟨p, 0, none⟩), .int .i64 el, .agg #[.slice A n c, .int .i64 0, .int .i64 0, .slice none 0 0, .slice none 0 0]] w (ErrPost w True) := by
  have HP := Lib.hid (show ∀ e w', (∃ r : Int, e = .returned (.int .i64 r) ∧ (r = 0 → True) ∧ Below w.heap.size w w') → ErrPost w True e w' from fun _ _ h => h)
  have HX := Lib.hid (boxes_hd w (.pointer (some ⟨p, 0, none⟩)) (.int .i64 el) #[.slice A n c, .int .i64 0, .int .i64 0, .slice none 0 0, .slice none 0 0])
  have cP := Lib.hid (fun W (hb : Below w.heap.size w W) => pcheck_any el A n c ps W (hs.below hb) (by omega))
  have cR := Lib.hid (fun W (hb : Below w.heap.size w W) k (h : k < n) => ref_any p b1 b2 b3 b4 b5 n2 u (gP2 ps k).key (gP2 ps k).val W (bk.below hb) (mb.below hb) (hk k h).1 (hk k h).2.1 (hk k h).2.2)
  have cA := Lib.hid (fun W q1 q2 q3 => all_any 0 81 #[.pointer (some ⟨q1, 0, none⟩), .pointer (some ⟨q2, 0, none⟩), .pointer (some ⟨q3, 0, none⟩)] (fun _ => True) W (by omega) (enters_of Tryz.func81 (by kernel_rfl) rfl) (fun i W hi _ => absurd hi (Nat.not_lt_zero _)))
  have HS := Lib.hid (fun W (hb : Below w.heap.size w W) => hs.below hb)
  obtain ⟨r0, hr0⟩ : ∃ r, r = pckE el ps := ⟨_, rfl⟩
  rw [← hr0] at cP
  clear bk mb hs hk hr0
  go_enter Tryz.func43, Tryz.ntmps43
  go_upto_region 0 with fail
  go_cut [3, 4, 5] (fun v3 v4 v5 wx => ∃ p3 p4 p5, v3 = .pointer (some ⟨p3, 0, none⟩) ∧ v4 = .pointer (some ⟨p4, 0, none⟩) ∧ v5 = .pointer (some ⟨p5, 0, none⟩) ∧ Blk wx p3 104 #[.pointer (some ⟨p, 0, none⟩)] ∧ Blk wx p4 3 #[.int .i64 el] ∧ Blk wx p5 60 #[.slice A n c, .int .i64 0, .int .i64 0, .slice none 0 0, .slice none 0 0] ∧ Below w.heap.size w wx)
  case first =>
    go_wp2_with fail
    go_meet
    case rel => exact ⟨_, _, _, rfl, rfl, rfl, HX.out.1, HX.out.2.1, HX.out.2.2.1, HX.out.2.2.2⟩
  case rest =>
  obtain ⟨p3, p4, p5, rfl, rfl, rfl, B3, B4, B5, hbw⟩ := hcut
  clear HX
  generalize wc = w1 at *
  have HK := Lib.hid (show ∀ W, Below w1.heap.size w1 W → W.cell? ⟨p3, 0, none⟩ = some (.pointer (some ⟨p, 0, none⟩)) ∧ W.cell? ⟨p4, 0, none⟩ = some (.int .i64 el) ∧ W.cell? ⟨p5, 0, none⟩ = some (.slice A n c) ∧ W.cell? ⟨p5, 1, none⟩ = some (.int .i64 0) ∧ W.cell? ⟨p5, 2, none⟩ = some (.int .i64 0) ∧ W.cell? ⟨p5, 3, none⟩ = some (.slice none 0 0) ∧ W.cell? ⟨p5, 4, none⟩ = some (.slice none 0 0) from fun W hb => ⟨(B3.below hb).cell 0 rfl, (B4.below hb).cell 0 rfl, (B5.below hb).cell 0 rfl, (B5.below hb).cell 1 rfl, (B5.below hb).cell 2 rfl, (B5.below hb).cell 3 rfl, (B5.below hb).cell 4 rfl⟩)
  have HB := Lib.hid hbw
  obtain ⟨k0, k1, k2, k3, k4, k5, k6⟩ := HK.out w1 (Below.refl _ _)
  have cP1 := cP.out w1 hbw
  clear cP B3 B4 B5 hbw
  go_upto_region 2 with (go_at_call 15; refine cP1.mono ?_; rintro e w2 ⟨rfl, hw⟩)
  clear k0 k1 k2 k3 k4 k5 k6 cP1
  obtain ⟨k0, k1, k2, k3, k4, k5, k6⟩ := HK.out w2 hw
  have hb := below_trans' HB.out HB.out.size hw
  by_cases hr : r0 = 0
  rotate_left
  · have hrb : (r0 == 0) = false := beq_eq_false_iff_ne.2 hr
    have hrn : (r0 != 0) = true := bne_iff_ne.2 hr
    go_wp2_with fail
    go_ret
    exact HP.out _ _ ⟨_, rfl, fun _ => trivial, hb⟩
  subst hr
  go_wp2_with fail
  go_loopw [24] (fun vi wr => ∃ i : Nat, vi = .int .i64 i ∧ i ≤ n ∧ Below w1.heap.size w1 wr) (fun vi _ => n - (intOf vi).toNat)
  case atStart => exact ⟨0, rfl, Nat.zero_le _, hw⟩
  case round =>
    obtain ⟨i, rfl, hi, hwr⟩ := hrel
    clear k0 k1 k2 k3 k4 k5 k6 hw hb
    have hb := below_trans' HB.out HB.out.size hwr
    obtain ⟨k0, k1, k2, k3, k4, k5, k6⟩ := HK.out wr hwr
    by_cases hlt : i < n
    · obtain ⟨ad, e, hl2, m0, m1⟩ := (HS.out wr hb).pr hlt
      have cR1 := Lib.hid (fun W hb => cR.out W hb i hlt)
      generalize (gP2 ps i).key = key at *
      generalize (gP2 ps i).val = val at *
      subst e
      have hlt' : (i : Int) < n := by omega
      go_upto_region 7 with fail
      have hal := alloc1 wr (.cells #[.int .i64 key, .int .i64 val] 91)
      have N9 := Blk.new wr 91 #[.int .i64 key, .int .i64 val]
      have hwr := below_trans' hwr hwr.size hal
      have hb := below_trans' hb hb.size hal
      clear k0 k1 k2 k3 k4 k5 k6 m0 m1 hal
      generalize wr.alloc (.cells #[.int .i64 key, .int .i64 val] 91) = w3 at *
      generalize wr.heap.size = p9 at *
      have n0 := N9.cell 0 rfl
      have n1 := N9.cell 1 rfl
      obtain ⟨k0, k1, k2, k3, k4, k5, k6⟩ := HK.out w3 hwr
      have cR1 := cR1.out w3 hb
      unfold ErrPost at cR1
      go_upto_region 8 with (go_at_call 80; refine cR1.mono ?_; rintro e w4 ⟨r, rfl, _, h4⟩)
      have hwr := below_trans' hwr hwr.size h4
      have hb := below_trans' hb hb.size h4
      clear k0 k1 k2 k3 k4 k5 k6 n0 n1 cR1 N9 h4
      by_cases hr : r = 0
      rotate_left
      · have hrb : (r == 0) = false := beq_eq_false_iff_ne.2 hr
        have hrn : (r != 0) = true := bne_iff_ne.2 hr
        go_wp2_with fail
        go_ret
        exact HP.out _ _ ⟨_, rfl, fun _ => trivial, hb⟩
      subst hr
      go_wp2_with fail
      go_roundw
      case rel => exact ⟨i + 1, by simp, hlt, hwr⟩
      case measure => rw [intOf, intOf]; omega
    · have : i = n := by omega
      subst this
      go_upto_region 12 with fail
      have hal := alloc1 wr (.cells #[.int .i64 0, .int .i64 0, .slice none 0 0, .slice none 0 0] 58)
      have N11 := Blk.new wr 58 #[.int .i64 0, .int .i64 0, .slice none 0 0, .slice none 0 0]
      have hwr := below_trans' hwr hwr.size hal
      have hb := below_trans' hb hb.size hal
      clear k0 k1 k2 k3 k4 k5 k6 hal
      generalize wr.alloc (.cells #[.int .i64 0, .int .i64 0, .slice none 0 0, .slice none 0 0] 58) = w3 at *
      generalize wr.heap.size = p11 at *
      obtain ⟨k0, k1, k2, k3, k4, k5, k6⟩ := HK.out w3 hwr
      have n0 := N11.cell 0 rfl
      go_quiet (fail)
      have hdr := below_drewN (Below.refl w3.heap.size w3) nq
      have hwr := below_trans' hwr hwr.size hdr
      have hb := below_trans' hb hb.size hdr
      have N11 := N11.below hdr
      clear k0 k1 k2 k3 k4 k5 k6 n0 hdr
      generalize w3.drewN nq = w4 at *
      have n0 := N11.cell 0 rfl
      have n1 := N11.cell 1 rfl
      have n2' := N11.cell 2 rfl
      have n3 := N11.cell 3 rfl
      go_upto_region 19 with (go_at_call 67; refine (in_any _ _ _ _).mono ?_; rintro e w5 ⟨rfl, hwe⟩; obtain rfl := hwe.symm; simp only [])
      go_wp2_with fail
      go_loopw [77] (fun vi wr' => vi = .int .i64 0 ∧ w4 = wr') (fun _ _ => 0)
      case atStart => exact ⟨rfl, rfl⟩
      case round =>
        obtain ⟨rfl, rfl⟩ := hrel
        have cA1 := cA.out w4 p3 p4 p11
        unfold ErrPost at cA1
        go_wp2_with (go_at_call 58; refine cA1.mono ?_; rintro e w5 ⟨r, rfl, _, h5⟩)
        go_ret
        exact HP.out _ _ ⟨_, rfl, fun _ => trivial, below_trans' hb hb.size h5⟩
end Go.Proofs.YthbodpjkckminaaGreatDoor

namespace Go.Proofs.YthbodpjkckminaaGreatDoor
open Go.RowKit Go.Maps

theorem alloc_itm (w : World) (C : Array Value) (t : TypeId) : Blk (w.alloc (.cells C t)) w.heap.size t C ∧ Below w.heap.size w (w.alloc (.cells C t)) := ⟨Blk.new w t C, alloc1 w _⟩
set_option maxRecDepth 100000 in
set_option maxHeartbeats 8000000 in
theorem form_any (A : Option Addr) (n c : Nat) (w : World) :
    Calls Tryz.prog 109 #[.agg #[.int .i64 2, .int .i64 0, .int .i64 0, .string ⟨#[]⟩, .slice A n c, .int .i64 0, .int .i64 0, .slice none 0 0, .slice none 0 0, .slice none 0 0, .slice none 0 0]] w fun e w' => e = .returned (.int .i64 0) ∧ Below w.heap.size w w' := by
  have HX := Lib.hid (alloc_itm w #[.int .i64 2, .int .i64 0, .int .i64 0, .string ⟨#[]⟩, .slice A n c, .int .i64 0, .int .i64 0, .slice none 0 0, .slice none 0 0, .slice none 0 0, .slice none 0 0] 102)
  go_enter Tryz.func109, Tryz.ntmps109
  go_upto_region 1 with fail
  obtain ⟨B1, hb⟩ := HX.out
  clear HX
  generalize w.alloc (.cells #[.int .i64 2, .int .i64 0, .int .i64 0, .string ⟨#[]⟩, .slice A n c, .int .i64 0, .int .i64 0, .slice none 0 0, .slice none 0 0, .slice none 0 0, .slice none 0 0] 102) = w1 at *
  obtain ⟨p1, hp1⟩ : ∃ p, p = w.heap.size := ⟨_, rfl⟩
  rw [← hp1] at B1 ⊢
  have HB := Lib.hid hb
  rw [← hp1] at HB
  have HP := Lib.hid hp1
  clear hp1 hb
  have q0 := B1.cell 0 rfl
  have q1 := B1.cell 1 rfl
  have q2 := B1.cell 2 rfl
  have q3 := B1.cell 3 rfl
  have q4 := B1.cell 9 rfl
  have q5 := B1.cell 10 rfl
  have cV := valid_any ⟨#[]⟩ w1 (by decide)
  rw [show (ptsO (byts ⟨#[]⟩)).isSome = true from by kernel_rfl] at cV
  go_wp2_with (first | (go_at_call 67; refine (in_any _ _ _ _).mono ?_; rintro e w5 ⟨rfl, rfl⟩; simp only []) | (go_at_call 92; refine cV.mono ?_; rintro e w5 ⟨rfl, rfl⟩))
  go_ret
  exact ⟨rfl, by rw [← HP.out]; exact HB.out⟩
def CkI (w0 : World) (p b1 b2 b3 b4 b5 n2 u : Nat) (v : World) : Prop := Blk v p 114 #[.map (some b1), .map (some b2), .map (some b3), .map (some b4), .map (some b5), .int .i64 (u : Nat)] ∧ Mb v b2 n2 ∧ w0.grownBy v (some p)
section
variable {w0 v v' : World} {p b1 b2 b3 b4 b5 n2 u : Nat}
theorem CkI.below (h : CkI w0 p b1 b2 b3 b4 b5 n2 u v) (hb : Below v.heap.size v v') : CkI w0 p b1 b2 b3 b4 b5 n2 u v' :=
  ⟨h.1.below hb, h.2.1.below hb, h.2.2.trans (grownB hb)⟩
theorem CkI.unit (h : CkI w0 p b1 b2 b3 b4 b5 n2 u v) : CkI w0 p b1 b2 b3 b4 b5 n2 (u + 1) (v.setCell ⟨p, 5, none⟩ (.int .i64 ((u : Int) + 1))) :=
  ⟨h.1.set_ 5 _, h.2.1.keep (gset v p 5 _) (h.2.1.ne_cells h.1), h.2.2.trans (gset v p 5 _)⟩
theorem CkI.from_ {w1 : World} (h : CkI w1 p b1 b2 b3 b4 b5 n2 u v) (hg : w0.grownBy w1 (some p)) : CkI w0 p b1 b2 b3 b4 b5 n2 u v := ⟨h.1, h.2.1, hg.trans h.2.2⟩
end
theorem boxes_im (w : World) (C D : Array Value) : Blk ((w.alloc (.cells C 102)).alloc (.cells D 110)) w.heap.size 102 C
    ∧ Blk ((w.alloc (.cells C 102)).alloc (.cells D 110)) (w.heap.size + 1) 110 D
    ∧ Below w.heap.size w ((w.alloc (.cells C 102)).alloc (.cells D 110)) := by
  have B2 := (Blk.new w 102 C).alloc (.cells D 110)
  have B3 := Blk.new (w.alloc (.cells C 102)) 110 D
  simp only [World.size_alloc] at B3
  exact ⟨B2, B3, ((alloc1 w _).alloc (by simp) _)⟩
set_option maxRecDepth 100000 in
set_option maxHeartbeats 8000000 in
theorem item_any (p b1 b2 b3 b4 b5 n2 u : Nat) (A : Option Addr) (n c : Nat) (ps : List Pr) (w : World) (h0 : CkI w p b1 b2 b3 b4 b5 n2 u w) (hu : u ≤ 1000000) (hs : ∀ W, w.grownBy W (some p) → Sl W 2 prC A n ps) (hn : n ≤ 1000000)
    (hk : ∀ k, k < n → (gP2 ps k).key ≠ 20 ∧ (gP2 ps k).key ≠ 1 ∧ okZ (gP2 ps k).val) :
    Calls Tryz.prog 84 #[.pointer (some ⟨p, 0, none⟩), .agg #[.int .i64 2, .int .i64 0, .int .i64 0, .string ⟨#[]⟩, .slice A n c, .int .i64 0, .int .i64 0, .slice none 0 0, .slice none 0 0, .slice none 0 0, .slice none 0 0], .agg #[.bool true, .bool false, .int .i64 0]] w (CodePost (CkI w p b1 b2 b3 b4 b5 n2 (u + 1))) := by
  have HP := Lib.hid (show ∀ e w', (∃ r : Int, e = .returned (.int .i64 r) ∧ CkI w p b1 b2 b3 b4 b5 n2 (u + 1) w') → CodePost (CkI w p b1 b2 b3 b4 b5 n2 (u + 1)) e w' from fun _ _ h => h)
  have HX := Lib.hid (boxes_im w #[.int .i64 2, .int .i64 0, .int .i64 0, .string ⟨#[]⟩, .slice A n c, .int .i64 0, .int .i64 0, .slice none 0 0, .slice none 0 0, .slice none 0 0, .slice none 0 0] #[.bool true, .bool false, .int .i64 0])
  have cF := Lib.hid (fun W => form_any A n c W)
  have cH := Lib.hid (fun W (h : CkI w p b1 b2 b3 b4 b5 n2 (u + 1) W) => head_any 2 p b1 b2 b3 b4 b5 n2 ((u + 1 : Nat) : Int) A n c ps W h.1 h.2.1 (hs W h.2.2) hn hk)
  clear hs hk hn
  go_enter Tryz.func84, Tryz.ntmps84
  go_upto_region 0 with fail
  go_cut [4, 5] (fun v4 v5 wx => ∃ p4 p5, v4 = .pointer (some ⟨p4, 0, none⟩) ∧ v5 = .pointer (some ⟨p5, 0, none⟩) ∧ Blk wx p4 102 #[.int .i64 2, .int .i64 0, .int .i64 0, .string ⟨#[]⟩, .slice A n c, .int .i64 0, .int .i64 0, .slice none 0 0, .slice none 0 0, .slice none 0 0, .slice none 0 0] ∧ Blk wx p5 110 #[.bool true, .bool false, .int .i64 0] ∧ CkI w p b1 b2 b3 b4 b5 n2 u wx)
  case first =>
    go_wp2_with fail
    go_meet
    case rel => exact ⟨_, _, rfl, rfl, HX.out.1, HX.out.2.1, h0.below HX.out.2.2⟩
  case rest =>
  obtain ⟨p4, p5, rfl, rfl, B4, B5, X1⟩ := hcut
  clear HX h0
  generalize wc = w1 at *
  have q0 := B4.cell 0 rfl
  have q1 := B4.cell 1 rfl
  have q2 := B4.cell 2 rfl
  have q3 := B4.cell 3 rfl
  have q4 := B4.cell 4 rfl
  have q5 := B4.cell 5 rfl
  have q6 := B4.cell 6 rfl
  have q7 := B4.cell 7 rfl
  have q8 := B4.cell 8 rfl
  have q9 := B4.cell 9 rfl
  have q10 := B4.cell 10 rfl
  have cF := cF.out w1
  go_upto_region 4 with (go_at_call 109; refine cF.mono ?_; rintro e w2 ⟨rfl, hb2⟩)
  have X2 := X1.below hb2
  have B4 := B4.below hb2
  have B5 := B5.below hb2
  clear q0 q1 q2 q3 q4 q5 q6 q7 q8 q9 q10 X1 cF hb2
  have u0 := X2.1.cell 5 rfl
  have f0 := X2.1.frozen 5
  have hwr : IntKind.i64.wrap ((u : Int) + 1) = (u : Int) + 1 := IntWalk.i64_in _ (by omega)
  go_upto_region 5 with fail
  have X3 := X2.unit
  have B4 := B4.keep (gset w2 p 5 (.int .i64 ((u : Int) + 1))) (X2.1.ne_ty B4 (by decide))
  have B5 := B5.keep (gset w2 p 5 (.int .i64 ((u : Int) + 1))) (X2.1.ne_ty B5 (by decide))
  clear X2 u0 f0
  generalize w2.setCell ⟨p, 5, none⟩ (.int .i64 ((u : Int) + 1)) = w3 at *
  have q0 := B4.cell 0 rfl
  have q4 := B4.cell 4 rfl
  have q5 := B4.cell 5 rfl
  have q6 := B4.cell 6 rfl
  have q7 := B4.cell 7 rfl
  have q8 := B4.cell 8 rfl
  have cH := cH.out w3 X3
  unfold ErrPost at cH
  go_upto_region 29 with (go_at_call 43; refine cH.mono ?_; rintro e w4 ⟨r, rfl, _, hb4⟩)
  have X4 := X3.below hb4
  have B4 := B4.below hb4
  clear q0 q4 q5 q6 q7 q8 X3 cH hb4 B5
  by_cases hr : r = 0
  rotate_left
  · have hrb : (r == 0) = false := beq_eq_false_iff_ne.2 hr
    have hrn : (r != 0) = true := bne_iff_ne.2 hr
    go_wp2_with fail
    go_ret
    exact HP.out _ _ ⟨_, rfl, X4⟩
  subst hr
  have q0 := B4.cell 0 rfl
  go_wp2_with fail
  go_ret
  exact HP.out _ _ ⟨_, rfl, X4⟩
end Go.Proofs.YthbodpjkckminaaGreatDoor

namespace Go.Proofs.YthbodpjkckminaaGreatDoor
open Go.RowKit Go.Maps

def ImS (g z q1 q2 q3 p : Nat) (A : Option Addr) (m c : Nat) (sA : Option Addr) (sn sc : Nat) (W : World) : Prop :=
  W.cell? ⟨q1, 0, none⟩ = some (.pointer (some ⟨p, 0, none⟩)) ∧ W.cell? ⟨q2, 0, none⟩ = some (.slice A m c) ∧ W.cell? ⟨q3, 0, none⟩ = some (.bool true) ∧ W.cell? ⟨q3, 1, none⟩ = some (.bool false) ∧ W.cell? ⟨q3, 2, none⟩ = some (.int .i64 0)
  ∧ W.cell? ⟨g, z, none⟩ = some (.int .i64 2) ∧ W.cell? ⟨g, z + 1, none⟩ = some (.int .i64 0) ∧ W.cell? ⟨g, z + 2, none⟩ = some (.int .i64 0) ∧ W.cell? ⟨g, z + 3, none⟩ = some (.string ⟨#[]⟩) ∧ W.cell? ⟨g, z + 4, none⟩ = some (.slice sA sn sc) ∧ W.cell? ⟨g, z + 5, none⟩ = some (.int .i64 0) ∧ W.cell? ⟨g, z + 6, none⟩ = some (.int .i64 0)
  ∧ W.cell? ⟨g, z + 7, none⟩ = some (.slice none 0 0) ∧ W.cell? ⟨g, z + 8, none⟩ = some (.slice none 0 0) ∧ W.cell? ⟨g, z + 9, none⟩ = some (.slice none 0 0) ∧ W.cell? ⟨g, z + 10, none⟩ = some (.slice none 0 0)
/-- the items that are checked here: marks of paragraphs, none of a style. -/
structure CkIm (ys : List Fi) (k : Nat) : Prop where
  kd : (gFi ys k).kind = 2
  tx : (gFi ys k).text = ⟨#[]⟩
  ln : (gFi ys k).ps.length ≤ 1000000
  ky : ∀ j, j < (gFi ys k).ps.length → (gP2 (gFi ys k).ps j).key ≠ 20 ∧ (gP2 (gFi ys k).ps j).key ≠ 1 ∧ okZ (gP2 (gFi ys k).ps j).val
theorem ims_of {w : World} {g o q1 q2 q3 p : Nat} {A : Option Addr} {m c : Nat} {xs : List It} {ys : List Fi} {k : Nat} {s : SV} (hC : CkIm ys k) (hx : gIt xs k = itF (gFi ys k) s) (eA : A = some ⟨g, o, none⟩) (hk : k < m)
    (hf : ∀ W, w.grownBy W (some p) → Fl W A m xs ys) (B1 : Blk w q1 104 #[.pointer (some ⟨p, 0, none⟩)]) (B2 : Blk w q2 54 #[.slice A m c]) (B3 : Blk w q3 110 #[.bool true, .bool false, .int .i64 0]) (n1 : some p ≠ some q1) (n2 : some p ≠ some q2) (n3 : some p ≠ some q3) :
    ∀ W, w.grownBy W (some p) → ImS g (o + k * 11) q1 q2 q3 p A m c s.A s.n s.c W := fun W hg => by
  obtain ⟨g', o', e, _, hr⟩ := (hf W hg).i.at_ itZ hk
  rw [eA] at e
  cases e
  rw [show xs.getD k itZ = gIt xs k from rfl, hx] at hr
  have e1 : itC (itF (gFi ys k) s) = [.int .i64 2, .int .i64 0, .int .i64 0, .string ⟨#[]⟩, .slice s.A s.n s.c, .int .i64 0, .int .i64 0, .slice none 0 0, .slice none 0 0, .slice none 0 0, .slice none 0 0] := by
    unfold itC itF
    rw [hC.kd, hC.tx]
    rfl
  rw [e1] at hr
  have C1 := B1.keep hg n1
  have C2 := B2.keep hg n2
  have C3 := B3.keep hg n3
  exact ⟨C1.cell 0 rfl, C2.cell 0 rfl, C3.cell 0 rfl, C3.cell 1 rfl, C3.cell 2 rfl, hr 0 _ rfl, hr 1 _ rfl, hr 2 _ rfl, hr 3 _ rfl, hr 4 _ rfl, hr 5 _ rfl, hr 6 _ rfl, hr 7 _ rfl, hr 8 _ rfl, hr 9 _ rfl, hr 10 _ rfl⟩
set_option maxRecDepth 100000 in
set_option maxHeartbeats 8000000 in
theorem items1_any (p b1 b2 b3 b4 b5 n2 u : Nat) (A : Option Addr) (m c : Nat) (xs : List It) (ys : List Fi) (k q1 q2 q3 : Nat) (w : World) (h0 : CkI w p b1 b2 b3 b4 b5 n2 u w) (hu : u ≤ 1000000)
    (B1 : Blk w q1 104 #[.pointer (some ⟨p, 0, none⟩)]) (B2 : Blk w q2 54 #[.slice A m c]) (B3 : Blk w q3 110 #[.bool true, .bool false, .int .i64 0])
    (hf : ∀ W, w.grownBy W (some p) → Fl W A m xs ys) (hk : k < m) (hC : CkIm ys k) :
    Calls Tryz.prog 83 #[.int .i64 (k : Nat), .pointer (some ⟨q1, 0, none⟩), .pointer (some ⟨q2, 0, none⟩), .pointer (some ⟨q3, 0, none⟩)] w (CodePost (CkI w p b1 b2 b3 b4 b5 n2 (u + 1))) := by
  have HP := Lib.hid (show ∀ e w', (∃ r : Int, e = .returned (.int .i64 r) ∧ CkI w p b1 b2 b3 b4 b5 n2 (u + 1) w') → CodePost (CkI w p b1 b2 b3 b4 b5 n2 (u + 1)) e w' from fun _ _ h => h)
  have hf0 := hf w (World.grownBy.refl _ _)
  obtain ⟨⟨sA, sn, sc⟩, hx, hs0⟩ := hf0.f k hk
  obtain ⟨g, o, eA, _, _⟩ := hf0.i.at_ itZ hk
  have HS := Lib.hid (ims_of hC hx eA hk hf B1 B2 B3 (h0.1.ne_ty B1 (by decide)) (h0.1.ne_ty B2 (by decide)) (h0.1.ne_ty B3 (by decide)))
  have hsn : (gFi ys k).ps.length = sn := hs0.len
  have cI := Lib.hid (fun W (hg : w.grownBy W (some p)) (h : CkI w p b1 b2 b3 b4 b5 n2 u W) => item_any p b1 b2 b3 b4 b5 n2 u sA sn sc (gFi ys k).ps W ⟨h.1, h.2.1, World.grownBy.refl _ _⟩ hu (fun W' hg' => by
    obtain ⟨s', hx', hs'⟩ := (hf W' (hg.trans hg')).f k hk
    have e : itF (gFi ys k) s' = itF (gFi ys k) ⟨sA, sn, sc⟩ := hx'.symm.trans hx
    have e2 : s' = ⟨sA, sn, sc⟩ := by
      unfold itF at e
      injection e with _ _ _ _ e
      injection e with e
    rw [e2] at hs'
    exact hs') (by rw [← hsn]; exact hC.ln) (by rw [← hsn]; exact hC.ky))
  have hk' : (k : Int) < m := by omega
  clear B1 B2 B3 hf hf0 hx hs0 hC hsn
  subst eA
  go_enter Tryz.func83, Tryz.ntmps83
  go_upto_region 1 with fail
  unfold ImS at HS
  refine wp_region_held_drew (S := fun W => W.cell? ⟨q1, 0, none⟩ = some (.pointer (some ⟨p, 0, none⟩)) ∧ W.cell? ⟨q2, 0, none⟩ = some (.slice (some ⟨g, o, none⟩) m c) ∧ W.cell? ⟨q3, 0, none⟩ = some (.bool true) ∧ W.cell? ⟨q3, 1, none⟩ = some (.bool false) ∧ W.cell? ⟨q3, 2, none⟩ = some (.int .i64 0)
  ∧ W.cell? ⟨g, o + k * 11, none⟩ = some (.int .i64 2) ∧ W.cell? ⟨g, o + k * 11 + 1, none⟩ = some (.int .i64 0) ∧ W.cell? ⟨g, o + k * 11 + 2, none⟩ = some (.int .i64 0) ∧ W.cell? ⟨g, o + k * 11 + 3, none⟩ = some (.string ⟨#[]⟩) ∧ W.cell? ⟨g, o + k * 11 + 4, none⟩ = some (.slice sA sn sc) ∧ W.cell? ⟨g, o + k * 11 + 5, none⟩ = some (.int .i64 0) ∧ W.cell? ⟨g, o + k * 11 + 6, none⟩ = some (.int .i64 0)
  ∧ W.cell? ⟨g, o + k * 11 + 7, none⟩ = some (.slice none 0 0) ∧ W.cell? ⟨g, o + k * 11 + 8, none⟩ = some (.slice none 0 0) ∧ W.cell? ⟨g, o + k * 11 + 9, none⟩ = some (.slice none 0 0) ∧ W.cell? ⟨g, o + k * 11 + 10, none⟩ = some (.slice none 0 0)) (by kernel_rfl) (HS.out w (World.grownBy.refl _ _)) (fun hHeld => ?_)
  have hgd : w.grownBy w.drew (some p) := grownB (bDrew (Below.refl _ w))
  have X := h0.below (bDrew (Below.refl _ w))
  clear h0
  generalize w.drew = wd at *
  refine hx_take 0 (some 6) _ rfl (by kernel_rfl) (by kernel_rfl) (by kernel_rfl) (fun _ _ _ h => h) rfl (Or.inl ⟨by rfl, fun w hSw => by first | (go_simp; done) | (go_simp; with_reducible rfl) | (go_simp; rfl)⟩) (by assumption) ?_
  try simp only [Act.put, List.setIfInBounds_toArray, List.set_cons_zero, List.set_cons_succ]
  refine hx_take 1 (some 7) _ rfl (by kernel_rfl) (by kernel_rfl) (by kernel_rfl) (fun _ _ _ h => h) rfl (Or.inl ⟨by rfl, fun w hSw => by first | (go_simp; done) | (go_simp; with_reducible rfl) | (go_simp; rfl)⟩) (by assumption) ?_
  try simp only [Act.put, List.setIfInBounds_toArray, List.set_cons_zero, List.set_cons_succ]
  refine hx_take 2 (some 8) _ rfl (by kernel_rfl) (by kernel_rfl) (by kernel_rfl) (fun _ _ _ h => h) rfl (Or.inl ⟨by rfl, fun w hSw => by first | (go_simp; done) | (go_simp; with_reducible rfl) | (go_simp; rfl)⟩) (by assumption) ?_
  try simp only [Act.put, List.setIfInBounds_toArray, List.set_cons_zero, List.set_cons_succ]
  refine hx_take 5 (some 11) (.agg #[.bool true, .bool false, .int .i64 0]) rfl (by kernel_rfl) (by kernel_rfl) (by kernel_rfl) (fun _ _ _ h => h) rfl (Or.inl ⟨by rfl, fun w hSw => by first | (go_simp; done) | (go_simp; with_reducible rfl) | (go_simp; rfl)⟩) (by assumption) ?_
  try simp only [Act.put, List.setIfInBounds_toArray, List.set_cons_zero, List.set_cons_succ]
  refine hx_take 3 (some 9) (.pointer (some ⟨g, o + k * 11, none⟩)) rfl (by kernel_rfl) (by kernel_rfl) (by kernel_rfl) (fun _ _ _ h => h) rfl (Or.inl ⟨by rfl, fun w hSw => by first | (go_simp; done) | (go_simp; with_reducible rfl) | (go_simp; rfl)⟩) (by assumption) ?_
  try simp only [Act.put, List.setIfInBounds_toArray, List.set_cons_zero, List.set_cons_succ]
  refine hx_take 4 (some 10) (.agg #[.int .i64 2, .int .i64 0, .int .i64 0, .string ⟨#[]⟩, .slice sA sn sc, .int .i64 0, .int .i64 0, .slice none 0 0, .slice none 0 0, .slice none 0 0, .slice none 0 0]) rfl (by kernel_rfl) (by kernel_rfl) (by kernel_rfl) (fun _ _ _ h => h) rfl (Or.inl ⟨by rfl, fun w hSw => by first | (go_simp; done) | (go_simp; with_reducible rfl) | (go_simp; rfl)⟩) (by assumption) ?_
  try simp only [Act.put, List.setIfInBounds_toArray, List.set_cons_zero, List.set_cons_succ]
  have cI := cI.out wd hgd X
  refine hx1 6 (by kernel_rfl) ?_
  refine hx_callE 6 (some 12) _ _ (CodeR (CkI wd p b1 b2 b3 b4 b5 n2 (u + 1))) rfl (by rfl) rfl (by first | (go_simp; done) | (go_simp; rfl)) (cI.mono fun _ _ h => h.val) ?_
  rintro v w4 ⟨r, rfl, X4⟩
  have X5 := X4.from_ hgd
  refine ⟨HS.out w4 X5.2.2, ?_⟩
  try simp only [Act.put, List.setIfInBounds_toArray, List.set_cons_zero, List.set_cons_succ]
  have h4 := HS.out w4 X5.2.2
  refine hx_take 7 (some 5) _ rfl (by kernel_rfl) (by kernel_rfl) (by kernel_rfl) (fun _ _ _ h => h) rfl (Or.inl ⟨by rfl, fun w hSw => by first | (go_simp; done) | (go_simp; with_reducible rfl) | (go_simp; rfl)⟩) (by assumption) ?_
  try simp only [Act.put, List.setIfInBounds_toArray, List.set_cons_zero, List.set_cons_succ]
  refine wpAnyH_done (by kernel_rfl) ?_ _
  clear h4 X4 X hgd hHeld
  go_wp2_with fail
  go_ret
  exact HP.out _ _ ⟨_, rfl, X5⟩
theorem boxes_ims (w : World) (x y : Value) (D : Array Value) : Blk (((w.alloc (.cells #[x] 104)).alloc (.cells #[y] 54)).alloc (.cells D 110)) w.heap.size 104 #[x]
    ∧ Blk (((w.alloc (.cells #[x] 104)).alloc (.cells #[y] 54)).alloc (.cells D 110)) (w.heap.size + 1) 54 #[y]
    ∧ Blk (((w.alloc (.cells #[x] 104)).alloc (.cells #[y] 54)).alloc (.cells D 110)) (w.heap.size + 1 + 1) 110 D
    ∧ Below w.heap.size w (((w.alloc (.cells #[x] 104)).alloc (.cells #[y] 54)).alloc (.cells D 110)) := by
  have B2 := ((Blk.new w 104 #[x]).alloc (.cells #[y] 54)).alloc (.cells D 110)
  have B3 := (Blk.new (w.alloc (.cells #[x] 104)) 54 #[y]).alloc (.cells D 110)
  have B4 := Blk.new ((w.alloc (.cells #[x] 104)).alloc (.cells #[y] 54)) 110 D
  simp only [World.size_alloc] at B3 B4
  exact ⟨B2, B3, B4, (((alloc1 w _).alloc (by simp) _).alloc (by simp; omega) _)⟩
def CkU (w : World) (p b1 b2 b3 b4 b5 n2 m : Nat) (w' : World) : Prop := ∃ u, u ≤ m ∧ CkI w p b1 b2 b3 b4 b5 n2 u w'
set_option maxRecDepth 100000 in
set_option maxHeartbeats 8000000 in
theorem ckItems_any (p b1 b2 b3 b4 b5 n2 : Nat) (A : Option Addr) (m c : Nat) (xs : List It) (ys : List Fi) (w : World) (h0 : CkI w p b1 b2 b3 b4 b5 n2 0 w) (hm : m ≤ 1000)
    (hf : ∀ W, w.grownBy W (some p) → Fl W A m xs ys) (hC : ∀ k, k < m → CkIm ys k) :
    Calls Tryz.prog 45 #[.pointer (some ⟨p, 0, none⟩), .slice A m c, .agg #[.bool true, .bool false, .int .i64 0]] w (CodePost (CkU w p b1 b2 b3 b4 b5 n2 m)) := by
  have HP := Lib.hid (show ∀ e w', (∃ r : Int, e = .returned (.int .i64 r) ∧ CkU w p b1 b2 b3 b4 b5 n2 m w') → CodePost (CkU w p b1 b2 b3 b4 b5 n2 m) e w' from fun _ _ h => h)
  have HX := Lib.hid (boxes_ims w (.pointer (some ⟨p, 0, none⟩)) (.slice A m c) #[.bool true, .bool false, .int .i64 0])
  have cA := Lib.hid (fun W q1 q2 q3 (hw : CkI w p b1 b2 b3 b4 b5 n2 0 W) (B1 : Blk W q1 104 #[.pointer (some ⟨p, 0, none⟩)]) (B2 : Blk W q2 54 #[.slice A m c]) (B3 : Blk W q3 110 #[.bool true, .bool false, .int .i64 0]) =>
    allI_any m 83 #[.pointer (some ⟨q1, 0, none⟩), .pointer (some ⟨q2, 0, none⟩), .pointer (some ⟨q3, 0, none⟩)] (fun i V => CkI W p b1 b2 b3 b4 b5 n2 i V) W (by omega) (enters_of Tryz.func83 (by kernel_rfl) rfl) ⟨hw.1, hw.2.1, World.grownBy.refl _ _⟩
      (fun i V hi hV => Calls.mono (items1_any p b1 b2 b3 b4 b5 n2 i A m c xs ys i q1 q2 q3 V ⟨hV.1, hV.2.1, World.grownBy.refl _ _⟩ (by omega) (B1.keep hV.2.2 (hw.1.ne_ty B1 (by decide))) (B2.keep hV.2.2 (hw.1.ne_ty B2 (by decide))) (B3.keep hV.2.2 (hw.1.ne_ty B3 (by decide))) (fun W' hg' => hf W' (hw.2.2.trans (hV.2.2.trans hg'))) hi (hC i hi)) (fun _ _ ⟨r, e, h⟩ => ⟨r, e, h.from_ hV.2.2⟩)))
  clear hf hC
  go_enter Tryz.func45, Tryz.ntmps45
  go_upto_region 0 with fail
  go_cut [3, 4, 5] (fun v3 v4 v5 wx => ∃ q1 q2 q3, v3 = .pointer (some ⟨q1, 0, none⟩) ∧ v4 = .pointer (some ⟨q2, 0, none⟩) ∧ v5 = .pointer (some ⟨q3, 0, none⟩) ∧ Blk wx q1 104 #[.pointer (some ⟨p, 0, none⟩)] ∧ Blk wx q2 54 #[.slice A m c] ∧ Blk wx q3 110 #[.bool true, .bool false, .int .i64 0] ∧ CkI w p b1 b2 b3 b4 b5 n2 0 wx)
  case first =>
    go_wp2_with fail
    go_meet
    case rel => exact ⟨_, _, _, rfl, rfl, rfl, HX.out.1, HX.out.2.1, HX.out.2.2.1, h0.below HX.out.2.2.2⟩
  case rest =>
  obtain ⟨q1, q2, q3, rfl, rfl, rfl, B1, B2, B3, X1⟩ := hcut
  clear HX h0
  generalize wc = w1 at *
  have k2 := B2.cell 0 rfl
  have cA := cA.out w1 q1 q2 q3 X1 B1 B2 B3
  unfold CodePost at cA
  have HG := Lib.hid X1.2.2
  clear B1 B2 B3 X1
  go_wp2_with (go_at_call 58; refine cA.mono ?_; rintro e w2 ⟨r, rfl, j, hj, X2⟩)
  go_ret
  exact HP.out _ _ ⟨_, rfl, j, hj, X2.from_ HG.out⟩
end Go.Proofs.YthbodpjkckminaaGreatDoor
