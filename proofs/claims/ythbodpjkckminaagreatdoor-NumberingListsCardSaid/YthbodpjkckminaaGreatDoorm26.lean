/- document.Check of paragraphs' marks and lists: where it is OK, the levels of all lists are valid. The built documents are looked at; the law Separate, plain. -/
import Derived.Test.YthbodpjkckminaaGreatDoorm25
import Derived.Test.YthbodpjkckminaaGreatDoorV63m
import Derived.Test.YthbodpjkckminaaGreatDoorm21
namespace Go.Proofs.YthbodpjkckminaaGreatDoor
open Go.RowKit Go.Maps

set_option maxRecDepth 100000 in
set_option maxHeartbeats 16000000 in
theorem dcheck_any (A : Option Addr) (m c : Nat) (LA : Option Addr) (ln lc : Nat) (xs : List It) (ys : List Fi) (es : List LsE) (vs : List (List Lv)) (w : World) (ha : Fl w A m xs ys) (hm : m ≤ 1000) (hC : ∀ k, k < m → CkIm ys k) (hl : LsT w LA ln es vs) (hln : ln ≤ 64) (hok : ∀ k, k < ln → okZ (gE es k).id) :
    Calls Tryz.prog 19 #[.agg (docL A m c LA ln lc).toArray] w (ErrPost w (∀ k, k < ln → clE (vs.getD k []) = 0)) := by
  have HP := Lib.hid (show ∀ e w', (∃ r : Int, e = .returned (.int .i64 r) ∧ (r = 0 → ∀ k, k < ln → clE (vs.getD k []) = 0) ∧ Below w.heap.size w w') → ErrPost w (∀ k, k < ln → clE (vs.getD k []) = 0) e w' from fun _ _ h => h)
  have cS := Lib.hid (fun W (hb : Below w.heap.size w W) => ckSettings_any none none none LA 0 0 0 ln lc es vs W (hl.below hb) hln)
  have cV := Lib.hid (fun W => ckRevs_any none 0 W)
  have cN := Lib.hid (fun W (hb : Below w.heap.size w W) => newCk_any A m c LA ln lc es W (hl.below hb).l (by omega) hok)
  rw [show (docL A m c LA ln lc).toArray = #[.slice A m c, .slice none 0 0, .int .i64 0, .int .i64 0, .slice none 0 0, .slice none 0 0, .slice none 0 0, .slice none 0 0, .slice LA ln lc, .slice none 0 0, .slice none 0 0] from rfl] at *
  have N1 := Blk.new w 63 #[.slice A m c, .slice none 0 0, .int .i64 0, .int .i64 0, .slice none 0 0, .slice none 0 0, .slice none 0 0, .slice none 0 0, .slice LA ln lc, .slice none 0 0, .slice none 0 0]
  have hb1 := alloc1 w (.cells #[.slice A m c, .slice none 0 0, .int .i64 0, .int .i64 0, .slice none 0 0, .slice none 0 0, .slice none 0 0, .slice none 0 0, .slice LA ln lc, .slice none 0 0, .slice none 0 0] 63)
  have cI := Lib.hid (fun W p b1 b2 b3 b4 b5 n2 (hb : Below w.heap.size w W) (hp : w.heap.size ≤ p) (h : CkI W p b1 b2 b3 b4 b5 n2 0 W) => ckItems_any p b1 b2 b3 b4 b5 n2 A m c xs ys W h hm (fun W' hg => ha.below (hb.grown hg hb.size (fun k e => by cases e; exact hp))) hC)
  have cH := Lib.hid (fun W p b1 b2 b3 b4 b5 n2 (h : CkI W p b1 b2 b3 b4 b5 n2 0 W) => head_any 3 p b1 b2 b3 b4 b5 n2 ((0 : Nat) : Int) none 0 0 [] W h.1 h.2.1 Sl.nil (by omega) (fun k hk => absurd hk (Nat.not_lt_zero _)))
  obtain ⟨p1, hp1⟩ : ∃ p, p = w.heap.size := ⟨_, rfl⟩
  clear ha hl hok hC
  go_enter Tryz.func19, Tryz.ntmps19
  go_upto_region 1 with fail
  generalize w.alloc (.cells #[.slice A m c, .slice none 0 0, .int .i64 0, .int .i64 0, .slice none 0 0, .slice none 0 0, .slice none 0 0, .slice none 0 0, .slice LA ln lc, .slice none 0 0, .slice none 0 0] 63) = w1 at *
  rw [← hp1] at N1 ⊢
  clear hp1
  have HK := Lib.hid (show ∀ W, Below w1.heap.size w1 W → W.cell? ⟨p1, 6, none⟩ = some (.slice none 0 0) ∧ W.cell? ⟨p1, 7, none⟩ = some (.slice none 0 0) ∧ W.cell? ⟨p1, 8, none⟩ = some (.slice LA ln lc) ∧ W.cell? ⟨p1, 9, none⟩ = some (.slice none 0 0) ∧ W.cell? ⟨p1, 10, none⟩ = some (.slice none 0 0) from fun W hb => ⟨(N1.below hb).cell 6 rfl, (N1.below hb).cell 7 rfl, (N1.below hb).cell 8 rfl, (N1.below hb).cell 9 rfl, (N1.below hb).cell 10 rfl⟩)
  refine wp_region_held_drew (S := fun W => W.cell? ⟨p1, 6, none⟩ = some (.slice none 0 0) ∧ W.cell? ⟨p1, 7, none⟩ = some (.slice none 0 0) ∧ W.cell? ⟨p1, 8, none⟩ = some (.slice LA ln lc) ∧ W.cell? ⟨p1, 9, none⟩ = some (.slice none 0 0) ∧ W.cell? ⟨p1, 10, none⟩ = some (.slice none 0 0)) (by kernel_rfl) (HK.out w1 (Below.refl _ _)) (fun hHeld => ?_)
  have hz1 := hb1.size
  have hbd := bDrew (Below.refl w1.heap.size w1)
  generalize w1.drew = wd at *
  refine hx_take 0 (some 8) _ rfl (by kernel_rfl) (by kernel_rfl) (by kernel_rfl) (fun _ _ _ h => h) rfl (Or.inl ⟨by rfl, fun w hSw => by first | (go_simp; done) | (go_simp; with_reducible rfl) | (go_simp; rfl)⟩) (by assumption) ?_
  try simp only [Act.put, List.setIfInBounds_toArray, List.set_cons_zero, List.set_cons_succ]
  refine hx_take 3 (some 11) _ rfl (by kernel_rfl) (by kernel_rfl) (by kernel_rfl) (fun _ _ _ h => h) rfl (Or.inl ⟨by rfl, fun w hSw => by first | (go_simp; done) | (go_simp; with_reducible rfl) | (go_simp; rfl)⟩) (by assumption) ?_
  try simp only [Act.put, List.setIfInBounds_toArray, List.set_cons_zero, List.set_cons_succ]
  refine hx_take 1 (some 9) (.agg #[.slice none 0 0, .slice LA ln lc, .slice none 0 0, .slice none 0 0]) rfl (by kernel_rfl) (by kernel_rfl) (by kernel_rfl) (fun _ _ _ h => h) rfl (Or.inl ⟨by rfl, fun w hSw => by first | (go_simp; done) | (go_simp; with_reducible rfl) | (go_simp; rfl)⟩) (by assumption) ?_
  try simp only [Act.put, List.setIfInBounds_toArray, List.set_cons_zero, List.set_cons_succ]
  refine hx_take 4 (some 12) _ rfl (by kernel_rfl) (by kernel_rfl) (by kernel_rfl) (fun _ _ _ h => h) rfl (Or.inl ⟨by rfl, fun w hSw => by first | (go_simp; done) | (go_simp; with_reducible rfl) | (go_simp; rfl)⟩) (by assumption) ?_
  try simp only [Act.put, List.setIfInBounds_toArray, List.set_cons_zero, List.set_cons_succ]
  refine hx1 2 (by kernel_rfl) ?_
  refine hx_callE 2 (some 10) _ _ (ErrR wd (∀ k, k < ln → clE (vs.getD k []) = 0)) rfl (by rfl) rfl (by first | (go_simp; done) | (go_simp; rfl)) ((cS.out wd (below_trans' hb1 hz1 hbd)).mono fun _ _ h => h.val) ?_
  rintro v w2 ⟨r1, rfl, hq, hb2⟩
  have hb2 := below_trans' hbd hbd.size hb2
  have hh2 := HK.out w2 hb2
  refine ⟨hh2, ?_⟩
  try simp only [Act.put, List.setIfInBounds_toArray, List.set_cons_zero, List.set_cons_succ]
  refine hx1 5 (by kernel_rfl) ?_
  refine hx_callE 5 (some 13) _ _ (ErrR w2 True) rfl (by rfl) rfl (by first | (go_simp; done) | (go_simp; rfl)) ((cV.out w2).mono fun _ _ h => h.val) ?_
  rintro v w3 ⟨r2, rfl, _, hb3⟩
  have hb3 := below_trans' hb2 hb2.size hb3
  have hh3 := HK.out w3 hb3
  refine ⟨hh3, ?_⟩
  try simp only [Act.put, List.setIfInBounds_toArray, List.set_cons_zero, List.set_cons_succ]
  have hb4 := below_trans' hb3 hb3.size (alloc1 w3 (.cells #[.int .i64 r1, .int .i64 r2] 31))
  have B3 := Blk.slq (xs := [r1, r2]) (enc := intC) (n := 2) (Blk.new w3 31 #[.int .i64 r1, .int .i64 r2]) intC_len rfl
  have hh4 := HK.out _ hb4
  refine hx1 6 (by kernel_rfl) ?_
  refine hx_val 6 (some 14) (.slice (some ⟨w3.heap.size, 0, none⟩) 2 2) (w3.alloc (.cells #[.int .i64 r1, .int .i64 r2] 31)) rfl (by rfl) rfl (by first | (go_simp; done) | (go_simp; rfl)) hh4 ?_
  try simp only [Act.put, List.setIfInBounds_toArray, List.set_cons_zero, List.set_cons_succ]
  refine hx1 7 (by kernel_rfl) ?_
  refine hx_call 7 (some 15) _ _ (.int .i64 (firstNZ [r1, r2])) (fun w' => w3.alloc (.cells #[.int .i64 r1, .int .i64 r2] 31) = w') rfl (by rfl) rfl (by first | (go_simp; done) | (go_simp; rfl)) ((dfirst_any _ 2 2 [r1, r2] _ B3 (by omega)).mono fun _ _ h => ⟨h.1, h.2.symm⟩) ?_
  rintro _ rfl
  refine ⟨hh4, ?_⟩
  try simp only [Act.put, List.setIfInBounds_toArray, List.set_cons_zero, List.set_cons_succ]
  refine hx_take 8 (some 3) _ rfl (by kernel_rfl) (by kernel_rfl) (by kernel_rfl) (fun _ _ _ h => h) rfl (Or.inl ⟨by rfl, fun w hSw => by first | (go_simp; done) | (go_simp; with_reducible rfl) | (go_simp; rfl)⟩) (by assumption) ?_
  try simp only [Act.put, List.setIfInBounds_toArray, List.set_cons_zero, List.set_cons_succ]
  refine wpAnyH_done (by kernel_rfl) ?_ _
  have HQ := Lib.hid (show firstNZ [r1, r2] = 0 → ∀ k, k < ln → clE (vs.getD k []) = 0 from fun h => hq (by simpa using firstNZ_zero h 0))
  generalize firstNZ [r1, r2] = r at *
  generalize w3.alloc (.cells #[.int .i64 r1, .int .i64 r2] 31) = w4 at *
  have HB1 := Lib.hid hb1
  clear hh2 hh3 hh4 hb2 hb3 hbd hHeld hq B3 hb1
  by_cases hr : r = 0
  rotate_left
  · have hrb : (r == 0) = false := beq_eq_false_iff_ne.2 hr
    have hrn : (r != 0) = true := bne_iff_ne.2 hr
    have HR := Lib.hid hr
    go_wp2_with fail
    go_ret
    exact HP.out _ _ ⟨_, rfl, fun h => absurd h HR.out, below_trans' HB1.out HB1.out.size hb4⟩
  subst hr
  have N4 := N1.below hb4
  have q0 := N4.cell 0 rfl
  have q1 := N4.cell 1 rfl
  have q2 := N4.cell 2 rfl
  have q3 := N4.cell 3 rfl
  have q4 := N4.cell 4 rfl
  have q5 := N4.cell 5 rfl
  have q6 := N4.cell 6 rfl
  have q7 := N4.cell 7 rfl
  have q8 := N4.cell 8 rfl
  have q9 := N4.cell 9 rfl
  have q10 := N4.cell 10 rfl
  have cN := cN.out w4 (below_trans' HB1.out HB1.out.size hb4)
  unfold NcPost at cN
  go_upto_region 5 with (go_at_call 42; refine cN.mono ?_; rintro e w5 ⟨p, b1, b2, b3, b4, b5, n2, rfl, BK, MB, hlp, hb5⟩)
  have hlp : w.heap.size ≤ p := Nat.le_trans (below_trans' HB1.out HB1.out.size hb4).size hlp
  have hw5 := below_trans' hb4 hb4.size hb5
  clear q0 q1 q2 q3 q4 q5 q6 q7 q8 q9 q10 cN hb4 hb5
  have N5 := N1.below hw5
  have q2 := N5.cell 2 rfl
  have q3 := N5.cell 3 rfl
  have q4 := N5.cell 4 rfl
  have q5 := N5.cell 5 rfl
  go_upto_region 6 with fail
  have N9 := Blk.new w5 58 #[.int .i64 0, .int .i64 0, .slice none 0 0, .slice none 0 0]
  have hal := alloc1 w5 (.cells #[.int .i64 0, .int .i64 0, .slice none 0 0, .slice none 0 0] 58)
  have hw6 := below_trans' hw5 hw5.size hal
  have BK := BK.below hal
  have MB := MB.below hal
  clear q2 q3 q4 q5 N5 hal hw5
  generalize w5.alloc (.cells #[.int .i64 0, .int .i64 0, .slice none 0 0, .slice none 0 0] 58) = w6 at *
  generalize w5.heap.size = p9 at *
  have HM := Lib.hid (show ∀ W, Below w6.heap.size w6 W → W.cell? ⟨p1, 1, none⟩ = some (.slice none 0 0) ∧ W.cell? ⟨p1, 2, none⟩ = some (.int .i64 0) ∧ W.cell? ⟨p1, 3, none⟩ = some (.int .i64 0) ∧ W.cell? ⟨p1, 4, none⟩ = some (.slice none 0 0) ∧ W.cell? ⟨p1, 5, none⟩ = some (.slice none 0 0) ∧ W.cell? ⟨p9, 0, none⟩ = some (.int .i64 0) ∧ W.cell? ⟨p9, 1, none⟩ = some (.int .i64 0) ∧ W.cell? ⟨p9, 2, none⟩ = some (.slice none 0 0) from fun W hb => by
    have M1 := (N1.below hw6).below hb
    have M9 := N9.below hb
    exact ⟨M1.cell 1 rfl, M1.cell 2 rfl, M1.cell 3 rfl, M1.cell 4 rfl, M1.cell 5 rfl, M9.cell 0 rfl, M9.cell 1 rfl, M9.cell 2 rfl⟩)
  refine wp_region_held_drew (S := fun W => W.cell? ⟨p1, 1, none⟩ = some (.slice none 0 0) ∧ W.cell? ⟨p1, 2, none⟩ = some (.int .i64 0) ∧ W.cell? ⟨p1, 3, none⟩ = some (.int .i64 0) ∧ W.cell? ⟨p1, 4, none⟩ = some (.slice none 0 0) ∧ W.cell? ⟨p1, 5, none⟩ = some (.slice none 0 0) ∧ W.cell? ⟨p9, 0, none⟩ = some (.int .i64 0) ∧ W.cell? ⟨p9, 1, none⟩ = some (.int .i64 0) ∧ W.cell? ⟨p9, 2, none⟩ = some (.slice none 0 0)) (by kernel_rfl) (HM.out w6 (Below.refl _ _)) (fun hHeld => ?_)
  have hbd := bDrew (Below.refl w6.heap.size w6)
  have X6 : CkI w6.drew p b1 b2 b3 b4 b5 n2 0 w6.drew := ⟨BK.below hbd, MB.below hbd, World.grownBy.refl _ _⟩
  generalize w6.drew = wd6 at *
  have cH := cH.out wd6 p b1 b2 b3 b4 b5 n2 X6
  refine hx_take 0 (some 24) _ rfl (by kernel_rfl) (by kernel_rfl) (by kernel_rfl) (fun _ _ _ h => h) rfl (Or.inl ⟨by rfl, fun w hSw => by first | (go_simp; done) | (go_simp; with_reducible rfl) | (go_simp; rfl)⟩) (by assumption) ?_
  try simp only [Act.put, List.setIfInBounds_toArray, List.set_cons_zero, List.set_cons_succ]
  refine hx_take 1 (some 25) _ rfl (by kernel_rfl) (by kernel_rfl) (by kernel_rfl) (fun _ _ _ h => h) rfl (Or.inl ⟨by rfl, fun w hSw => by first | (go_simp; done) | (go_simp; with_reducible rfl) | (go_simp; rfl)⟩) (by assumption) ?_
  try simp only [Act.put, List.setIfInBounds_toArray, List.set_cons_zero, List.set_cons_succ]
  refine hx_take 4 (some 28) _ rfl (by kernel_rfl) (by kernel_rfl) (by kernel_rfl) (fun _ _ _ h => h) rfl (Or.inl ⟨by rfl, fun w hSw => by first | (go_simp; done) | (go_simp; with_reducible rfl) | (go_simp; rfl)⟩) (by assumption) ?_
  try simp only [Act.put, List.setIfInBounds_toArray, List.set_cons_zero, List.set_cons_succ]
  refine hx_take 2 (some 26) (.agg #[.slice none 0 0, .int .i64 0, .int .i64 0, .slice none 0 0, .slice none 0 0]) rfl (by kernel_rfl) (by kernel_rfl) (by kernel_rfl) (fun _ _ _ h => h) rfl (Or.inl ⟨by rfl, fun w hSw => by first | (go_simp; done) | (go_simp; with_reducible rfl) | (go_simp; rfl)⟩) (by assumption) ?_
  try simp only [Act.put, List.setIfInBounds_toArray, List.set_cons_zero, List.set_cons_succ]
  refine hx_take 5 (some 29) _ rfl (by kernel_rfl) (by kernel_rfl) (by kernel_rfl) (fun _ _ _ h => h) rfl (Or.inl ⟨by rfl, fun w hSw => by first | (go_simp; done) | (go_simp; with_reducible rfl) | (go_simp; rfl)⟩) (by assumption) ?_
  try simp only [Act.put, List.setIfInBounds_toArray, List.set_cons_zero, List.set_cons_succ]
  refine hx_take 6 (some 30) _ rfl (by kernel_rfl) (by kernel_rfl) (by kernel_rfl) (fun _ _ _ h => h) rfl (Or.inl ⟨by rfl, fun w hSw => by first | (go_simp; done) | (go_simp; with_reducible rfl) | (go_simp; rfl)⟩) (by assumption) ?_
  try simp only [Act.put, List.setIfInBounds_toArray, List.set_cons_zero, List.set_cons_succ]
  refine hx1 3 (by kernel_rfl) ?_
  refine hx_callE 3 (some 27) _ _ (ErrR wd6 True) rfl (by rfl) rfl (by first | (go_simp; done) | (go_simp; rfl)) (cH.mono fun _ _ h => h.val) ?_
  rintro v w7 ⟨r3, rfl, _, hb7⟩
  have X7 := X6.below hb7
  have hb7 := below_trans' hbd hbd.size hb7
  have hh7 := HM.out w7 hb7
  refine ⟨hh7, ?_⟩
  try simp only [Act.put, List.setIfInBounds_toArray, List.set_cons_zero, List.set_cons_succ]
  refine hx_take 7 (some 31) _ rfl (by kernel_rfl) (by kernel_rfl) (by kernel_rfl) (fun _ _ _ h => h) rfl (Or.inl ⟨by rfl, fun w hSw => by first | (go_simp; done) | (go_simp; with_reducible rfl) | (go_simp; rfl)⟩) (by assumption) ?_
  try simp only [Act.put, List.setIfInBounds_toArray, List.set_cons_zero, List.set_cons_succ]
  refine hx_take 8 (some 32) _ rfl (by kernel_rfl) (by kernel_rfl) (by kernel_rfl) (fun _ _ _ h => h) rfl (Or.inl ⟨by rfl, fun w hSw => by first | (go_simp; done) | (go_simp; with_reducible rfl) | (go_simp; rfl)⟩) (by assumption) ?_
  try simp only [Act.put, List.setIfInBounds_toArray, List.set_cons_zero, List.set_cons_succ]
  refine hx_take 9 (some 33) _ rfl (by kernel_rfl) (by kernel_rfl) (by kernel_rfl) (fun _ _ _ h => h) rfl (Or.inl ⟨by rfl, fun w hSw => by first | (go_simp; done) | (go_simp; with_reducible rfl) | (go_simp; rfl)⟩) (by assumption) ?_
  try simp only [Act.put, List.setIfInBounds_toArray, List.set_cons_zero, List.set_cons_succ]
  refine hx_take 10 (some 34) _ rfl (by kernel_rfl) (by kernel_rfl) (by kernel_rfl) (fun _ _ _ h => h) rfl (Or.inl ⟨by rfl, fun w hSw => by first | (go_simp; done) | (go_simp; with_reducible rfl) | (go_simp; rfl)⟩) (by assumption) ?_
  try simp only [Act.put, List.setIfInBounds_toArray, List.set_cons_zero, List.set_cons_succ]
  refine hx_take 11 (some 35) _ rfl (by kernel_rfl) (by kernel_rfl) (by kernel_rfl) (fun _ _ _ h => h) rfl (Or.inl ⟨by rfl, fun w hSw => by first | (go_simp; done) | (go_simp; with_reducible rfl) | (go_simp; rfl)⟩) (by assumption) ?_
  try simp only [Act.put, List.setIfInBounds_toArray, List.set_cons_zero, List.set_cons_succ]
  refine hx_take 12 (some 36) _ rfl (by kernel_rfl) (by kernel_rfl) (by kernel_rfl) (fun _ _ _ h => h) rfl (Or.inl ⟨by rfl, fun w hSw => by first | (go_simp; done) | (go_simp; with_reducible rfl) | (go_simp; rfl)⟩) (by assumption) ?_
  try simp only [Act.put, List.setIfInBounds_toArray, List.set_cons_zero, List.set_cons_succ]
  refine hx_take 13 (some 37) _ rfl (by kernel_rfl) (by kernel_rfl) (by kernel_rfl) (fun _ _ _ h => h) rfl (Or.inl ⟨by rfl, fun w hSw => by first | (go_simp; done) | (go_simp; with_reducible rfl) | (go_simp; rfl)⟩) (by assumption) ?_
  try simp only [Act.put, List.setIfInBounds_toArray, List.set_cons_zero, List.set_cons_succ]
  refine hx_take 14 (some 38) _ rfl (by kernel_rfl) (by kernel_rfl) (by kernel_rfl) (fun _ _ _ h => h) rfl (Or.inl ⟨by rfl, fun w hSw => by first | (go_simp; done) | (go_simp; with_reducible rfl) | (go_simp; rfl)⟩) (by assumption) ?_
  try simp only [Act.put, List.setIfInBounds_toArray, List.set_cons_zero, List.set_cons_succ]
  refine hx_take 15 (some 39) _ rfl (by kernel_rfl) (by kernel_rfl) (by kernel_rfl) (fun _ _ _ h => h) rfl (Or.inl ⟨by rfl, fun w hSw => by first | (go_simp; done) | (go_simp; with_reducible rfl) | (go_simp; rfl)⟩) (by assumption) ?_
  try simp only [Act.put, List.setIfInBounds_toArray, List.set_cons_zero, List.set_cons_succ]
  refine hx_take 16 (some 40) _ rfl (by kernel_rfl) (by kernel_rfl) (by kernel_rfl) (fun _ _ _ h => h) rfl (Or.inl ⟨by rfl, fun w hSw => by first | (go_simp; done) | (go_simp; with_reducible rfl) | (go_simp; rfl)⟩) (by assumption) ?_
  try simp only [Act.put, List.setIfInBounds_toArray, List.set_cons_zero, List.set_cons_succ]
  refine hx_take 17 (some 41) _ rfl (by kernel_rfl) (by kernel_rfl) (by kernel_rfl) (fun _ _ _ h => h) rfl (Or.inl ⟨by rfl, fun w hSw => by first | (go_simp; done) | (go_simp; with_reducible rfl) | (go_simp; rfl)⟩) (by assumption) ?_
  try simp only [Act.put, List.setIfInBounds_toArray, List.set_cons_zero, List.set_cons_succ]
  refine hx1 18 (by kernel_rfl) ?_
  refine hx_call 18 (some 42) _ _ (.int .i64 0) (fun w' => w7 = w') rfl (by rfl) rfl (by first | (go_simp; done) | (go_simp; rfl)) ((when_any false 21 w7).mono fun _ _ h => ⟨h.1, h.2.symm⟩) ?_
  rintro _ rfl
  refine ⟨hh7, ?_⟩
  try simp only [Act.put, List.setIfInBounds_toArray, List.set_cons_zero, List.set_cons_succ]
  have hal := alloc1 w7 (.cells #[.int .i64 r3, .int .i64 0] 31)
  have X8 := X7.below hal
  have hb8 := below_trans' hb7 hb7.size hal
  have B8 := Blk.slq (xs := [r3, 0]) (enc := intC) (n := 2) (Blk.new w7 31 #[.int .i64 r3, .int .i64 0]) intC_len rfl
  have hh8 := HM.out _ hb8
  refine hx1 19 (by kernel_rfl) ?_
  refine hx_val 19 (some 43) (.slice (some ⟨w7.heap.size, 0, none⟩) 2 2) (w7.alloc (.cells #[.int .i64 r3, .int .i64 0] 31)) rfl (by rfl) rfl (by first | (go_simp; done) | (go_simp; rfl)) hh8 ?_
  try simp only [Act.put, List.setIfInBounds_toArray, List.set_cons_zero, List.set_cons_succ]
  refine hx1 20 (by kernel_rfl) ?_
  refine hx_call 20 (some 44) _ _ (.int .i64 (firstNZ [r3, 0])) (fun w' => w7.alloc (.cells #[.int .i64 r3, .int .i64 0] 31) = w') rfl (by rfl) rfl (by first | (go_simp; done) | (go_simp; rfl)) ((dfirst_any _ 2 2 [r3, 0] _ B8 (by omega)).mono fun _ _ h => ⟨h.1, h.2.symm⟩) ?_
  rintro _ rfl
  refine ⟨hh8, ?_⟩
  try simp only [Act.put, List.setIfInBounds_toArray, List.set_cons_zero, List.set_cons_succ]
  refine hx_take 21 (some 6) _ rfl (by kernel_rfl) (by kernel_rfl) (by kernel_rfl) (fun _ _ _ h => h) rfl (Or.inl ⟨by rfl, fun w hSw => by first | (go_simp; done) | (go_simp; with_reducible rfl) | (go_simp; rfl)⟩) (by assumption) ?_
  try simp only [Act.put, List.setIfInBounds_toArray, List.set_cons_zero, List.set_cons_succ]
  refine wpAnyH_done (by kernel_rfl) ?_ _
  generalize firstNZ [r3, 0] = r at *
  generalize w7.alloc (.cells #[.int .i64 r3, .int .i64 0] 31) = w8 at *
  have hw8 := below_trans' hw6 hw6.size hb8
  clear hh7 hh8 hHeld hal hb7 hb8 hbd B8 X6 X7 hw6
  have hb8 := below_trans' HB1.out HB1.out.size hw8
  by_cases hr : r = 0
  rotate_left
  · have hrb : (r == 0) = false := beq_eq_false_iff_ne.2 hr
    have hrn : (r != 0) = true := bne_iff_ne.2 hr
    go_wp2_with fail
    go_ret
    exact HP.out _ _ ⟨_, rfl, fun _ => HQ.out (by trivial), hb8⟩
  subst hr
  have cI := cI.out w8 p b1 b2 b3 b4 b5 n2 hb8 hlp ⟨X8.1, X8.2.1, World.grownBy.refl _ _⟩
  unfold CodePost at cI
  have q0 := (N1.below hw8).cell 0 rfl
  go_upto_region 10 with (go_at_call 45; refine cI.mono ?_; rintro e w9 ⟨r, rfl, u, hu, X9⟩)
  have hb9 := hb8.grown X9.2.2 hb8.size (fun k e => by cases e; exact hlp)
  clear q0 cI
  by_cases hr : r = 0
  rotate_left
  · have hrb : (r == 0) = false := beq_eq_false_iff_ne.2 hr
    have hrn : (r != 0) = true := bne_iff_ne.2 hr
    go_wp2_with fail
    go_ret
    exact HP.out _ _ ⟨_, rfl, fun _ => HQ.out (by trivial), hb9⟩
  subst hr
  have u0 := X9.1.cell 5 rfl
  have hu' : ¬ (16384 : Int) < u := by omega
  go_wp2_with (go_at_call 44; refine (when_any _ _ _).mono ?_; rintro e w10 ⟨rfl, rfl⟩)
  go_ret
  exact HP.out _ _ ⟨_, rfl, fun _ => HQ.out (by trivial), hb9⟩
end Go.Proofs.YthbodpjkckminaaGreatDoor

namespace Go.Proofs.YthbodpjkckminaaGreatDoor
open Go.RowKit

theorem bne_self_b (lb : ByteArray) : (lb != lb) = false := by
  cases lb with | mk d =>
  show (!(ByteArray.beq ⟨d⟩ ⟨d⟩)) = false
  unfold ByteArray.beq
  simp
theorem imQ_keys (x : Im) : ∀ j, j < (imP x).length → (gP2 (imP x) j).key ≠ 20 ∧ (gP2 (imP x) j).key ≠ 1 ∧ okZ (gP2 (imP x) j).val := by
  have h1 : okZ (1 + x.li % 3) := ⟨by omega, by omega⟩
  have h2 : okZ (1 + x.lv % 9) := ⟨by omega, by omega⟩
  have h3 : okZ (x.re % 8) := ⟨by omega, by omega⟩
  unfold imP imQ
  cases liB x
  · rw [if_neg (by simp)]; exact fun j hj => absurd hj (Nat.not_lt_zero _)
  · rw [if_pos rfl]
    cases reB x
    · rw [if_neg (by simp)]
      intro j hj
      have hj2 : j < 2 := hj
      rcases (show j = 0 ∨ j = 1 by omega) with rfl | rfl
      · exact ⟨show (33 : Int) ≠ 20 by decide, show (33 : Int) ≠ 1 by decide, h1⟩
      · exact ⟨show (34 : Int) ≠ 20 by decide, show (34 : Int) ≠ 1 by decide, h2⟩
    · rw [if_pos rfl]
      intro j hj
      have hj2 : j < 3 := hj
      rcases (show j = 0 ∨ j = 1 ∨ j = 2 by omega) with rfl | rfl | rfl
      · exact ⟨show (33 : Int) ≠ 20 by decide, show (33 : Int) ≠ 1 by decide, h1⟩
      · exact ⟨show (34 : Int) ≠ 20 by decide, show (34 : Int) ≠ 1 by decide, h2⟩
      · exact ⟨show (35 : Int) ≠ 20 by decide, show (35 : Int) ≠ 1 by decide, h3⟩
theorem gIm_ok {l : List Im} (h : ∀ x, x ∈ l → ImOk x) {k : Nat} (hk : k < l.length) : ImOk (gIm l k) := by
  have e : gIm l k = l[k] := by unfold gIm; rw [List.getD_eq_getElem?_getD, List.getElem?_eq_getElem hk]; rfl
  rw [e]; exact h _ (List.getElem_mem hk)
theorem bt_ck (l : List Im) : ∀ k, k < (ysB l).length → CkIm (ysB l) k := fun k hk => by
  have e := ysB_at l hk
  refine ⟨by rw [e]; rfl, by rw [e]; rfl, by rw [e]; exact Nat.le_trans (imP_len _) (by omega), ?_⟩
  rw [e]
  exact imQ_keys _
section
variable {w : World} {B : Nat} {AI : Option Addr} {cI gl : Nat} {zs : List It} {l : List Im} {Aa : Option Addr} {na ca : Nat} {Ab : Option Addr} {nb cb : Nat} {la lb : List Lv}
theorem bt_ls (hb : Blk w gl 96 #[.int .i64 1, .slice Aa na ca, .int .i64 2, .slice Ab nb cb]) (ha : Sl w 4 lvC Aa na la) (hbb : Sl w 4 lvC Ab nb lb) (hca : na ≤ ca) (hcb : nb ≤ cb) : LsT w (some ⟨gl, 0, none⟩) 2 (esT Aa na ca Ab nb cb) [la, lb] := by
  refine ⟨Blk.slq (xs := esT Aa na ca Ab nb cb) hb lsC_len rfl, fun k hk => ?_, fun k hk => ?_, rfl⟩
  · rcases (show k = 0 ∨ k = 1 by omega) with rfl | rfl
    · exact ha
    · exact hbb
  · rcases (show k = 0 ∨ k = 1 by omega) with rfl | rfl
    · exact hca
    · exact hcb
theorem bt_dr (hM : Mk_ w B AI (ysB l).length cI zs (ysB l)) (hl : LsT w (some ⟨gl, 0, none⟩) 2 (esT Aa na ca Ab nb cb) [la, lb]) (hcl : ∀ k, k < 2 → clE ([la, lb].getD k []) = 0) :
    DocR w AI (ysB l).length zs (ysB l) (some ⟨gl, 0, none⟩) 2 (esT Aa na ca Ab nb cb) [la, lb] :=
  ⟨hM.fl rfl, ysB_dy l, hl, by omega, hcl, fun k hk _ => by rw [ysB_at l hk]; exact imP_ok _⟩
theorem bt_id : ∀ k, k < 2 → okZ (gE (esT Aa na ca Ab nb cb) k).id := fun k hk => by
  rcases (show k = 0 ∨ k = 1 by omega) with rfl | rfl
  · exact ⟨by show -9223372036854775808 ≤ 1; omega, by show 1 ≤ 9223372036854775807; omega⟩
  · exact ⟨by show -9223372036854775808 ≤ 2; omega, by show 2 ≤ 9223372036854775807; omega⟩
theorem bt_check (c : Nat) (hM : Mk_ w B AI (ysB l).length cI zs (ysB l)) (hl : LsT w (some ⟨gl, 0, none⟩) 2 (esT Aa na ca Ab nb cb) [la, lb]) :
    Calls Tryz.prog 19 #[.agg (docL AI (ysB l).length c (some ⟨gl, 0, none⟩) 2 2).toArray] w (ErrPost w (∀ k, k < 2 → clE ([la, lb].getD k []) = 0)) :=
  dcheck_any AI (ysB l).length c (some ⟨gl, 0, none⟩) 2 2 zs (ysB l) (esT Aa na ca Ab nb cb) [la, lb] w (hM.fl rfl) (by have := ysB_len l; omega) (bt_ck l) hl (by omega) bt_id
end
/-- the entries of one list, counted. -/
def cnOne (E : List En) (i : Nat) : Nat := (E.take i).countP (fun e => e.list == 1)
theorem gEn_at {E : List En} {i : Nat} (h : i < E.length) : gEn E i = E[i] := by unfold gEn; rw [List.getD_eq_getElem?_getD, List.getElem?_eq_getElem h]; rfl
theorem cnOne_succ {E : List En} {i : Nat} (h : i < E.length) : cnOne E (i + 1) = cnOne E i + if (gEn E i).list = 1 then 1 else 0 := by
  unfold cnOne
  rw [List.take_succ_eq_append_getElem h, List.countP_append, gEn_at h]
  by_cases e : E[i].list = 1
  · rw [if_pos e, List.countP_cons_of_pos (by simpa using e)]; rfl
  · rw [if_neg e, List.countP_cons_of_neg (by simpa using e)]; rfl
theorem filter_k (E : List En) : (E.map En.k).filter (fun e => e.1 == 1) = (E.filter (fun e => e.list == 1)).map En.k := by
  rw [List.filter_map]; rfl
theorem sep_at {E1 E2 : List En} (h : (E1.map En.k).filter (fun e => e.1 == 1) = E2.map En.k) {i : Nat} (hi : i < E1.length) (h1 : (gEn E1 i).list = 1) : cnOne E1 i < E2.length ∧ (gEn E2 (cnOne E1 i)).k = (gEn E1 i).k := by
  rw [filter_k] at h
  obtain ⟨a, b⟩ := filter_at (fun e : En => e.list == 1) enZ E1 i hi (by show ((gEn E1 i).list == 1) = true; simpa using h1)
  have hlen := congrArg List.length h
  rw [List.length_map, List.length_map] at hlen
  refine ⟨by show cnOne E1 i < _; unfold cnOne; omega, ?_⟩
  have e1 : (gEn E2 (cnOne E1 i)).k = (E2.map En.k).getD (cnOne E1 i) enZ.k := by unfold gEn; rw [List.getD_eq_getElem?_getD, List.getD_eq_getElem?_getD, List.getElem?_map]; cases E2[cnOne E1 i]? <;> rfl
  rw [e1, ← h]
  have e2 : ((E1.filter (fun e => e.list == 1)).map En.k).getD (cnOne E1 i) enZ.k = ((E1.filter (fun e => e.list == 1)).getD (cnOne E1 i) enZ).k := by rw [List.getD_eq_getElem?_getD, List.getD_eq_getElem?_getD, List.getElem?_map]; cases (E1.filter (fun e => e.list == 1))[cnOne E1 i]? <;> rfl
  rw [e2]
  exact congrArg En.k b
theorem sep_end {E1 E2 : List En} (h : (E1.map En.k).filter (fun e => e.1 == 1) = E2.map En.k) : cnOne E1 E1.length = E2.length := by
  rw [filter_k] at h
  have hlen := congrArg List.length h
  rw [List.length_map, List.length_map] at hlen
  unfold cnOne
  rw [List.take_of_length_le (Nat.le_refl _), List.countP_eq_length_filter]
  exact hlen
/-- the items that are not of the second list. -/
def ownQ (x : Im) : Bool := !(x.li % 3 == 1)
def ownL (l : List Im) : List Im := (l.take 40).filter ownQ
theorem ownQ_id (x : Im) (hx : ImOk x) : (!(idI x == 2)) = ownQ x := by
  have h0 := hx.li.1
  unfold idI ownQ
  cases hl : liB x
  · have h : ¬ x.li % 3 < 2 := by unfold liB at hl; simpa using hl
    have h1 : x.li % 3 ≠ 1 := by omega
    rw [if_neg (by simp), beq_eq_false_iff_ne.2 h1]; rfl
  · rw [if_pos rfl]
    by_cases h1 : x.li % 3 = 1
    · rw [h1]; rfl
    · rw [beq_eq_false_iff_ne.2 h1, beq_eq_false_iff_ne.2 (by omega)]
theorem filter_imF (Aa : Option Addr) (na ca : Nat) (Ab : Option Addr) (nb cb : Nat) : ∀ l : List Im, (∀ x, x ∈ l → ImOk x) → (l.map imF).filter (fun y => !(of1 (esT Aa na ca Ab nb cb) y.ps == 2)) = (l.filter ownQ).map imF
  | [], _ => rfl
  | x :: r, h => by
    have ih := filter_imF Aa na ca Ab nb cb r (fun y hy => h y (List.mem_cons_of_mem _ hy))
    have e : (!(of1 (esT Aa na ca Ab nb cb) (imF x).ps == 2)) = ownQ x := by
      rw [show (imF x).ps = imP x from rfl, of1T, ownQ_id x (h x (List.mem_cons_self ..))]
    cases hq : ownQ x
    · rw [List.map_cons, List.filter_cons_of_neg (by rw [e, hq]; decide), List.filter_cons_of_neg (by rw [hq]; decide), ih]
    · rw [List.map_cons, List.filter_cons_of_pos (by rw [e, hq]), List.filter_cons_of_pos hq, List.map_cons, ih]
theorem ownL_len (l : List Im) : (ownL l).length ≤ 40 := by
  unfold ownL
  exact Nat.le_trans (List.length_filter_le ..) (by rw [List.length_take]; omega)
theorem sep_runs (Aa : Option Addr) (na ca : Nat) (Ab : Option Addr) (nb cb : Nat) (vs : List (List Lv)) (l : List Im) (hok : ∀ x, x ∈ l → ImOk x) :
    ((runL (esT Aa na ca Ab nb cb) vs (ysB l) (pmL (ysB l) (ysB l).length)).es.map En.k).filter (fun e => e.1 == 1) = (runL (esT Aa na ca Ab nb cb) vs (ysB (ownL l)) (pmL (ysB (ownL l)) (ysB (ownL l)).length)).es.map En.k := by
  rw [runL_out (ysB_kind l), runL_out (ysB_kind (ownL l)), outL_sep _ _ _ _ (fun _ => cnZ) rfl (fun y hy => by
    unfold ysB at hy
    obtain ⟨x, _, rfl⟩ := List.mem_map.1 hy
    rw [show (imF x).ps = imP x from rfl, of1T]
    exact idI_or x)]
  congr 1
  unfold ysB
  rw [filter_imF _ _ _ _ _ _ _ (fun x hx => hok x (List.mem_of_mem_take hx)), List.take_of_length_le (ownL_len l)]
  rfl
end Go.Proofs.YthbodpjkckminaaGreatDoor
