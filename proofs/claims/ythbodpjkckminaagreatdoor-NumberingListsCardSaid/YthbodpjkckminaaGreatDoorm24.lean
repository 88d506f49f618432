/- document.checkLists, CheckSettings. document.CheckSettings: lists alone. Maps of bools and of ints by ids: a lookup gives a value of its kind. document.all with an invariant of its own. document.newChecker of lists alone. -/
import Derived.Test.YthbodpjkckminaaGreatDoorm23
import Derived.Test.YthbodpjkckminaaGreatDoorm19
namespace Go.Proofs.YthbodpjkckminaaGreatDoor
open Go.RowKit

set_option maxRecDepth 100000 in
set_option maxHeartbeats 4000000 in
theorem ckl1_any (A : Option Addr) (n c : Nat) (es : List LsE) (vs : List (List Lv)) (q i : Nat) (w : World) (ha : LsT w A n es vs) (hq : Blk w q 42 #[.slice A n c]) (hi : i < n) (hn : n ≤ 64) :
    Calls Tryz.prog 59 (#[.int .i64 (i : Nat)] ++ #[.pointer (some ⟨q, 0, none⟩)]) w (ErrPost w (clE (vs.getD i []) = 0)) := by
  rw [show (#[.int .i64 (i : Nat)] ++ #[.pointer (some ⟨q, 0, none⟩)] : Array Value) = #[.int .i64 (i : Nat), .pointer (some ⟨q, 0, none⟩)] from rfl]
  have HP := Lib.hid (show ∀ e w', (∃ r : Int, e = .returned (.int .i64 r) ∧ (r = 0 → clE (vs.getD i []) = 0) ∧ Below w.heap.size w w') → ErrPost w (clE (vs.getD i []) = 0) e w' from fun _ _ h => h)
  obtain ⟨ad, e, hl2, _, k1⟩ := ha.l.ls hi
  have cI := Lib.hid (fun W (hb : Below w.heap.size w W) => incrLs_any A n c es q i W (ha.below hb).l (hq.below hb) hi (by omega))
  have cC := Lib.hid (fun W (hb : Below w.heap.size w W) => checkLevels_any (gE es i).A (gE es i).n (gE es i).c (vs.getD i []) W ((ha.below hb).v i hi))
  have q0 := hq.cell 0 rfl
  have hi' : (i : Int) < n := by omega
  generalize clE (vs.getD i []) = cl at *
  generalize (gE es i).A = lA at *
  generalize (gE es i).n = lnn at *
  generalize (gE es i).c = lcc at *
  subst e
  clear ha hq
  go_enter Tryz.func59, Tryz.ntmps59
  go_upto_region 1 with fail
  refine wp_region_held_drew (S := fun w' => w'.cell? ⟨q, 0, none⟩ = some (.slice (some ad) n c) ∧ w'.cell? ⟨(ad.add (i * 2)).block, (ad.add (i * 2)).off + 1, none⟩ = some (.slice lA lnn lcc)) (by kernel_rfl) ⟨q0, k1⟩ (fun hHeld => ?_)
  have hbd := bDrew (Below.refl w.heap.size w)
  generalize w.drew = wd at *
  refine hx_take 0 (some 4) _ rfl (by kernel_rfl) (by kernel_rfl) (by kernel_rfl) (fun _ _ _ h => h) rfl (Or.inl ⟨by rfl, fun w hSw => by first | (go_simp; done) | (go_simp; with_reducible rfl) | (go_simp; rfl)⟩) (by assumption) ?_
  try simp only [Act.put, List.setIfInBounds_toArray, List.set_cons_zero, List.set_cons_succ]
  refine hx_take 1 (some 5) _ rfl (by kernel_rfl) (by kernel_rfl) (by kernel_rfl) (fun _ _ _ h => h) rfl (Or.inl ⟨by rfl, fun w hSw => by first | (go_simp; done) | (go_simp; with_reducible rfl) | (go_simp; rfl)⟩) (by assumption) ?_
  try simp only [Act.put, List.setIfInBounds_toArray, List.set_cons_zero, List.set_cons_succ]
  refine hx_take 3 (some 7) _ rfl (by kernel_rfl) (by kernel_rfl) (by kernel_rfl) (fun _ _ _ h => h) rfl (Or.inl ⟨by rfl, fun w hSw => by first | (go_simp; done) | (go_simp; with_reducible rfl) | (go_simp; rfl)⟩) (by assumption) ?_
  try simp only [Act.put, List.setIfInBounds_toArray, List.set_cons_zero, List.set_cons_succ]
  refine hx_take 4 (some 8) _ rfl (by kernel_rfl) (by kernel_rfl) (by kernel_rfl) (fun _ _ _ h => h) rfl (Or.inl ⟨by rfl, fun w hSw => by first | (go_simp; done) | (go_simp; with_reducible rfl) | (go_simp; rfl)⟩) (by assumption) ?_
  try simp only [Act.put, List.setIfInBounds_toArray, List.set_cons_zero, List.set_cons_succ]
  refine hx_take 5 (some 9) _ rfl (by kernel_rfl) (by kernel_rfl) (by kernel_rfl) (fun _ _ _ h => h) rfl (Or.inl ⟨by rfl, fun w hSw => by first | (go_simp; done) | (go_simp; with_reducible rfl) | (go_simp; rfl)⟩) (by assumption) ?_
  try simp only [Act.put, List.setIfInBounds_toArray, List.set_cons_zero, List.set_cons_succ]
  refine hx_take 6 (some 10) _ rfl (by kernel_rfl) (by kernel_rfl) (by kernel_rfl) (fun _ _ _ h => h) rfl (Or.inl ⟨by rfl, fun w hSw => by first | (go_simp; done) | (go_simp; with_reducible rfl) | (go_simp; rfl)⟩) (by assumption) ?_
  try simp only [Act.put, List.setIfInBounds_toArray, List.set_cons_zero, List.set_cons_succ]
  refine hx_take 7 (some 11) _ rfl (by kernel_rfl) (by kernel_rfl) (by kernel_rfl) (fun _ _ _ h => h) rfl (Or.inl ⟨by rfl, fun w hSw => by first | (go_simp; done) | (go_simp; with_reducible rfl) | (go_simp; rfl)⟩) (by assumption) ?_
  try simp only [Act.put, List.setIfInBounds_toArray, List.set_cons_zero, List.set_cons_succ]
  refine hx1 2 (by kernel_rfl) ?_
  refine hx_callE 2 (some 6) _ _ (fun v w' => ∃ r : Int, v = .int .i64 r ∧ wd = w') rfl (by rfl) rfl (by first | (go_simp; done) | (go_simp; rfl)) ((cI.out wd hbd).mono fun _ _ h => by obtain ⟨r, h1, h2⟩ := h; exact ⟨_, h1, r, rfl, h2⟩) ?_
  rintro v w' ⟨r, rfl, rfl⟩
  refine ⟨hHeld, ?_⟩
  try simp only [Act.put, List.setIfInBounds_toArray, List.set_cons_zero, List.set_cons_succ]
  refine hx1 8 (by kernel_rfl) ?_
  refine hx_call 8 (some 12) _ _ (.int .i64 cl) _ rfl (by rfl) rfl (by first | (go_simp; done) | (go_simp; rfl)) (cC.out wd hbd) ?_
  rintro w2 hb2
  have h2 := And.intro (keepC hb2 hHeld.1) (keepC hb2 hHeld.2)
  refine ⟨h2, ?_⟩
  try simp only [Act.put, List.setIfInBounds_toArray, List.set_cons_zero, List.set_cons_succ]
  have hb3 := alloc1 w2 (.cells #[.int .i64 r, .int .i64 cl] 31)
  have h3 := And.intro (keepC hb3 h2.1) (keepC hb3 h2.2)
  have B3 := Blk.slq (xs := [r, cl]) (enc := intC) (n := 2) (Blk.new w2 31 #[.int .i64 r, .int .i64 cl]) intC_len rfl
  refine hx1 9 (by kernel_rfl) ?_
  refine hx_val 9 (some 13) (.slice (some ⟨w2.heap.size, 0, none⟩) 2 2) (w2.alloc (.cells #[.int .i64 r, .int .i64 cl] 31)) rfl (by rfl) rfl (by first | (go_simp; done) | (go_simp; rfl)) h3 ?_
  try simp only [Act.put, List.setIfInBounds_toArray, List.set_cons_zero, List.set_cons_succ]
  refine hx1 10 (by kernel_rfl) ?_
  refine hx_call 10 (some 14) _ _ (.int .i64 (firstNZ [r, cl])) (fun w' => w2.alloc (.cells #[.int .i64 r, .int .i64 cl] 31) = w') rfl (by rfl) rfl (by first | (go_simp; done) | (go_simp; rfl)) ((dfirst_any _ 2 2 [r, cl] _ B3 (by omega)).mono fun _ _ h => ⟨h.1, h.2.symm⟩) ?_
  rintro _ rfl
  refine ⟨h3, ?_⟩
  try simp only [Act.put, List.setIfInBounds_toArray, List.set_cons_zero, List.set_cons_succ]
  refine hx_take 11 (some 3) _ rfl (by kernel_rfl) (by kernel_rfl) (by kernel_rfl) (fun _ _ _ h => h) rfl (Or.inl ⟨by rfl, fun w hSw => by first | (go_simp; done) | (go_simp; with_reducible rfl) | (go_simp; rfl)⟩) (by assumption) ?_
  try simp only [Act.put, List.setIfInBounds_toArray, List.set_cons_zero, List.set_cons_succ]
  refine wpAnyH_done (by kernel_rfl) ?_ _
  have HB := Lib.hid (below_trans' (below_trans' hbd hbd.size hb2) (below_trans' hbd hbd.size hb2).size hb3)
  have HQ := Lib.hid (show firstNZ [r, cl] = 0 → cl = 0 from fun h => by simpa using firstNZ_zero h 1)
  clear hb2 hb3 h2 h3 B3
  go_wp2_with fail
  go_ret
  exact HP.out _ _ ⟨_, rfl, HQ.out, HB.out⟩
set_option maxRecDepth 100000 in
set_option maxHeartbeats 4000000 in
theorem ckLists_any (A : Option Addr) (n c : Nat) (es : List LsE) (vs : List (List Lv)) (w : World) (ha : LsT w A n es vs) (hn : n ≤ 64) : Calls Tryz.prog 33 #[.slice A n c] w (ErrPost w (∀ k, k < n → clE (vs.getD k []) = 0)) := by
  have N1 := Blk.new w 42 #[.slice A n c]
  have hb1 := alloc1 w (.cells #[.slice A n c] 42)
  have cA := Lib.hid (fun W q (hb : Below w.heap.size w W) (hq : Blk W q 42 #[.slice A n c]) => all_any n 59 #[.pointer (some ⟨q, 0, none⟩)] (fun k => clE (vs.getD k []) = 0) W (by omega) (enters_of Tryz.func59 (by kernel_rfl) rfl) (fun i W' hi hb' => ckl1_any A n c es vs q i W' ((ha.below hb).below hb') (hq.below hb') hi hn))
  have HP := Lib.hid (show ∀ e w', (∃ r : Int, e = .returned (.int .i64 r) ∧ (r = 0 → ∀ k, k < n → clE (vs.getD k []) = 0) ∧ Below w.heap.size w w') → ErrPost w (∀ k, k < n → clE (vs.getD k []) = 0) e w' from fun _ _ h => h)
  obtain ⟨p1, hp1⟩ : ∃ p, p = w.heap.size := ⟨_, rfl⟩
  have hn1 : ¬ (64 : Int) < n := by omega
  have hn2 : min (n : Int) 64 = n := by omega
  go_enter Tryz.func33, Tryz.ntmps33
  go_upto_region 1 with fail
  generalize w.alloc (.cells #[.slice A n c] 42) = w1 at *
  rw [← hp1] at N1 ⊢
  clear hp1
  have q0 := N1.cell 0 rfl
  refine wp_region_held_drew (S := fun w' => w'.cell? ⟨p1, 0, none⟩ = some (.slice A n c)) (by kernel_rfl) q0 (fun hHeld => ?_)
  have hbd := bDrew hb1
  have Nd := N1.drewN 1
  rw [show w1.drewN 1 = w1.drew from rfl] at Nd
  generalize w1.drew = wd at *
  refine hx_take 0 (some 3) _ rfl (by kernel_rfl) (by kernel_rfl) (by kernel_rfl) (fun _ _ _ h => h) rfl (Or.inl ⟨by rfl, fun w hSw => by first | (go_simp; done) | (go_simp; with_reducible rfl) | (go_simp; rfl)⟩) (by assumption) ?_
  try simp only [Act.put, List.setIfInBounds_toArray, List.set_cons_zero, List.set_cons_succ]
  refine hx_take 4 (some 7) _ rfl (by kernel_rfl) (by kernel_rfl) (by kernel_rfl) (fun _ _ _ h => h) rfl (Or.inl ⟨by rfl, fun w hSw => by first | (go_simp; done) | (go_simp; with_reducible rfl) | (go_simp; rfl)⟩) (by assumption) ?_
  try simp only [Act.put, List.setIfInBounds_toArray, List.set_cons_zero, List.set_cons_succ]
  refine hx_take 7 (some 10) _ rfl (by kernel_rfl) (by kernel_rfl) (by kernel_rfl) (fun _ _ _ h => h) rfl (Or.inl ⟨by rfl, fun w hSw => by first | (go_simp; done) | (go_simp; with_reducible rfl) | (go_simp; rfl)⟩) (by assumption) ?_
  try simp only [Act.put, List.setIfInBounds_toArray, List.set_cons_zero, List.set_cons_succ]
  refine hx_take 1 (some 4) _ rfl (by kernel_rfl) (by kernel_rfl) (by kernel_rfl) (fun _ _ _ h => h) rfl (Or.inl ⟨by rfl, fun w hSw => by first | (go_simp; done) | (go_simp; with_reducible rfl) | (go_simp; rfl)⟩) (by assumption) ?_
  try simp only [Act.put, List.setIfInBounds_toArray, List.set_cons_zero, List.set_cons_succ]
  refine hx_take 5 (some 8) _ rfl (by kernel_rfl) (by kernel_rfl) (by kernel_rfl) (fun _ _ _ h => h) rfl (Or.inl ⟨by rfl, fun w hSw => by first | (go_simp; done) | (go_simp; with_reducible rfl) | (go_simp; rfl)⟩) (by assumption) ?_
  try simp only [Act.put, List.setIfInBounds_toArray, List.set_cons_zero, List.set_cons_succ]
  refine hx_take 2 (some 5) _ rfl (by kernel_rfl) (by kernel_rfl) (by kernel_rfl) (fun _ _ _ h => h) rfl (Or.inl ⟨by rfl, fun w hSw => by first | (go_simp; done) | (go_simp; with_reducible rfl) | (go_simp; rfl)⟩) (by assumption) ?_
  try simp only [Act.put, List.setIfInBounds_toArray, List.set_cons_zero, List.set_cons_succ]
  refine hx_take 6 (some 9) (.int .i64 (n : Nat)) rfl (by kernel_rfl) (by kernel_rfl) (by kernel_rfl) (fun _ _ _ h => h) rfl (Or.inl ⟨by rfl, fun w hSw => by first | (go_simp; done) | (go_simp; with_reducible rfl) | (go_simp; rfl)⟩) (by assumption) ?_
  try simp only [Act.put, List.setIfInBounds_toArray, List.set_cons_zero, List.set_cons_succ]
  refine hx1 3 (by kernel_rfl) ?_
  refine hx_call 3 (some 6) _ _ (.int .i64 0) (fun w' => wd = w') rfl (by rfl) rfl (by first | (go_simp; done) | (go_simp; rfl)) ((when_any false 9 wd).mono fun _ _ h => ⟨h.1, h.2.symm⟩) ?_
  rintro _ rfl
  refine ⟨hHeld, ?_⟩
  try simp only [Act.put, List.setIfInBounds_toArray, List.set_cons_zero, List.set_cons_succ]
  refine hx1 8 (by kernel_rfl) ?_
  refine hx_callE 8 (some 11) _ _ (ErrR wd (∀ i, i < n → clE (vs.getD i []) = 0)) rfl (by rfl) rfl (by first | (go_simp; done) | (go_simp; rfl)) ((cA.out wd p1 hbd Nd).mono fun _ _ h => h.val) ?_
  rintro v w2 ⟨r, rfl, hq2, hb2⟩
  have h2 := keepC hb2 hHeld
  refine ⟨h2, ?_⟩
  try simp only [Act.put, List.setIfInBounds_toArray, List.set_cons_zero, List.set_cons_succ]
  have hb3 := alloc1 w2 (.cells #[.int .i64 0, .int .i64 r] 31)
  have h3 := keepC hb3 h2
  have B3 := Blk.slq (xs := [0, r]) (enc := intC) (n := 2) (Blk.new w2 31 #[.int .i64 0, .int .i64 r]) intC_len rfl
  refine hx1 9 (by kernel_rfl) ?_
  refine hx_val 9 (some 12) (.slice (some ⟨w2.heap.size, 0, none⟩) 2 2) (w2.alloc (.cells #[.int .i64 0, .int .i64 r] 31)) rfl (by rfl) rfl (by first | (go_simp; done) | (go_simp; rfl)) h3 ?_
  try simp only [Act.put, List.setIfInBounds_toArray, List.set_cons_zero, List.set_cons_succ]
  refine hx1 10 (by kernel_rfl) ?_
  refine hx_call 10 (some 13) _ _ (.int .i64 (firstNZ [0, r])) (fun w' => w2.alloc (.cells #[.int .i64 0, .int .i64 r] 31) = w') rfl (by rfl) rfl (by first | (go_simp; done) | (go_simp; rfl)) ((dfirst_any _ 2 2 [0, r] _ B3 (by omega)).mono fun _ _ h => ⟨h.1, h.2.symm⟩) ?_
  rintro _ rfl
  refine ⟨h3, ?_⟩
  try simp only [Act.put, List.setIfInBounds_toArray, List.set_cons_zero, List.set_cons_succ]
  refine hx_take 11 (some 2) _ rfl (by kernel_rfl) (by kernel_rfl) (by kernel_rfl) (fun _ _ _ h => h) rfl (Or.inl ⟨by rfl, fun w hSw => by first | (go_simp; done) | (go_simp; with_reducible rfl) | (go_simp; rfl)⟩) (by assumption) ?_
  try simp only [Act.put, List.setIfInBounds_toArray, List.set_cons_zero, List.set_cons_succ]
  refine wpAnyH_done (by kernel_rfl) ?_ _
  have HB := Lib.hid (below_trans' (below_trans' hbd hbd.size hb2) (below_trans' hbd hbd.size hb2).size hb3)
  have HQ := Lib.hid (show firstNZ [0, r] = 0 → ∀ k, k < n → clE (vs.getD k []) = 0 from fun h => hq2 (by simpa using firstNZ_zero h 1))
  clear hb2 hb3 h2 h3 B3 hq2
  go_wp2_with fail
  go_ret
  exact HP.out _ _ ⟨_, rfl, HQ.out, HB.out⟩
end Go.Proofs.YthbodpjkckminaaGreatDoor

namespace Go.Proofs.YthbodpjkckminaaGreatDoor
open Go.RowKit

set_option maxRecDepth 100000 in
set_option maxHeartbeats 8000000 in
theorem ckSettings_any (A1 A2 A3 A : Option Addr) (c1 c2 c3 n c : Nat) (es : List LsE) (vs : List (List Lv)) (w : World) (ha : LsT w A n es vs) (hn : n ≤ 64) :
    Calls Tryz.prog 14 #[.agg #[.slice A1 0 c1, .slice A n c, .slice A2 0 c2, .slice A3 0 c3]] w (ErrPost w (∀ k, k < n → clE (vs.getD k []) = 0)) := by
  have HP := Lib.hid (show ∀ e w', (∃ r : Int, e = .returned (.int .i64 r) ∧ (r = 0 → ∀ k, k < n → clE (vs.getD k []) = 0) ∧ Below w.heap.size w w') → ErrPost w (∀ k, k < n → clE (vs.getD k []) = 0) e w' from fun _ _ h => h)
  have N1 := Blk.new w 46 #[.slice A1 0 c1, .slice A n c, .slice A2 0 c2, .slice A3 0 c3]
  have hb1 := alloc1 w (.cells #[.slice A1 0 c1, .slice A n c, .slice A2 0 c2, .slice A3 0 c3] 46)
  have cS := Lib.hid (fun W => stCheckE_any A1 c1 W)
  have cL := Lib.hid (fun W (hb : Below w.heap.size w W) => ckLists_any A n c es vs W (ha.below hb) hn)
  have cC := Lib.hid (fun W => ckComments_any A2 c2 W)
  have cV := Lib.hid (fun W => ckVars_any A3 c3 W)
  obtain ⟨p1, hp1⟩ : ∃ p, p = w.heap.size := ⟨_, rfl⟩
  clear ha
  go_enter Tryz.func14, Tryz.ntmps14
  go_upto_region 1 with fail
  generalize w.alloc (.cells #[.slice A1 0 c1, .slice A n c, .slice A2 0 c2, .slice A3 0 c3] 46) = w1 at *
  rw [← hp1] at N1 ⊢
  clear hp1
  have HK := Lib.hid (show ∀ W, Below w1.heap.size w1 W → W.cell? ⟨p1, 0, none⟩ = some (.slice A1 0 c1) ∧ W.cell? ⟨p1, 1, none⟩ = some (.slice A n c) ∧ W.cell? ⟨p1, 2, none⟩ = some (.slice A2 0 c2) ∧ W.cell? ⟨p1, 3, none⟩ = some (.slice A3 0 c3) from fun W hb => ⟨(N1.below hb).cell 0 rfl, (N1.below hb).cell 1 rfl, (N1.below hb).cell 2 rfl, (N1.below hb).cell 3 rfl⟩)
  refine wp_region_held_drew (S := fun w' => w'.cell? ⟨p1, 0, none⟩ = some (.slice A1 0 c1) ∧ w'.cell? ⟨p1, 1, none⟩ = some (.slice A n c) ∧ w'.cell? ⟨p1, 2, none⟩ = some (.slice A2 0 c2) ∧ w'.cell? ⟨p1, 3, none⟩ = some (.slice A3 0 c3)) (by kernel_rfl) (HK.out w1 (Below.refl _ _)) (fun hHeld => ?_)
  have hz1 := hb1.size
  have hbd := bDrew (Below.refl w1.heap.size w1)
  generalize w1.drew = wd at *
  refine hx_take 0 (some 3) _ rfl (by kernel_rfl) (by kernel_rfl) (by kernel_rfl) (fun _ _ _ h => h) rfl (Or.inl ⟨by rfl, fun w hSw => by first | (go_simp; done) | (go_simp; with_reducible rfl) | (go_simp; rfl)⟩) (by assumption) ?_
  try simp only [Act.put, List.setIfInBounds_toArray, List.set_cons_zero, List.set_cons_succ]
  refine hx_take 3 (some 6) _ rfl (by kernel_rfl) (by kernel_rfl) (by kernel_rfl) (fun _ _ _ h => h) rfl (Or.inl ⟨by rfl, fun w hSw => by first | (go_simp; done) | (go_simp; with_reducible rfl) | (go_simp; rfl)⟩) (by assumption) ?_
  try simp only [Act.put, List.setIfInBounds_toArray, List.set_cons_zero, List.set_cons_succ]
  refine hx_take 6 (some 9) _ rfl (by kernel_rfl) (by kernel_rfl) (by kernel_rfl) (fun _ _ _ h => h) rfl (Or.inl ⟨by rfl, fun w hSw => by first | (go_simp; done) | (go_simp; with_reducible rfl) | (go_simp; rfl)⟩) (by assumption) ?_
  try simp only [Act.put, List.setIfInBounds_toArray, List.set_cons_zero, List.set_cons_succ]
  refine hx_take 9 (some 12) _ rfl (by kernel_rfl) (by kernel_rfl) (by kernel_rfl) (fun _ _ _ h => h) rfl (Or.inl ⟨by rfl, fun w hSw => by first | (go_simp; done) | (go_simp; with_reducible rfl) | (go_simp; rfl)⟩) (by assumption) ?_
  try simp only [Act.put, List.setIfInBounds_toArray, List.set_cons_zero, List.set_cons_succ]
  refine hx_take 1 (some 4) _ rfl (by kernel_rfl) (by kernel_rfl) (by kernel_rfl) (fun _ _ _ h => h) rfl (Or.inl ⟨by rfl, fun w hSw => by first | (go_simp; done) | (go_simp; with_reducible rfl) | (go_simp; rfl)⟩) (by assumption) ?_
  try simp only [Act.put, List.setIfInBounds_toArray, List.set_cons_zero, List.set_cons_succ]
  refine hx_take 4 (some 7) _ rfl (by kernel_rfl) (by kernel_rfl) (by kernel_rfl) (fun _ _ _ h => h) rfl (Or.inl ⟨by rfl, fun w hSw => by first | (go_simp; done) | (go_simp; with_reducible rfl) | (go_simp; rfl)⟩) (by assumption) ?_
  try simp only [Act.put, List.setIfInBounds_toArray, List.set_cons_zero, List.set_cons_succ]
  refine hx_take 7 (some 10) _ rfl (by kernel_rfl) (by kernel_rfl) (by kernel_rfl) (fun _ _ _ h => h) rfl (Or.inl ⟨by rfl, fun w hSw => by first | (go_simp; done) | (go_simp; with_reducible rfl) | (go_simp; rfl)⟩) (by assumption) ?_
  try simp only [Act.put, List.setIfInBounds_toArray, List.set_cons_zero, List.set_cons_succ]
  refine hx_take 10 (some 13) _ rfl (by kernel_rfl) (by kernel_rfl) (by kernel_rfl) (fun _ _ _ h => h) rfl (Or.inl ⟨by rfl, fun w hSw => by first | (go_simp; done) | (go_simp; with_reducible rfl) | (go_simp; rfl)⟩) (by assumption) ?_
  try simp only [Act.put, List.setIfInBounds_toArray, List.set_cons_zero, List.set_cons_succ]
  refine hx1 2 (by kernel_rfl) ?_
  refine hx_call 2 (some 5) _ _ (.int .i64 0) _ rfl (by rfl) rfl (by first | (go_simp; done) | (go_simp; rfl)) (cS.out wd) ?_
  rintro w2 hb2
  have hb2 := below_trans' hbd hbd.size hb2
  refine ⟨HK.out w2 hb2, ?_⟩
  try simp only [Act.put, List.setIfInBounds_toArray, List.set_cons_zero, List.set_cons_succ]
  refine hx1 5 (by kernel_rfl) ?_
  refine hx_callE 5 (some 8) _ _ (ErrR w2 (∀ k, k < n → clE (vs.getD k []) = 0)) rfl (by rfl) rfl (by first | (go_simp; done) | (go_simp; rfl)) ((cL.out w2 (below_trans' hb1 hz1 hb2)).mono fun _ _ h => h.val) ?_
  rintro v w3 ⟨r1, rfl, hq, hb3⟩
  have hb3 := below_trans' hb2 hb2.size hb3
  refine ⟨HK.out w3 hb3, ?_⟩
  try simp only [Act.put, List.setIfInBounds_toArray, List.set_cons_zero, List.set_cons_succ]
  refine hx1 8 (by kernel_rfl) ?_
  refine hx_callE 8 (some 11) _ _ (ErrR w3 True) rfl (by rfl) rfl (by first | (go_simp; done) | (go_simp; rfl)) ((cC.out w3).mono fun _ _ h => h.val) ?_
  rintro v w4 ⟨r2, rfl, _, hb4⟩
  have hb4 := below_trans' hb3 hb3.size hb4
  refine ⟨HK.out w4 hb4, ?_⟩
  try simp only [Act.put, List.setIfInBounds_toArray, List.set_cons_zero, List.set_cons_succ]
  refine hx1 11 (by kernel_rfl) ?_
  refine hx_callE 11 (some 14) _ _ (ErrR w4 True) rfl (by rfl) rfl (by first | (go_simp; done) | (go_simp; rfl)) ((cV.out w4).mono fun _ _ h => h.val) ?_
  rintro v w5 ⟨r3, rfl, _, hb5⟩
  have hb5 := below_trans' hb4 hb4.size hb5
  refine ⟨HK.out w5 hb5, ?_⟩
  try simp only [Act.put, List.setIfInBounds_toArray, List.set_cons_zero, List.set_cons_succ]
  have hb6 := below_trans' hb5 hb5.size (alloc1 w5 (.cells #[.int .i64 0, .int .i64 r1, .int .i64 r2, .int .i64 r3] 31))
  have B3 := Blk.slq (xs := [0, r1, r2, r3]) (enc := intC) (n := 4) (Blk.new w5 31 #[.int .i64 0, .int .i64 r1, .int .i64 r2, .int .i64 r3]) intC_len rfl
  refine hx1 12 (by kernel_rfl) ?_
  refine hx_val 12 (some 15) (.slice (some ⟨w5.heap.size, 0, none⟩) 4 4) (w5.alloc (.cells #[.int .i64 0, .int .i64 r1, .int .i64 r2, .int .i64 r3] 31)) rfl (by rfl) rfl (by first | (go_simp; done) | (go_simp; rfl)) (HK.out _ hb6) ?_
  try simp only [Act.put, List.setIfInBounds_toArray, List.set_cons_zero, List.set_cons_succ]
  refine hx1 13 (by kernel_rfl) ?_
  refine hx_call 13 (some 16) _ _ (.int .i64 (firstNZ [0, r1, r2, r3])) (fun w' => w5.alloc (.cells #[.int .i64 0, .int .i64 r1, .int .i64 r2, .int .i64 r3] 31) = w') rfl (by rfl) rfl (by first | (go_simp; done) | (go_simp; rfl)) ((dfirst_any _ 4 4 [0, r1, r2, r3] _ B3 (by omega)).mono fun _ _ h => ⟨h.1, h.2.symm⟩) ?_
  rintro _ rfl
  have h6 := HK.out _ hb6
  refine ⟨h6, ?_⟩
  try simp only [Act.put, List.setIfInBounds_toArray, List.set_cons_zero, List.set_cons_succ]
  refine hx_take 14 (some 2) _ rfl (by kernel_rfl) (by kernel_rfl) (by kernel_rfl) (fun _ _ _ h => h) rfl (Or.inl ⟨by rfl, fun w hSw => by first | (go_simp; done) | (go_simp; with_reducible rfl) | (go_simp; rfl)⟩) (by assumption) ?_
  try simp only [Act.put, List.setIfInBounds_toArray, List.set_cons_zero, List.set_cons_succ]
  refine wpAnyH_done (by kernel_rfl) ?_ _
  have HB := Lib.hid (below_trans' hb1 hz1 hb6)
  have HQ := Lib.hid (show firstNZ [0, r1, r2, r3] = 0 → ∀ k, k < n → clE (vs.getD k []) = 0 from fun h => hq (by simpa using firstNZ_zero h 1))
  clear hb2 hb3 hb4 hb5 hb6 h6 B3 hq
  go_wp2_with fail
  go_ret
  exact HP.out _ _ ⟨_, rfl, HQ.out, HB.out⟩
end Go.Proofs.YthbodpjkckminaaGreatDoor

namespace Go.Proofs.YthbodpjkckminaaGreatDoor
open Go.RowKit Go.Maps Go.WideMaps

def RB : Value → Option (DataW Unit × List MemPlace)
  | .bool b => some (.lit (.bool b), [])
  | _ => none
theorem RB_inv {v : Value} {d : DataW Unit × List MemPlace} (h : RB v = some d) : ∃ b : Bool, v = .bool b := by
  cases v <;> simp [RB] at h
  exact ⟨_, rfl⟩
/-- block b is a map of bools, at most n entries. -/
def Mb (w : World) (b n : Nat) : Prop := ∃ D : DataW Unit, w.ownsMap Tryz.prog 3 RB b n D
section
variable {w w' : World} {b n : Nat}
theorem Mb.made (w : World) : Mb (w.alloc (.map #[] 0)) w.heap.size 0 := ⟨_, World.ownsMap_made w _ _ _⟩
theorem Mb.keep {row : Option Nat} (h : Mb w b n) (hg : w.grownBy w' row) (hne : some b ≠ row) : Mb w' b n := by
  obtain ⟨D, h1⟩ := h
  exact ⟨D, h1.kept hg hne⟩
theorem Mb.lt (h : Mb w b n) : b < w.heap.size := by
  obtain ⟨D, h1⟩ := h
  exact h1.lt
theorem Mb.heap_at (h : Mb w b n) : ∃ o : Obj, w.heap[b]? = some o ∧ o.isCells = false := by
  obtain ⟨D, ⟨es, clock, hb, _⟩⟩ := h
  exact ⟨_, hb, rfl⟩
theorem Mb.ne_cells (h : Mb w b n) {p : Nat} {cs : Array Value} {t : TypeId} {fr : Nat × Nat} (hp : w.heap[p]? = some (.cells cs t fr)) : some b ≠ some p := fun e => by
  obtain ⟨o, ho, hc⟩ := h.heap_at
  cases e
  rw [hp] at ho
  cases ho
  cases hc
theorem Mb.below (h : Mb w b n) (hb : Below w.heap.size w w') : Mb w' b n := h.keep (grownB (row := none) hb) (by simp)
theorem Mb.lookup (h : Mb w b n) {x : Int} (hx : okZ x) : ∃ v : Bool, (Instr.lookup 112 (.map (some b)) (.int .i64 x) false).run Tryz.prog w = .ok (.bool v) w := by
  obtain ⟨D, h1⟩ := h
  obtain ⟨v, ps, hr, hv⟩ := h1.lookup (Maps.int_keyed Tryz.underlying3) Tryz.underlying112 (z := .bool false) (Tryz.zeroValue4 w) (show RB (.bool false) = some (.lit (.bool false), []) from rfl) (key3 (wf_intZ hx))
  obtain ⟨b, rfl⟩ := RB_inv hv
  exact ⟨b, hr⟩
end
end Go.Proofs.YthbodpjkckminaaGreatDoor

namespace Go.Proofs.YthbodpjkckminaaGreatDoor
open Go.RowKit

/-- a result that is an error code, whatever it is. -/
def CodeR (I : World → Prop) (v : Value) (w' : World) : Prop := ∃ r : Int, v = .int .i64 r ∧ I w'
def CodePost (I : World → Prop) (e : Ending) (w' : World) : Prop := ∃ r : Int, e = .returned (.int .i64 r) ∧ I w'
theorem CodePost.val {I : World → Prop} {e : Ending} {w' : World} (h : CodePost I e w') : ∃ v, e = .returned v ∧ CodeR I v w' := by
  obtain ⟨r, h1, h2⟩ := h
  exact ⟨_, h1, r, rfl, h2⟩
set_option maxRecDepth 100000 in
set_option maxHeartbeats 4000000 in
theorem allI_any (n : Nat) (g : Nat) (lb : Array Value) (I : Nat → World → Prop) (w : World) (hn : n ≤ 1000000) (hen : ∀ args W, (callFunc g args).run Tryz.prog W = .ok (.enter g args) W) (h0 : I 0 w)
    (hc : ∀ i W, i < n → I i W → Calls Tryz.prog g (#[.int .i64 (i : Nat)] ++ lb) W (CodePost (I (i + 1)))) :
    Calls Tryz.prog 58 #[.int .i64 (n : Nat), .func (.func g) #[] lb] w (CodePost (fun w' => ∃ j, j ≤ n ∧ I j w')) := by
  have HC := Lib.hid hc
  have HEN := Lib.hid hen
  clear hen
  have HP := Lib.hid (show ∀ e w', (∃ r : Int, e = .returned (.int .i64 r) ∧ ∃ j, j ≤ n ∧ I j w') → CodePost (fun w' => ∃ j, j ≤ n ∧ I j w') e w' from fun _ _ h => h)
  clear hc
  go_enter Tryz.func58, Tryz.ntmps58
  go_wp2_with fail
  go_loopw [8] (fun vi wr => ∃ i : Nat, vi = .int .i64 i ∧ i ≤ n ∧ I i wr) (fun vi _ => n - (intOf vi).toNat)
  case atStart => exact ⟨0, rfl, Nat.zero_le _, h0⟩
  case round =>
    obtain ⟨i, rfl, hi, hb⟩ := hrel
    by_cases hlt : i < n
    · have c1 := HC.out i wr hlt hb
      go_upto_region 4 with fail
      refine wp_region_lit ?_
      refine wpl_val (.func (.func g) #[] lb) wr (by rfl) (by go_simp) ?_
      try simp only [Act.put, List.setIfInBounds_toArray, List.set_cons_zero, List.set_cons_succ]
      refine wpl_val (.int .i64 (i : Nat)) wr (by rfl) (by go_simp) ?_
      try simp only [Act.put, List.setIfInBounds_toArray, List.set_cons_zero, List.set_cons_succ]
      have c2 : Calls Tryz.prog g (#[.int .i64 (i : Nat)] ++ lb) wr fun e w' => ∃ v, e = .returned v ∧ CodeR (I (i + 1)) v w' := Calls.mono c1 (fun _ _ h => h.val)
      refine wpl_call g (#[.int .i64 (i : Nat)] ++ lb) (CodeR (I (i + 1))) (by rfl) ?he ?hc ?rest
      case hc => with_reducible exact c2
      case he => exact run_callv (.tmp 11) #[.tmp 12] #[3] g lb #[.int .i64 (i : Nat)] rfl rfl (by simp only [List.map_toArray, List.map_cons, List.map_nil]; rfl) HEN.out
      clear c2
      rintro v w4 ⟨r, rfl, hb5⟩
      try simp only [Act.put, List.setIfInBounds_toArray, List.set_cons_zero, List.set_cons_succ]
      clear c1
      by_cases hr : r = 0
      · have HR := Lib.hid hr
        subst hr
        go_wp2_with fail
        go_roundw
        case rel => exact ⟨i + 1, by simp, by omega, hb5⟩
        case measure => rw [intOf, intOf]; omega
      · have hrb : (r != 0) = true := bne_iff_ne.2 hr
        have HR := Lib.hid hr
        clear hr
        go_wp2_with fail
        go_ret
        exact HP.out _ _ ⟨r, rfl, i + 1, hlt, hb5⟩
    · have : i = n := by omega
      subst this
      go_wp2_with fail
      go_ret
      exact HP.out _ _ ⟨0, rfl, i, Nat.le_refl _, hb⟩
end Go.Proofs.YthbodpjkckminaaGreatDoor

namespace Go.Proofs.YthbodpjkckminaaGreatDoor
open Go.RowKit Go.Maps

section
variable {P : Program} {ops : Array Oper} {Q : Exit → Act → World → Prop} {md : Region.Mode} {S : World → Prop} {fuel : Nat} {listed : Array Bool} {a : Act} {w : World} {o : Oper}
/-- 'm[k] = v' in a region that draws its order. -/
theorem hx_mapUpd {H : Type} (i : Nat) (m x v : Operand) (t : TypeId) (ho : ops[i]? = some o) (hw : Region.wanted o (yielded ops a.tmps) = true) (hd : o.dst = none) (hop : o.op = Op.mapUpdate t m x v)
    (k e : TypeId) (K : Keyed P k) (ht : P.underlying t = some (.map k e)) (R : Value → Option (DataW H × List MemPlace)) (b n : Nat) (D : DataW H)
    (hm : a.eval m = .map (some b)) (hown : w.ownsMap P k R b n D) (hn : n < maxLen) (key val : Value) (kl : Lit) (hx : a.eval x = key) (hv : a.eval v = val) (hkey : keyOf P k key = some kl)
    (d : DataW H) (ps : List MemPlace) (hval : R val = some (d, ps))
    (h : ∀ w', w'.ownsMap P k R b (n + 1) (D.put kl d) → w.grownBy w' (some b) → S w' ∧ wpAnyH P md ops Q S fuel (listed.setIfInBounds i true) a w') : StepH P md ops Q S fuel listed a w i := by
  refine hx_wp i ho hw ?_
  obtain ⟨w', hrun, r1, r2⟩ := hown.update K ht hn hkey hval
  unfold Oper.wp
  simp [execOp, hop, hm, hx, hv, hrun, Result.andThen]
  rw [Oper.upon_skip, hd]
  exact h w' r1 r2
end
structure NcW (w : World) (p0 p b1 b2 b3 b4 b5 n2 : Nat) (A : Option Addr) (m c : Nat) (LA : Option Addr) (ln lc : Nat) (v : World) : Prop where
  bd : Blk v p0 63 #[.slice A m c, .slice none 0 0, .int .i64 0, .int .i64 0, .slice none 0 0, .slice none 0 0, .slice none 0 0, .slice none 0 0, .slice LA ln lc, .slice none 0 0, .slice none 0 0]
  bk : Blk v p 114 #[.map (some b1), .map (some b2), .map (some b3), .map (some b4), .map (some b5), .int .i64 0]
  mb : Mb v b2 n2
  l0 : w.heap.size ≤ p0
  lp : w.heap.size ≤ p
  lb : w.heap.size ≤ b2
  bel : Below w.heap.size w v
section
variable {w v v' : World} {p0 p b1 b2 b3 b4 b5 n2 : Nat} {A : Option Addr} {m c : Nat} {LA : Option Addr} {ln lc : Nat}
theorem NcW.below (h : NcW w p0 p b1 b2 b3 b4 b5 n2 A m c LA ln lc v) (hb : Below v.heap.size v v') : NcW w p0 p b1 b2 b3 b4 b5 n2 A m c LA ln lc v' :=
  ⟨h.bd.below hb, h.bk.below hb, h.mb.below hb, h.l0, h.lp, h.lb, below_trans' h.bel h.bel.size hb⟩
theorem NcW.mapped (h : NcW w p0 p b1 b2 b3 b4 b5 n2 A m c LA ln lc v) {D : DataW Unit} (hm : v'.ownsMap Tryz.prog 3 RB b2 (n2 + 1) D) (hg : v.grownBy v' (some b2)) : NcW w p0 p b1 b2 b3 b4 b5 (n2 + 1) A m c LA ln lc v' :=
  ⟨h.bd.keep hg (h.mb.ne_cells h.bd), h.bk.keep hg (h.mb.ne_cells h.bk), ⟨D, hm⟩, h.l0, h.lp, h.lb, h.bel.grown hg h.bel.size (fun k e => by cases e; exact h.lb)⟩
end
theorem nc_new (w : World) (A : Option Addr) (m c : Nat) (LA : Option Addr) (ln lc : Nat) : NcW w w.heap.size (w.heap.size + 1 + 1 + 1 + 1 + 1 + 1) (w.heap.size + 1) (w.heap.size + 1 + 1) (w.heap.size + 1 + 1 + 1) (w.heap.size + 1 + 1 + 1 + 1) (w.heap.size + 1 + 1 + 1 + 1 + 1) 0 A m c LA ln lc
    (((((((w.alloc (.cells #[.slice A m c, .slice none 0 0, .int .i64 0, .int .i64 0, .slice none 0 0, .slice none 0 0, .slice none 0 0, .slice none 0 0, .slice LA ln lc, .slice none 0 0, .slice none 0 0] 63)).alloc (.map #[] 0)).alloc (.map #[] 0)).alloc (.map #[] 0)).alloc (.map #[] 0)).alloc (.map #[] 0)).alloc (.cells #[.map (some (w.heap.size + 1)), .map (some (w.heap.size + 1 + 1)), .map (some (w.heap.size + 1 + 1 + 1)), .map (some (w.heap.size + 1 + 1 + 1 + 1)), .map (some (w.heap.size + 1 + 1 + 1 + 1 + 1)), .int .i64 0] 114)) := by
  generalize hD : (#[.slice A m c, .slice none 0 0, .int .i64 0, .int .i64 0, .slice none 0 0, .slice none 0 0, .slice none 0 0, .slice none 0 0, .slice LA ln lc, .slice none 0 0, .slice none 0 0] : Array Value) = D
  have B0 := Blk.new w 63 D
  have h0 := alloc1 w (.cells D 63)
  have s0 : (w.alloc (.cells D 63)).heap.size = w.heap.size + 1 := World.size_alloc ..
  generalize w.alloc (.cells D 63) = w0 at *
  have h1 := alloc1 w0 (.map #[] 0)
  have s1 : (w0.alloc (.map #[] 0)).heap.size = w0.heap.size + 1 := World.size_alloc ..
  generalize w0.alloc (.map #[] 0) = w1 at *
  have M := Mb.made w1
  have h2 := alloc1 w1 (.map #[] 0)
  have s2 : (w1.alloc (.map #[] 0)).heap.size = w1.heap.size + 1 := World.size_alloc ..
  generalize w1.alloc (.map #[] 0) = w2 at *
  have h3 := alloc1 w2 (.map #[] 0)
  have s3 : (w2.alloc (.map #[] 0)).heap.size = w2.heap.size + 1 := World.size_alloc ..
  generalize w2.alloc (.map #[] 0) = w3 at *
  have h4 := alloc1 w3 (.map #[] 0)
  have s4 : (w3.alloc (.map #[] 0)).heap.size = w3.heap.size + 1 := World.size_alloc ..
  generalize w3.alloc (.map #[] 0) = w4 at *
  have h5 := alloc1 w4 (.map #[] 0)
  have s5 : (w4.alloc (.map #[] 0)).heap.size = w4.heap.size + 1 := World.size_alloc ..
  generalize w4.alloc (.map #[] 0) = w5 at *
  generalize hC : (#[.map (some (w.heap.size + 1)), .map (some (w.heap.size + 1 + 1)), .map (some (w.heap.size + 1 + 1 + 1)), .map (some (w.heap.size + 1 + 1 + 1 + 1)), .map (some (w.heap.size + 1 + 1 + 1 + 1 + 1)), .int .i64 0] : Array Value) = C
  have BK := Blk.new w5 114 C
  have h6 := alloc1 w5 (.cells C 114)
  have hM := ((((M.below h3).below h4).below h5).below h6)
  have hB := ((((((B0.below h1).below h2).below h3).below h4).below h5).below h6)
  have t1 := below_trans' h0 h0.size h1
  have t2 := below_trans' t1 t1.size h2
  have t3 := below_trans' t2 t2.size h3
  have t4 := below_trans' t3 t3.size h4
  have t5 := below_trans' t4 t4.size h5
  have t6 := below_trans' t5 t5.size h6
  subst hD hC
  have e1 : w1.heap.size = w.heap.size + 1 + 1 := by omega
  have e5 : w5.heap.size = w.heap.size + 1 + 1 + 1 + 1 + 1 + 1 := by omega
  rw [e1] at hM
  rw [e5] at BK
  exact ⟨hB, BK, hM, Nat.le_refl _, by omega, by omega, t6⟩
def NcPost (w : World) (e : Ending) (w' : World) : Prop := ∃ p b1 b2 b3 b4 b5 n2 : Nat, e = .returned (.pointer (some ⟨p, 0, none⟩)) ∧ Blk w' p 114 #[.map (some b1), .map (some b2), .map (some b3), .map (some b4), .map (some b5), .int .i64 0] ∧ Mb w' b2 n2 ∧ w.heap.size ≤ p ∧ Below w.heap.size w w'
set_option maxRecDepth 100000 in
set_option maxHeartbeats 8000000 in
theorem newCk_any (A : Option Addr) (m c : Nat) (LA : Option Addr) (ln lc : Nat) (es : List LsE) (w : World) (ha : Sl w 2 lsC LA ln es) (hln : ln ≤ 1000000) (hok : ∀ k, k < ln → okZ (gE es k).id) :
    Calls Tryz.prog 42 #[.agg (docL A m c LA ln lc).toArray] w (NcPost w) := by
  have HX := Lib.hid (nc_new w A m c LA ln lc)
  have HP := Lib.hid (show ∀ e w', (∃ p b1 b2 b3 b4 b5 n2 : Nat, e = .returned (.pointer (some ⟨p, 0, none⟩)) ∧ Blk w' p 114 #[.map (some b1), .map (some b2), .map (some b3), .map (some b4), .map (some b5), .int .i64 0] ∧ Mb w' b2 n2 ∧ w.heap.size ≤ p ∧ Below w.heap.size w w') → NcPost w e w' from fun _ _ h => h)
  rw [show (docL A m c LA ln lc).toArray = #[.slice A m c, .slice none 0 0, .int .i64 0, .int .i64 0, .slice none 0 0, .slice none 0 0, .slice none 0 0, .slice none 0 0, .slice LA ln lc, .slice none 0 0, .slice none 0 0] from rfl] at *
  have HA := Lib.hid ha
  have HOK := Lib.hid hok
  clear ha hok
  have hmm := @run_makeMap Tryz.prog
  go_enter Tryz.func42, Tryz.ntmps42
  go_upto_region 1 with fail
  go_cut [3] (fun v3 wx => ∃ p0 p b1 b2 b3 b4 b5, w.heap.size = p0 ∧ v3 = .pointer (some ⟨p, 0, none⟩) ∧ NcW w p0 p b1 b2 b3 b4 b5 0 A m c LA ln lc wx)
  case first =>
    go_wp2_with fail
    go_meet
    case rel => exact ⟨_, _, _, _, _, _, _, rfl, rfl, HX.out⟩
  case rest =>
  obtain ⟨p0, p, b1, b2, b3, b4, b5, hp0, rfl, X0⟩ := hcut
  rw [hp0]
  clear HX hp0
  generalize wc = w1 at *
  have q2 := X0.bd.cell 5 rfl
  have q7 := X0.bd.cell 7 rfl
  go_wp2_with fail
  go_loopw [21] (fun vi wr => vi = .int .i64 0 ∧ w1 = wr) (fun _ _ => 0)
  case atStart => exact ⟨rfl, rfl⟩
  case round =>
    obtain ⟨rfl, rfl⟩ := hrel
    have q8 := X0.bd.cell 8 rfl
    go_wp2_with fail
    go_loopw [38] (fun vi wr => ∃ i : Nat, vi = .int .i64 i ∧ i ≤ ln ∧ NcW w p0 p b1 b2 b3 b4 b5 i A m c LA ln lc wr) (fun vi _ => ln - (intOf vi).toNat)
    case atStart => exact ⟨0, rfl, Nat.zero_le _, X0⟩
    case round =>
      obtain ⟨i, rfl, hi, X⟩ := hrel
      clear X0 q2 q7 q8
      by_cases hlt : i < ln
      · obtain ⟨ad, e, hl2, k0, k1⟩ := (HA.out.below X.bel).ls hlt
        subst e
        have hoz := HOK.out i hlt
        generalize (gE es i).id = id at *
        generalize (gE es i).A = A1 at *
        generalize (gE es i).n = n1 at *
        generalize (gE es i).c = cc1 at *
        have hlt' : (i : Int) < ln := by omega
        go_upto_region 10 with fail
        have Y := X.below (alloc1 wr (.cells #[.int .i64 id, .slice A1 n1 cc1] 96))
        have N7 := Blk.new wr 96 #[.int .i64 id, .slice A1 n1 cc1]
        generalize wr.alloc (.cells #[.int .i64 id, .slice A1 n1 cc1] 96) = w2 at *
        generalize wr.heap.size = q7 at *
        clear X k0 k1
        refine wp_region_held_drew (S := fun w' => (w'.cell? ⟨q7, 0, none⟩ = some (.int .i64 id) ∧ w'.cell? ⟨p, 1, none⟩ = some (.map (some b2)))) (by kernel_rfl) ⟨N7.cell 0 rfl, Y.bk.cell 1 rfl⟩ (fun hHeld => ?_)
        have Z := Y.below (bDrew (Below.refl _ w2))
        have N7 := N7.below (bDrew (Below.refl _ w2))
        generalize w2.drew = wd at *
        clear Y
        refine hx_take 0 (some 42) _ rfl (by kernel_rfl) (by kernel_rfl) (by kernel_rfl) (fun _ _ _ h => h) rfl (Or.inl ⟨by rfl, fun w hSw => by first | (go_simp; done) | (go_simp; with_reducible rfl) | (go_simp; rfl)⟩) (by assumption) ?_
        try simp only [Act.put, List.setIfInBounds_toArray, List.set_cons_zero, List.set_cons_succ]
        refine hx_take 4 (some 46) _ rfl (by kernel_rfl) (by kernel_rfl) (by kernel_rfl) (fun _ _ _ h => h) rfl (Or.inl ⟨by rfl, fun w hSw => by first | (go_simp; done) | (go_simp; with_reducible rfl) | (go_simp; rfl)⟩) (by assumption) ?_
        try simp only [Act.put, List.setIfInBounds_toArray, List.set_cons_zero, List.set_cons_succ]
        refine hx_take 1 (some 43) _ rfl (by kernel_rfl) (by kernel_rfl) (by kernel_rfl) (fun _ _ _ h => h) rfl (Or.inl ⟨by rfl, fun w hSw => by first | (go_simp; done) | (go_simp; with_reducible rfl) | (go_simp; rfl)⟩) (by assumption) ?_
        try simp only [Act.put, List.setIfInBounds_toArray, List.set_cons_zero, List.set_cons_succ]
        refine hx_take 5 (some 47) _ rfl (by kernel_rfl) (by kernel_rfl) (by kernel_rfl) (fun _ _ _ h => h) rfl (Or.inl ⟨by rfl, fun w hSw => by first | (go_simp; done) | (go_simp; with_reducible rfl) | (go_simp; rfl)⟩) (by assumption) ?_
        try simp only [Act.put, List.setIfInBounds_toArray, List.set_cons_zero, List.set_cons_succ]
        refine hx_take 2 (some 44) _ rfl (by kernel_rfl) (by kernel_rfl) (by kernel_rfl) (fun _ _ _ h => h) rfl (Or.inl ⟨by rfl, fun w hSw => by first | (go_simp; done) | (go_simp; with_reducible rfl) | (go_simp; rfl)⟩) (by assumption) ?_
        try simp only [Act.put, List.setIfInBounds_toArray, List.set_cons_zero, List.set_cons_succ]
        refine hx_take 3 (some 45) _ rfl (by kernel_rfl) (by kernel_rfl) (by kernel_rfl) (fun _ _ _ h => h) rfl (Or.inl ⟨by rfl, fun w hSw => by first | (go_simp; done) | (go_simp; with_reducible rfl) | (go_simp; rfl)⟩) (by assumption) ?_
        try simp only [Act.put, List.setIfInBounds_toArray, List.set_cons_zero, List.set_cons_succ]
        obtain ⟨D, hD⟩ := Z.mb
        refine hx1 6 (by kernel_rfl) ?_
        refine hx_mapUpd 6 _ _ _ 112 rfl (by rfl) rfl rfl 3 4 (Maps.int_keyed Tryz.underlying3) Tryz.underlying112 RB b2 i D (by rfl) hD (by unfold maxLen; omega) (.int .i64 id) (.bool true) _ rfl rfl (key3 (wf_intZ hoz)) (.lit (.bool true)) [] rfl ?_
        intro w9 hm9 hg9
        have Z9 := Z.mapped hm9 hg9
        have N9 := N7.keep hg9 (Z.mb.ne_cells N7)
        refine ⟨⟨N9.cell 0 rfl, Z9.bk.cell 1 rfl⟩, ?_⟩
        refine wpAnyH_done (by kernel_rfl) ?_ _
        clear hm9 hg9 hD Z N7 N9 hHeld
        go_wp2_with fail
        go_roundw
        case rel => exact ⟨i + 1, by simp, hlt, Z9⟩
        case measure => rw [intOf, intOf]; omega
      · have : i = ln := by omega
        subst this
        have q6 := X.bd.cell 6 rfl
        go_wp2_with fail
        go_loopw [52] (fun vi wr'' => vi = .int .i64 0 ∧ wr = wr'') (fun _ _ => 0)
        case atStart => exact ⟨rfl, rfl⟩
        case round =>
          obtain ⟨rfl, rfl⟩ := hrel
          go_wp2_with fail
          go_ret
          exact HP.out _ _ ⟨p, b1, b2, b3, b4, b5, i, rfl, X.bk, X.mb, X.lp, X.bel⟩
end Go.Proofs.YthbodpjkckminaaGreatDoor
