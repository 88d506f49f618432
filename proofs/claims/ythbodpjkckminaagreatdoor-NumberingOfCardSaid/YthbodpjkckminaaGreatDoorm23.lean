/- document: the checks of settings. stylesheet.Check of no styles, document.checkLists, CheckSettings. document.checkLists, CheckSettings. document.CheckSettings: lists alone. the law's find and of. -/
import Derived.Test.YthbodpjkckminaaGreatDoorm22
namespace Go.Proofs.YthbodpjkckminaaGreatDoor
open Go.RowKit

set_option maxRecDepth 100000 in
set_option maxHeartbeats 4000000 in
theorem ckComments_any (A : Option Addr) (c : Nat) (w : World) : Calls Tryz.prog 34 #[.slice A 0 c] w (ErrPost w True) := by
  have N1 := Blk.new w 43 #[.slice A 0 c]
  have hb1 := alloc1 w (.cells #[.slice A 0 c] 43)
  have cA := Lib.hid (fun W q => all_any 0 62 #[.pointer (some ⟨q, 0, none⟩)] (fun _ => True) W (by omega) (enters_of Tryz.func62 (by kernel_rfl) rfl) (fun i W hi _ => absurd hi (Nat.not_lt_zero _)))
  have HP := Lib.hid (show ∀ e w', (∃ r : Int, e = .returned (.int .i64 r) ∧ (r = 0 → True) ∧ Below w.heap.size w w') → ErrPost w True e w' from fun _ _ h => h)
  obtain ⟨p1, hp1⟩ : ∃ p, p = w.heap.size := ⟨_, rfl⟩
  go_enter Tryz.func34, Tryz.ntmps34
  go_upto_region 1 with fail
  generalize w.alloc (.cells #[.slice A 0 c] 43) = w1 at *
  rw [← hp1] at N1 ⊢
  clear hp1
  have q0 := N1.cell 0 rfl
  refine wp_region_held_drew (S := fun w' => w'.cell? ⟨p1, 0, none⟩ = some (.slice A 0 c)) (by kernel_rfl) q0 (fun hHeld => ?_)
  have hbd := bDrew hb1
  generalize w1.drew = wd at *
  refine hx_take 0 (some 3) _ rfl (by kernel_rfl) (by kernel_rfl) (by kernel_rfl) (fun _ _ _ h => h) rfl (Or.inl ⟨by rfl, fun w hSw => by first | (go_simp; done) | (go_simp; with_reducible rfl) | (go_simp; rfl)⟩) (by assumption) ?_
  try simp only [Act.put, List.setIfInBounds_toArray, List.set_cons_zero, List.set_cons_succ]
  refine hx_take 4 (some 7) _ rfl (by kernel_rfl) (by kernel_rfl) (by kernel_rfl) (fun _ _ _ h => h) rfl (Or.inl ⟨by rfl, fun w hSw => by first | (go_simp; done) | (go_simp; with_reducible rfl) | (go_simp; rfl)⟩) (by assumption) ?_
  try simp only [Act.put, List.setIfInBounds_toArray, List.set_cons_zero, List.set_cons_succ]
  refine hx_take 7 (some 10) _ rfl (by kernel_rfl) (by kernel_rfl) (by kernel_rfl) (fun _ _ _ h => h) rfl (Or.inl ⟨by rfl, fun w hSw => by first | (go_simp; done) | (go_simp; with_reducible rfl) | (go_simp; rfl)⟩) (by assumption) ?_
  try simp only [Act.put, List.setIfInBounds_toArray, List.set_cons_zero, List.set_cons_succ]
  refine hx_take 1 (some 4) _ rfl (by kernel_rfl) (by kernel_rfl) (by kernel_rfl) (fun _ _ _ h => h) rfl (Or.inl ⟨by rfl, fun w hSw => by first | (go_simp; done) | (go_simp; with_reducible rfl) | (go_simp; rfl)⟩) (by assumption) ?_
  try simp only [Act.put, List.setIfInBounds_toArray, List.set_cons_zero, List.set_cons_succ]
  refine hx_take 5 (some 8) _ rfl (by kernel_rfl) (by kernel_rfl) (by kernel_rfl) (fun _ _ _ h => h) rfl (Or.inl ⟨by rfl, fun w hSw => by first | (go_simp; done) | (go_simp; with_reducible rfl) | (go_simp; rfl)⟩) (by assumption) ?_
  try simp only [Act.put, List.setIfInBounds_toArray, List.set_cons_zero, List.set_cons_succ]
  refine hx_take 2 (some 5) _ rfl (by kernel_rfl) (by kernel_rfl) (by kernel_rfl) (fun _ _ _ h => h) rfl (Or.inl ⟨by rfl, fun w hSw => by first | (go_simp; done) | (go_simp; with_reducible rfl) | (go_simp; rfl)⟩) (by assumption) ?_
  try simp only [Act.put, List.setIfInBounds_toArray, List.set_cons_zero, List.set_cons_succ]
  refine hx_take 6 (some 9) (.int .i64 ((0 : Nat) : Int)) rfl (by kernel_rfl) (by kernel_rfl) (by kernel_rfl) (fun _ _ _ h => h) rfl (Or.inl ⟨by rfl, fun w hSw => by first | (go_simp; done) | (go_simp; with_reducible rfl) | (go_simp; rfl)⟩) (by assumption) ?_
  try simp only [Act.put, List.setIfInBounds_toArray, List.set_cons_zero, List.set_cons_succ]
  refine hx1 3 (by kernel_rfl) ?_
  refine hx_call 3 (some 6) _ _ (.int .i64 0) (fun w' => wd = w') rfl (by rfl) rfl (by first | (go_simp; done) | (go_simp; rfl)) ((when_any false 9 wd).mono fun _ _ h => ⟨h.1, h.2.symm⟩) ?_
  rintro _ rfl
  refine ⟨hHeld, ?_⟩
  try simp only [Act.put, List.setIfInBounds_toArray, List.set_cons_zero, List.set_cons_succ]
  refine hx1 8 (by kernel_rfl) ?_
  refine hx_callE 8 (some 11) _ _ (ErrR wd (∀ i, i < 0 → True)) rfl (by rfl) rfl (by first | (go_simp; done) | (go_simp; rfl)) ((cA.out wd p1).mono fun _ _ h => h.val) ?_
  rintro v w2 ⟨r, rfl, _, hb2⟩
  have h2 := keepC hb2 hHeld
  refine ⟨h2, ?_⟩
  try simp only [Act.put, List.setIfInBounds_toArray, List.set_cons_zero, List.set_cons_succ]
  have hb3 := alloc1 w2 (.cells #[.int .i64 0, .int .i64 r] 31)
  have h3 := keepC hb3 h2
  have B3 := Blk.slq (xs := [0, r]) (enc := intC) (n := 2) (Blk.new w2 31 #[.int .i64 0, .int .i64 r]) intC_len rfl
  refine hx1 9 (by kernel_rfl) ?_
  refine hx_val 9 (some 12) (.slice (some ⟨w2.heap.size, 0, none⟩) 2 2) (w2.alloc (.cells #[.int .i64 0, .int .i64 r] 31)) rfl (by rfl) rfl (by first | (go_simp; done) | (go_simp; rfl)) h3 ?_
  try simp only [Act.put, List.setIfInBounds_toArray, List.set_cons_zero, List.set_cons_succ]
  refine hx1 10 (by kernel_rfl) ?_
  refine hx_call 10 (some 13) _ _ (.int .i64 (firstNZ [0, r])) (fun w' => w2.alloc (.cells #[.int .i64 0, .int .i64 r] 31) = w') rfl (by rfl) rfl (by first | (go_simp; done) | (go_simp; rfl)) ((dfirst_any _ 2 2 [0, r] _ B3 (by omega)).mono fun _ _ h => ⟨h.1, h.2.symm⟩) ?_
  rintro _ rfl
  refine ⟨h3, ?_⟩
  try simp only [Act.put, List.setIfInBounds_toArray, List.set_cons_zero, List.set_cons_succ]
  refine hx_take 11 (some 2) _ rfl (by kernel_rfl) (by kernel_rfl) (by kernel_rfl) (fun _ _ _ h => h) rfl (Or.inl ⟨by rfl, fun w hSw => by first | (go_simp; done) | (go_simp; with_reducible rfl) | (go_simp; rfl)⟩) (by assumption) ?_
  try simp only [Act.put, List.setIfInBounds_toArray, List.set_cons_zero, List.set_cons_succ]
  refine wpAnyH_done (by kernel_rfl) ?_ _
  have HB := Lib.hid (below_trans' (below_trans' hbd hbd.size hb2) (below_trans' hbd hbd.size hb2).size hb3)
  clear hb2 hb3 h2 h3 B3
  go_wp2_with fail
  go_ret
  exact HP.out _ _ ⟨_, rfl, fun _ => trivial, HB.out⟩
set_option maxRecDepth 100000 in
set_option maxHeartbeats 4000000 in
theorem ckVars_any (A : Option Addr) (c : Nat) (w : World) : Calls Tryz.prog 35 #[.slice A 0 c] w (ErrPost w True) := by
  have N1 := Blk.new w 44 #[.slice A 0 c]
  have hb1 := alloc1 w (.cells #[.slice A 0 c] 44)
  have cA := Lib.hid (fun W q => all_any 0 69 #[.pointer (some ⟨q, 0, none⟩)] (fun _ => True) W (by omega) (enters_of Tryz.func69 (by kernel_rfl) rfl) (fun i W hi _ => absurd hi (Nat.not_lt_zero _)))
  have HP := Lib.hid (show ∀ e w', (∃ r : Int, e = .returned (.int .i64 r) ∧ (r = 0 → True) ∧ Below w.heap.size w w') → ErrPost w True e w' from fun _ _ h => h)
  obtain ⟨p1, hp1⟩ : ∃ p, p = w.heap.size := ⟨_, rfl⟩
  go_enter Tryz.func35, Tryz.ntmps35
  go_upto_region 1 with fail
  generalize w.alloc (.cells #[.slice A 0 c] 44) = w1 at *
  rw [← hp1] at N1 ⊢
  clear hp1
  have q0 := N1.cell 0 rfl
  refine wp_region_held_drew (S := fun w' => w'.cell? ⟨p1, 0, none⟩ = some (.slice A 0 c)) (by kernel_rfl) q0 (fun hHeld => ?_)
  have hbd := bDrew hb1
  generalize w1.drew = wd at *
  refine hx_take 0 (some 3) _ rfl (by kernel_rfl) (by kernel_rfl) (by kernel_rfl) (fun _ _ _ h => h) rfl (Or.inl ⟨by rfl, fun w hSw => by first | (go_simp; done) | (go_simp; with_reducible rfl) | (go_simp; rfl)⟩) (by assumption) ?_
  try simp only [Act.put, List.setIfInBounds_toArray, List.set_cons_zero, List.set_cons_succ]
  refine hx_take 4 (some 7) _ rfl (by kernel_rfl) (by kernel_rfl) (by kernel_rfl) (fun _ _ _ h => h) rfl (Or.inl ⟨by rfl, fun w hSw => by first | (go_simp; done) | (go_simp; with_reducible rfl) | (go_simp; rfl)⟩) (by assumption) ?_
  try simp only [Act.put, List.setIfInBounds_toArray, List.set_cons_zero, List.set_cons_succ]
  refine hx_take 7 (some 10) _ rfl (by kernel_rfl) (by kernel_rfl) (by kernel_rfl) (fun _ _ _ h => h) rfl (Or.inl ⟨by rfl, fun w hSw => by first | (go_simp; done) | (go_simp; with_reducible rfl) | (go_simp; rfl)⟩) (by assumption) ?_
  try simp only [Act.put, List.setIfInBounds_toArray, List.set_cons_zero, List.set_cons_succ]
  refine hx_take 1 (some 4) _ rfl (by kernel_rfl) (by kernel_rfl) (by kernel_rfl) (fun _ _ _ h => h) rfl (Or.inl ⟨by rfl, fun w hSw => by first | (go_simp; done) | (go_simp; with_reducible rfl) | (go_simp; rfl)⟩) (by assumption) ?_
  try simp only [Act.put, List.setIfInBounds_toArray, List.set_cons_zero, List.set_cons_succ]
  refine hx_take 5 (some 8) _ rfl (by kernel_rfl) (by kernel_rfl) (by kernel_rfl) (fun _ _ _ h => h) rfl (Or.inl ⟨by rfl, fun w hSw => by first | (go_simp; done) | (go_simp; with_reducible rfl) | (go_simp; rfl)⟩) (by assumption) ?_
  try simp only [Act.put, List.setIfInBounds_toArray, List.set_cons_zero, List.set_cons_succ]
  refine hx_take 2 (some 5) _ rfl (by kernel_rfl) (by kernel_rfl) (by kernel_rfl) (fun _ _ _ h => h) rfl (Or.inl ⟨by rfl, fun w hSw => by first | (go_simp; done) | (go_simp; with_reducible rfl) | (go_simp; rfl)⟩) (by assumption) ?_
  try simp only [Act.put, List.setIfInBounds_toArray, List.set_cons_zero, List.set_cons_succ]
  refine hx_take 6 (some 9) (.int .i64 ((0 : Nat) : Int)) rfl (by kernel_rfl) (by kernel_rfl) (by kernel_rfl) (fun _ _ _ h => h) rfl (Or.inl ⟨by rfl, fun w hSw => by first | (go_simp; done) | (go_simp; with_reducible rfl) | (go_simp; rfl)⟩) (by assumption) ?_
  try simp only [Act.put, List.setIfInBounds_toArray, List.set_cons_zero, List.set_cons_succ]
  refine hx1 3 (by kernel_rfl) ?_
  refine hx_call 3 (some 6) _ _ (.int .i64 0) (fun w' => wd = w') rfl (by rfl) rfl (by first | (go_simp; done) | (go_simp; rfl)) ((when_any false 9 wd).mono fun _ _ h => ⟨h.1, h.2.symm⟩) ?_
  rintro _ rfl
  refine ⟨hHeld, ?_⟩
  try simp only [Act.put, List.setIfInBounds_toArray, List.set_cons_zero, List.set_cons_succ]
  refine hx1 8 (by kernel_rfl) ?_
  refine hx_callE 8 (some 11) _ _ (ErrR wd (∀ i, i < 0 → True)) rfl (by rfl) rfl (by first | (go_simp; done) | (go_simp; rfl)) ((cA.out wd p1).mono fun _ _ h => h.val) ?_
  rintro v w2 ⟨r, rfl, _, hb2⟩
  have h2 := keepC hb2 hHeld
  refine ⟨h2, ?_⟩
  try simp only [Act.put, List.setIfInBounds_toArray, List.set_cons_zero, List.set_cons_succ]
  have hb3 := alloc1 w2 (.cells #[.int .i64 0, .int .i64 r] 31)
  have h3 := keepC hb3 h2
  have B3 := Blk.slq (xs := [0, r]) (enc := intC) (n := 2) (Blk.new w2 31 #[.int .i64 0, .int .i64 r]) intC_len rfl
  refine hx1 9 (by kernel_rfl) ?_
  refine hx_val 9 (some 12) (.slice (some ⟨w2.heap.size, 0, none⟩) 2 2) (w2.alloc (.cells #[.int .i64 0, .int .i64 r] 31)) rfl (by rfl) rfl (by first | (go_simp; done) | (go_simp; rfl)) h3 ?_
  try simp only [Act.put, List.setIfInBounds_toArray, List.set_cons_zero, List.set_cons_succ]
  refine hx1 10 (by kernel_rfl) ?_
  refine hx_call 10 (some 13) _ _ (.int .i64 (firstNZ [0, r])) (fun w' => w2.alloc (.cells #[.int .i64 0, .int .i64 r] 31) = w') rfl (by rfl) rfl (by first | (go_simp; done) | (go_simp; rfl)) ((dfirst_any _ 2 2 [0, r] _ B3 (by omega)).mono fun _ _ h => ⟨h.1, h.2.symm⟩) ?_
  rintro _ rfl
  refine ⟨h3, ?_⟩
  try simp only [Act.put, List.setIfInBounds_toArray, List.set_cons_zero, List.set_cons_succ]
  refine hx_take 11 (some 2) _ rfl (by kernel_rfl) (by kernel_rfl) (by kernel_rfl) (fun _ _ _ h => h) rfl (Or.inl ⟨by rfl, fun w hSw => by first | (go_simp; done) | (go_simp; with_reducible rfl) | (go_simp; rfl)⟩) (by assumption) ?_
  try simp only [Act.put, List.setIfInBounds_toArray, List.set_cons_zero, List.set_cons_succ]
  refine wpAnyH_done (by kernel_rfl) ?_ _
  have HB := Lib.hid (below_trans' (below_trans' hbd hbd.size hb2) (below_trans' hbd hbd.size hb2).size hb3)
  clear hb2 hb3 h2 h3 B3
  go_wp2_with fail
  go_ret
  exact HP.out _ _ ⟨_, rfl, fun _ => trivial, HB.out⟩
end Go.Proofs.YthbodpjkckminaaGreatDoor

namespace Go.Proofs.YthbodpjkckminaaGreatDoor
open Go.RowKit

set_option maxRecDepth 100000 in
set_option maxHeartbeats 8000000 in
theorem stCheckE_any (A : Option Addr) (c : Nat) (w : World) :
    Calls Tryz.prog 32 #[.slice A 0 c] w fun e w' => e = .returned (.int .i64 0) ∧ Below w.heap.size w w' := by
  have N1 := (Blk.new w 41 #[.slice A 0 c]).alloc (.cells #[.int .i64 0] 31)
  have N2 := Blk.new (w.alloc (.cells #[.slice A 0 c] 41)) 31 #[.int .i64 0]
  have hb := ((Below.refl w.heap.size w).alloc (Nat.le_refl _) (.cells #[.slice A 0 c] 41)).alloc (by simp) (.cells #[.int .i64 0] 31)
  have N2' : Blk ((w.alloc (.cells #[.slice A 0 c] 41)).alloc (.cells #[.int .i64 0] 31)) (w.heap.size + 1) 31 #[.int .i64 0] := by simpa using N2
  clear N2
  go_enter Tryz.func32, Tryz.ntmps32
  go_upto_region 1 with fail
  generalize (w.alloc (.cells #[.slice A 0 c] 41)).alloc (.cells #[.int .i64 0] 31) = W1 at *
  have q1 := N1.cell 0 rfl
  have q2 := N2'.cell 0 rfl
  have f2 := N2'.frozen 0
  have hb2 := hb.setCell (p := ⟨w.heap.size + 1, 0, none⟩) (show w.heap.size ≤ w.heap.size + 1 by omega) (.int .i64 0)
  have hq := (N2'.set_ 0 (.int .i64 0)).cell 0 rfl
  have HB := Lib.hid (And.intro hb2 hq)
  clear hb hb2 hq N1 N2'
  generalize w.heap.size + 1 = p2 at *
  go_wp2_with fail
  go_loopw [15] (fun vi wr => vi = .int .i64 0 ∧ wr = W1) (fun _ _ => 0)
  case atStart => exact ⟨rfl, rfl⟩
  case round =>
    obtain ⟨rfl, rfl⟩ := hrel
    go_wp2_with fail
    go_loopw [27] (fun vi wr' => vi = .int .i64 0 ∧ wr' = wr) (fun _ _ => 0)
    case atStart => exact ⟨rfl, rfl⟩
    case round =>
      obtain ⟨rfl, rfl⟩ := hrel
      go_wp2_with fail
      go_loopw [63] (fun vi wr'' => vi = .int .i64 0 ∧ wr'' = wr) (fun _ _ => 0)
      case atStart => exact ⟨rfl, rfl⟩
      case round =>
        obtain ⟨rfl, rfl⟩ := hrel
        go_wp2_with fail
        refine bodyPost_ret (results_c31 _ _ p2 _ rfl HB.out.2) rfl ?_
        exact ⟨rfl, HB.out.1⟩
theorem ckl11_any (A : Option Addr) (n c : Nat) (es : List LsE) (q k : Nat) (w : World) (ha : Sl w 2 lsC A n es) (hq : Blk w q 42 #[.slice A n c]) (hk : k < n) :
    Calls Tryz.prog 61 #[.int .i64 (k : Nat), .pointer (some ⟨q, 0, none⟩)] w fun e w' => e = .returned (.int .i64 (gE es k).id) ∧ w' = w := by
  obtain ⟨ad, e, hl2, k0, _⟩ := ha.ls hk
  subst e
  have q0 := hq.cell 0 rfl
  have hk' : (k : Int) < n := by omega
  go_enter Tryz.func61, Tryz.ntmps61
  go_wp2_with fail
  go_ret
  exact ⟨rfl, rfl⟩
def SomeInt (w : World) (e : Ending) (w' : World) : Prop := ∃ r : Int, e = .returned (.int .i64 r) ∧ w = w'
set_option maxRecDepth 100000 in
set_option maxHeartbeats 4000000 in
theorem incrLs_any (A : Option Addr) (n c : Nat) (es : List LsE) (q i : Nat) (w : World) (ha : Sl w 2 lsC A n es) (hq : Blk w q 42 #[.slice A n c]) (hi : i < n) (hn : n ≤ 1000000) :
    Calls Tryz.prog 60 #[.int .i64 (i : Nat), .func (.func 61) #[] #[.pointer (some ⟨q, 0, none⟩)]] w (SomeInt w) := by
  have c0 := ckl11_any A n c es q i w ha hq hi
  have HP := Lib.hid (show ∀ e, (∃ r : Int, e = .returned (.int .i64 r)) → SomeInt w e w from fun e ⟨r, h⟩ => ⟨r, h, rfl⟩)
  have cI := in_any (gE es i).id 1 1073741824 w
  by_cases h0 : 0 < i
  · obtain ⟨j, rfl⟩ : ∃ j, i = j + 1 := ⟨i - 1, by omega⟩
    have c1 := ckl11_any A n c es q j w ha hq (by omega)
    have hw1 : IntKind.i64.wrap (((j + 1 : Nat) : Int) - 1) = (j : Int) := by rw [show ((j + 1 : Nat) : Int) - 1 = j by omega]; exact IntWalk.i64_in _ (by omega)
    have h0' : (0 : Int) < ((j + 1 : Nat) : Int) := by omega
    generalize (gE es (j + 1)).id = x at *
    generalize (gE es j).id = y at *
    generalize (decide (1 ≤ x) && decide (x ≤ 1073741824)) = bi at *
    generalize ((j + 1 : Nat) : Int) = ii at *
    cases bi
    · go_enter Tryz.func60, Tryz.ntmps60
      go_wp2_with (first | (go_at_call 61; refine c0.mono ?_; rintro e w2 ⟨rfl, rfl⟩) | (go_at_call 67; refine cI.mono ?_; rintro e w2 ⟨rfl, rfl⟩))
      go_ret
      exact HP.out _ ⟨_, rfl⟩
    · by_cases hxy : x = y
      · subst hxy
        go_enter Tryz.func60, Tryz.ntmps60
        go_wp2_with (first | (go_at_call 61; ((with_reducible refine c0.mono ?_); rintro e w2 ⟨rfl, rfl⟩)) | (go_at_call 61; ((with_reducible refine c1.mono ?_); rintro e w2 ⟨rfl, rfl⟩)) | (go_at_call 67; refine cI.mono ?_; rintro e w2 ⟨rfl, rfl⟩))
        go_ret
        exact HP.out _ ⟨_, rfl⟩
      · have hb : (x == y) = false := beq_eq_false_iff_ne.2 hxy
        by_cases hlt : x < y
        all_goals
          go_enter Tryz.func60, Tryz.ntmps60
          go_wp2_with (first | (go_at_call 61; ((with_reducible refine c0.mono ?_); rintro e w2 ⟨rfl, rfl⟩)) | (go_at_call 61; ((with_reducible refine c1.mono ?_); rintro e w2 ⟨rfl, rfl⟩)) | (go_at_call 67; refine cI.mono ?_; rintro e w2 ⟨rfl, rfl⟩))
          go_ret
          exact HP.out _ ⟨_, rfl⟩
  · obtain rfl : i = 0 := by omega
    generalize (gE es 0).id = x at *
    generalize (decide (1 ≤ x) && decide (x ≤ 1073741824)) = bi at *
    cases bi
    all_goals
      go_enter Tryz.func60, Tryz.ntmps60
      go_wp2_with (first | (go_at_call 61; refine c0.mono ?_; rintro e w2 ⟨rfl, rfl⟩) | (go_at_call 67; refine cI.mono ?_; rintro e w2 ⟨rfl, rfl⟩))
      go_ret
      exact HP.out _ ⟨_, rfl⟩
end Go.Proofs.YthbodpjkckminaaGreatDoor

namespace Go.Proofs.YthbodpjkckminaaGreatDoor
open Go.RowKit

set_option maxRecDepth 100000 in
set_option maxHeartbeats 4000000 in
theorem ckl1_any (A : Option Addr) (n c : Nat) (es : List LsE) (vs : List (List Lv)) (q i : Nat) (w : World) (ha : LsT w A n es vs) (hq : Blk w q 42 #[.slice A n c]) (hi : i < n) (hn : n ≤ 64) :
    Calls Tryz.prog 59 (#[.int .i64 (i : Nat)] ++ #[.pointer (some ⟨q, 0, none⟩)]) w (ErrPost w (clE (vs.getD i []) = 0)) := by
  rw [show (#[.int .i64 (i : Nat)] ++ #[.pointer (some ⟨q, 0, none⟩)] : Array Value) = #[.int .i64 (i : Nat), .pointer (some ⟨q, 0, none⟩)] from rfl]
  have HP := Lib.hid (show ∀ e w', (∃ r : Int, e = .returned (.int .i64 r) ∧ (r = 0 → clE (vs.getD i []) = 0) ∧ Below w.heap.size w w') → ErrPost w (clE (vs.getD i []) = 0) e w' from fun _ _ h => h)
  obtain ⟨ad, e, hl2, _, k1⟩ := ha.l.ls hi
  have cI := Lib.hid (fun W (hb : Below w.heap.size w W) => incrLs_any A n c es q i W (ha.below hb).l (hq.below hb) hi (by omega))
  have cC := Lib.hid (fun W (hb : Below w.heap.size w W) => checkLevels_any (gE es i).A (gE es i).n (gE es i).c (vs.getD i []) W ((ha.below hb).v i hi))
  have q0 := hq.cell 0 rfl
  have hi' : (i : Int) < n := by omega
  generalize clE (vs.getD i []) = cl at *
  generalize (gE es i).A = lA at *
  generalize (gE es i).n = lnn at *
  generalize (gE es i).c = lcc at *
  subst e
  clear ha hq
  go_enter Tryz.func59, Tryz.ntmps59
  go_upto_region 1 with fail
  refine wp_region_held_drew (S := fun w' => w'.cell? ⟨q, 0, none⟩ = some (.slice (some ad) n c) ∧ w'.cell? ⟨(ad.add (i * 2)).block, (ad.add (i * 2)).off + 1, none⟩ = some (.slice lA lnn lcc)) (by kernel_rfl) ⟨q0, k1⟩ (fun hHeld => ?_)
  have hbd := bDrew (Below.refl w.heap.size w)
  generalize w.drew = wd at *
  refine hx_take 0 (some 4) _ rfl (by kernel_rfl) (by kernel_rfl) (by kernel_rfl) (fun _ _ _ h => h) rfl (Or.inl ⟨by rfl, fun w hSw => by first | (go_simp; done) | (go_simp; with_reducible rfl) | (go_simp; rfl)⟩) (by assumption) ?_
  try simp only [Act.put, List.setIfInBounds_toArray, List.set_cons_zero, List.set_cons_succ]
  refine hx_take 1 (some 5) _ rfl (by kernel_rfl) (by kernel_rfl) (by kernel_rfl) (fun _ _ _ h => h) rfl (Or.inl ⟨by rfl, fun w hSw => by first | (go_simp; done) | (go_simp; with_reducible rfl) | (go_simp; rfl)⟩) (by assumption) ?_
  try simp only [Act.put, List.setIfInBounds_toArray, List.set_cons_zero, List.set_cons_succ]
  refine hx_take 3 (some 7) _ rfl (by kernel_rfl) (by kernel_rfl) (by kernel_rfl) (fun _ _ _ h => h) rfl (Or.inl ⟨by rfl, fun w hSw => by first | (go_simp; done) | (go_simp; with_reducible rfl) | (go_simp; rfl)⟩) (by assumption) ?_
  try simp only [Act.put, List.setIfInBounds_toArray, List.set_cons_zero, List.set_cons_succ]
  refine hx_take 4 (some 8) _ rfl (by kernel_rfl) (by kernel_rfl) (by kernel_rfl) (fun _ _ _ h => h) rfl (Or.inl ⟨by rfl, fun w hSw => by first | (go_simp; done) | (go_simp; with_reducible rfl) | (go_simp; rfl)⟩) (by assumption) ?_
  try simp only [Act.put, List.setIfInBounds_toArray, List.set_cons_zero, List.set_cons_succ]
  refine hx_take 5 (some 9) _ rfl (by kernel_rfl) (by kernel_rfl) (by kernel_rfl) (fun _ _ _ h => h) rfl (Or.inl ⟨by rfl, fun w hSw => by first | (go_simp; done) | (go_simp; with_reducible rfl) | (go_simp; rfl)⟩) (by assumption) ?_
  try simp only [Act.put, List.setIfInBounds_toArray, List.set_cons_zero, List.set_cons_succ]
  refine hx_take 6 (some 10) _ rfl (by kernel_rfl) (by kernel_rfl) (by kernel_rfl) (fun _ _ _ h => h) rfl (Or.inl ⟨by rfl, fun w hSw => by first | (go_simp; done) | (go_simp; with_reducible rfl) | (go_simp; rfl)⟩) (by assumption) ?_
  try simp only [Act.put, List.setIfInBounds_toArray, List.set_cons_zero, List.set_cons_succ]
  refine hx_take 7 (some 11) _ rfl (by kernel_rfl) (by kernel_rfl) (by kernel_rfl) (fun _ _ _ h => h) rfl (Or.inl ⟨by rfl, fun w hSw => by first | (go_simp; done) | (go_simp; with_reducible rfl) | (go_simp; rfl)⟩) (by assumption) ?_
  try simp only [Act.put, List.setIfInBounds_toArray, List.set_cons_zero, List.set_cons_succ]
  refine hx1 2 (by kernel_rfl) ?_
  refine hx_callE 2 (some 6) _ _ (fun v w' => ∃ r : Int, v = .int .i64 r ∧ wd = w') rfl (by rfl) rfl (by first | (go_simp; done) | (go_simp; rfl)) ((cI.out wd hbd).mono fun _ _ h => by obtain ⟨r, h1, h2⟩ := h; exact ⟨_, h1, r, rfl, h2⟩) ?_
  rintro v w' ⟨r, rfl, rfl⟩
  refine ⟨hHeld, ?_⟩
  try simp only [Act.put, List.setIfInBounds_toArray, List.set_cons_zero, List.set_cons_succ]
  refine hx1 8 (by kernel_rfl) ?_
  refine hx_call 8 (some 12) _ _ (.int .i64 cl) _ rfl (by rfl) rfl (by first | (go_simp; done) | (go_simp; rfl)) (cC.out wd hbd) ?_
  rintro w2 hb2
  have h2 := And.intro (keepC hb2 hHeld.1) (keepC hb2 hHeld.2)
  refine ⟨h2, ?_⟩
  try simp only [Act.put, List.setIfInBounds_toArray, List.set_cons_zero, List.set_cons_succ]
  have hb3 := alloc1 w2 (.cells #[.int .i64 r, .int .i64 cl] 31)
  have h3 := And.intro (keepC hb3 h2.1) (keepC hb3 h2.2)
  have B3 := Blk.slq (xs := [r, cl]) (enc := intC) (n := 2) (Blk.new w2 31 #[.int .i64 r, .int .i64 cl]) intC_len rfl
  refine hx1 9 (by kernel_rfl) ?_
  refine hx_val 9 (some 13) (.slice (some ⟨w2.heap.size, 0, none⟩) 2 2) (w2.alloc (.cells #[.int .i64 r, .int .i64 cl] 31)) rfl (by rfl) rfl (by first | (go_simp; done) | (go_simp; rfl)) h3 ?_
  try simp only [Act.put, List.setIfInBounds_toArray, List.set_cons_zero, List.set_cons_succ]
  refine hx1 10 (by kernel_rfl) ?_
  refine hx_call 10 (some 14) _ _ (.int .i64 (firstNZ [r, cl])) (fun w' => w2.alloc (.cells #[.int .i64 r, .int .i64 cl] 31) = w') rfl (by rfl) rfl (by first | (go_simp; done) | (go_simp; rfl)) ((dfirst_any _ 2 2 [r, cl] _ B3 (by omega)).mono fun _ _ h => ⟨h.1, h.2.symm⟩) ?_
  rintro _ rfl
  refine ⟨h3, ?_⟩
  try simp only [Act.put, List.setIfInBounds_toArray, List.set_cons_zero, List.set_cons_succ]
  refine hx_take 11 (some 3) _ rfl (by kernel_rfl) (by kernel_rfl) (by kernel_rfl) (fun _ _ _ h => h) rfl (Or.inl ⟨by rfl, fun w hSw => by first | (go_simp; done) | (go_simp; with_reducible rfl) | (go_simp; rfl)⟩) (by assumption) ?_
  try simp only [Act.put, List.setIfInBounds_toArray, List.set_cons_zero, List.set_cons_succ]
  refine wpAnyH_done (by kernel_rfl) ?_ _
  have HB := Lib.hid (below_trans' (below_trans' hbd hbd.size hb2) (below_trans' hbd hbd.size hb2).size hb3)
  have HQ := Lib.hid (show firstNZ [r, cl] = 0 → cl = 0 from fun h => by simpa using firstNZ_zero h 1)
  clear hb2 hb3 h2 h3 B3
  go_wp2_with fail
  go_ret
  exact HP.out _ _ ⟨_, rfl, HQ.out, HB.out⟩
set_option maxRecDepth 100000 in
set_option maxHeartbeats 4000000 in
theorem ckLists_any (A : Option Addr) (n c : Nat) (es : List LsE) (vs : List (List Lv)) (w : World) (ha : LsT w A n es vs) (hn : n ≤ 64) : Calls Tryz.prog 33 #[.slice A n c] w (ErrPost w (∀ k, k < n → clE (vs.getD k []) = 0)) := by
  have N1 := Blk.new w 42 #[.slice A n c]
  have hb1 := alloc1 w (.cells #[.slice A n c] 42)
  have cA := Lib.hid (fun W q (hb : Below w.heap.size w W) (hq : Blk W q 42 #[.slice A n c]) => all_any n 59 #[.pointer (some ⟨q, 0, none⟩)] (fun k => clE (vs.getD k []) = 0) W (by omega) (enters_of Tryz.func59 (by kernel_rfl) rfl) (fun i W' hi hb' => ckl1_any A n c es vs q i W' ((ha.below hb).below hb') (hq.below hb') hi hn))
  have HP := Lib.hid (show ∀ e w', (∃ r : Int, e = .returned (.int .i64 r) ∧ (r = 0 → ∀ k, k < n → clE (vs.getD k []) = 0) ∧ Below w.heap.size w w') → ErrPost w (∀ k, k < n → clE (vs.getD k []) = 0) e w' from fun _ _ h => h)
  obtain ⟨p1, hp1⟩ : ∃ p, p = w.heap.size := ⟨_, rfl⟩
  have hn1 : ¬ (64 : Int) < n := by omega
  have hn2 : min (n : Int) 64 = n := by omega
  go_enter Tryz.func33, Tryz.ntmps33
  go_upto_region 1 with fail
  generalize w.alloc (.cells #[.slice A n c] 42) = w1 at *
  rw [← hp1] at N1 ⊢
  clear hp1
  have q0 := N1.cell 0 rfl
  refine wp_region_held_drew (S := fun w' => w'.cell? ⟨p1, 0, none⟩ = some (.slice A n c)) (by kernel_rfl) q0 (fun hHeld => ?_)
  have hbd := bDrew hb1
  have Nd := N1.drewN 1
  rw [show w1.drewN 1 = w1.drew from rfl] at Nd
  generalize w1.drew = wd at *
  refine hx_take 0 (some 3) _ rfl (by kernel_rfl) (by kernel_rfl) (by kernel_rfl) (fun _ _ _ h => h) rfl (Or.inl ⟨by rfl, fun w hSw => by first | (go_simp; done) | (go_simp; with_reducible rfl) | (go_simp; rfl)⟩) (by assumption) ?_
  try simp only [Act.put, List.setIfInBounds_toArray, List.set_cons_zero, List.set_cons_succ]
  refine hx_take 4 (some 7) _ rfl (by kernel_rfl) (by kernel_rfl) (by kernel_rfl) (fun _ _ _ h => h) rfl (Or.inl ⟨by rfl, fun w hSw => by first | (go_simp; done) | (go_simp; with_reducible rfl) | (go_simp; rfl)⟩) (by assumption) ?_
  try simp only [Act.put, List.setIfInBounds_toArray, List.set_cons_zero, List.set_cons_succ]
  refine hx_take 7 (some 10) _ rfl (by kernel_rfl) (by kernel_rfl) (by kernel_rfl) (fun _ _ _ h => h) rfl (Or.inl ⟨by rfl, fun w hSw => by first | (go_simp; done) | (go_simp; with_reducible rfl) | (go_simp; rfl)⟩) (by assumption) ?_
  try simp only [Act.put, List.setIfInBounds_toArray, List.set_cons_zero, List.set_cons_succ]
  refine hx_take 1 (some 4) _ rfl (by kernel_rfl) (by kernel_rfl) (by kernel_rfl) (fun _ _ _ h => h) rfl (Or.inl ⟨by rfl, fun w hSw => by first | (go_simp; done) | (go_simp; with_reducible rfl) | (go_simp; rfl)⟩) (by assumption) ?_
  try simp only [Act.put, List.setIfInBounds_toArray, List.set_cons_zero, List.set_cons_succ]
  refine hx_take 5 (some 8) _ rfl (by kernel_rfl) (by kernel_rfl) (by kernel_rfl) (fun _ _ _ h => h) rfl (Or.inl ⟨by rfl, fun w hSw => by first | (go_simp; done) | (go_simp; with_reducible rfl) | (go_simp; rfl)⟩) (by assumption) ?_
  try simp only [Act.put, List.setIfInBounds_toArray, List.set_cons_zero, List.set_cons_succ]
  refine hx_take 2 (some 5) _ rfl (by kernel_rfl) (by kernel_rfl) (by kernel_rfl) (fun _ _ _ h => h) rfl (Or.inl ⟨by rfl, fun w hSw => by first | (go_simp; done) | (go_simp; with_reducible rfl) | (go_simp; rfl)⟩) (by assumption) ?_
  try simp only [Act.put, List.setIfInBounds_toArray, List.set_cons_zero, List.set_cons_succ]
  refine hx_take 6 (some 9) (.int .i64 (n : Nat)) rfl (by kernel_rfl) (by kernel_rfl) (by kernel_rfl) (fun _ _ _ h => h) rfl (Or.inl ⟨by rfl, fun w hSw => by first | (go_simp; done) | (go_simp; with_reducible rfl) | (go_simp; rfl)⟩) (by assumption) ?_
  try simp only [Act.put, List.setIfInBounds_toArray, List.set_cons_zero, List.set_cons_succ]
  refine hx1 3 (by kernel_rfl) ?_
  refine hx_call 3 (some 6) _ _ (.int .i64 0) (fun w' => wd = w') rfl (by rfl) rfl (by first | (go_simp; done) | (go_simp; rfl)) ((when_any false 9 wd).mono fun _ _ h => ⟨h.1, h.2.symm⟩) ?_
  rintro _ rfl
  refine ⟨hHeld, ?_⟩
  try simp only [Act.put, List.setIfInBounds_toArray, List.set_cons_zero, List.set_cons_succ]
  refine hx1 8 (by kernel_rfl) ?_
  refine hx_callE 8 (some 11) _ _ (ErrR wd (∀ i, i < n → clE (vs.getD i []) = 0)) rfl (by rfl) rfl (by first | (go_simp; done) | (go_simp; rfl)) ((cA.out wd p1 hbd Nd).mono fun _ _ h => h.val) ?_
  rintro v w2 ⟨r, rfl, hq2, hb2⟩
  have h2 := keepC hb2 hHeld
  refine ⟨h2, ?_⟩
  try simp only [Act.put, List.setIfInBounds_toArray, List.set_cons_zero, List.set_cons_succ]
  have hb3 := alloc1 w2 (.cells #[.int .i64 0, .int .i64 r] 31)
  have h3 := keepC hb3 h2
  have B3 := Blk.slq (xs := [0, r]) (enc := intC) (n := 2) (Blk.new w2 31 #[.int .i64 0, .int .i64 r]) intC_len rfl
  refine hx1 9 (by kernel_rfl) ?_
  refine hx_val 9 (some 12) (.slice (some ⟨w2.heap.size, 0, none⟩) 2 2) (w2.alloc (.cells #[.int .i64 0, .int .i64 r] 31)) rfl (by rfl) rfl (by first | (go_simp; done) | (go_simp; rfl)) h3 ?_
  try simp only [Act.put, List.setIfInBounds_toArray, List.set_cons_zero, List.set_cons_succ]
  refine hx1 10 (by kernel_rfl) ?_
  refine hx_call 10 (some 13) _ _ (.int .i64 (firstNZ [0, r])) (fun w' => w2.alloc (.cells #[.int .i64 0, .int .i64 r] 31) = w') rfl (by rfl) rfl (by first | (go_simp; done) | (go_simp; rfl)) ((dfirst_any _ 2 2 [0, r] _ B3 (by omega)).mono fun _ _ h => ⟨h.1, h.2.symm⟩) ?_
  rintro _ rfl
  refine ⟨h3, ?_⟩
  try simp only [Act.put, List.setIfInBounds_toArray, List.set_cons_zero, List.set_cons_succ]
  refine hx_take 11 (some 2) _ rfl (by kernel_rfl) (by kernel_rfl) (by kernel_rfl) (fun _ _ _ h => h) rfl (Or.inl ⟨by rfl, fun w hSw => by first | (go_simp; done) | (go_simp; with_reducible rfl) | (go_simp; rfl)⟩) (by assumption) ?_
  try simp only [Act.put, List.setIfInBounds_toArray, List.set_cons_zero, List.set_cons_succ]
  refine wpAnyH_done (by kernel_rfl) ?_ _
  have HB := Lib.hid (below_trans' (below_trans' hbd hbd.size hb2) (below_trans' hbd hbd.size hb2).size hb3)
  have HQ := Lib.hid (show firstNZ [0, r] = 0 → ∀ k, k < n → clE (vs.getD k []) = 0 from fun h => hq2 (by simpa using firstNZ_zero h 1))
  clear hb2 hb3 h2 h3 B3 hq2
  go_wp2_with fail
  go_ret
  exact HP.out _ _ ⟨_, rfl, HQ.out, HB.out⟩
end Go.Proofs.YthbodpjkckminaaGreatDoor

namespace Go.Proofs.YthbodpjkckminaaGreatDoor
open Go.RowKit

set_option maxRecDepth 100000 in
set_option maxHeartbeats 8000000 in
theorem ckSettings_any (A1 A2 A3 A : Option Addr) (c1 c2 c3 n c : Nat) (es : List LsE) (vs : List (List Lv)) (w : World) (ha : LsT w A n es vs) (hn : n ≤ 64) :
    Calls Tryz.prog 14 #[.agg #[.slice A1 0 c1, .slice A n c, .slice A2 0 c2, .slice A3 0 c3]] w (ErrPost w (∀ k, k < n → clE (vs.getD k []) = 0)) := by
  have HP := Lib.hid (show ∀ e w', (∃ r : Int, e = .returned (.int .i64 r) ∧ (r = 0 → ∀ k, k < n → clE (vs.getD k []) = 0) ∧ Below w.heap.size w w') → ErrPost w (∀ k, k < n → clE (vs.getD k []) = 0) e w' from fun _ _ h => h)
  have N1 := Blk.new w 46 #[.slice A1 0 c1, .slice A n c, .slice A2 0 c2, .slice A3 0 c3]
  have hb1 := alloc1 w (.cells #[.slice A1 0 c1, .slice A n c, .slice A2 0 c2, .slice A3 0 c3] 46)
  have cS := Lib.hid (fun W => stCheckE_any A1 c1 W)
  have cL := Lib.hid (fun W (hb : Below w.heap.size w W) => ckLists_any A n c es vs W (ha.below hb) hn)
  have cC := Lib.hid (fun W => ckComments_any A2 c2 W)
  have cV := Lib.hid (fun W => ckVars_any A3 c3 W)
  obtain ⟨p1, hp1⟩ : ∃ p, p = w.heap.size := ⟨_, rfl⟩
  clear ha
  go_enter Tryz.func14, Tryz.ntmps14
  go_upto_region 1 with fail
  generalize w.alloc (.cells #[.slice A1 0 c1, .slice A n c, .slice A2 0 c2, .slice A3 0 c3] 46) = w1 at *
  rw [← hp1] at N1 ⊢
  clear hp1
  have HK := Lib.hid (show ∀ W, Below w1.heap.size w1 W → W.cell? ⟨p1, 0, none⟩ = some (.slice A1 0 c1) ∧ W.cell? ⟨p1, 1, none⟩ = some (.slice A n c) ∧ W.cell? ⟨p1, 2, none⟩ = some (.slice A2 0 c2) ∧ W.cell? ⟨p1, 3, none⟩ = some (.slice A3 0 c3) from fun W hb => ⟨(N1.below hb).cell 0 rfl, (N1.below hb).cell 1 rfl, (N1.below hb).cell 2 rfl, (N1.below hb).cell 3 rfl⟩)
  refine wp_region_held_drew (S := fun w' => w'.cell? ⟨p1, 0, none⟩ = some (.slice A1 0 c1) ∧ w'.cell? ⟨p1, 1, none⟩ = some (.slice A n c) ∧ w'.cell? ⟨p1, 2, none⟩ = some (.slice A2 0 c2) ∧ w'.cell? ⟨p1, 3, none⟩ = some (.slice A3 0 c3)) (by kernel_rfl) (HK.out w1 (Below.refl _ _)) (fun hHeld => ?_)
  have hz1 := hb1.size
  have hbd := bDrew (Below.refl w1.heap.size w1)
  generalize w1.drew = wd at *
  refine hx_take 0 (some 3) _ rfl (by kernel_rfl) (by kernel_rfl) (by kernel_rfl) (fun _ _ _ h => h) rfl (Or.inl ⟨by rfl, fun w hSw => by first | (go_simp; done) | (go_simp; with_reducible rfl) | (go_simp; rfl)⟩) (by assumption) ?_
  try simp only [Act.put, List.setIfInBounds_toArray, List.set_cons_zero, List.set_cons_succ]
  refine hx_take 3 (some 6) _ rfl (by kernel_rfl) (by kernel_rfl) (by kernel_rfl) (fun _ _ _ h => h) rfl (Or.inl ⟨by rfl, fun w hSw => by first | (go_simp; done) | (go_simp; with_reducible rfl) | (go_simp; rfl)⟩) (by assumption) ?_
  try simp only [Act.put, List.setIfInBounds_toArray, List.set_cons_zero, List.set_cons_succ]
  refine hx_take 6 (some 9) _ rfl (by kernel_rfl) (by kernel_rfl) (by kernel_rfl) (fun _ _ _ h => h) rfl (Or.inl ⟨by rfl, fun w hSw => by first | (go_simp; done) | (go_simp; with_reducible rfl) | (go_simp; rfl)⟩) (by assumption) ?_
  try simp only [Act.put, List.setIfInBounds_toArray, List.set_cons_zero, List.set_cons_succ]
  refine hx_take 9 (some 12) _ rfl (by kernel_rfl) (by kernel_rfl) (by kernel_rfl) (fun _ _ _ h => h) rfl (Or.inl ⟨by rfl, fun w hSw => by first | (go_simp; done) | (go_simp; with_reducible rfl) | (go_simp; rfl)⟩) (by assumption) ?_
  try simp only [Act.put, List.setIfInBounds_toArray, List.set_cons_zero, List.set_cons_succ]
  refine hx_take 1 (some 4) _ rfl (by kernel_rfl) (by kernel_rfl) (by kernel_rfl) (fun _ _ _ h => h) rfl (Or.inl ⟨by rfl, fun w hSw => by first | (go_simp; done) | (go_simp; with_reducible rfl) | (go_simp; rfl)⟩) (by assumption) ?_
  try simp only [Act.put, List.setIfInBounds_toArray, List.set_cons_zero, List.set_cons_succ]
  refine hx_take 4 (some 7) _ rfl (by kernel_rfl) (by kernel_rfl) (by kernel_rfl) (fun _ _ _ h => h) rfl (Or.inl ⟨by rfl, fun w hSw => by first | (go_simp; done) | (go_simp; with_reducible rfl) | (go_simp; rfl)⟩) (by assumption) ?_
  try simp only [Act.put, List.setIfInBounds_toArray, List.set_cons_zero, List.set_cons_succ]
  refine hx_take 7 (some 10) _ rfl (by kernel_rfl) (by kernel_rfl) (by kernel_rfl) (fun _ _ _ h => h) rfl (Or.inl ⟨by rfl, fun w hSw => by first | (go_simp; done) | (go_simp; with_reducible rfl) | (go_simp; rfl)⟩) (by assumption) ?_
  try simp only [Act.put, List.setIfInBounds_toArray, List.set_cons_zero, List.set_cons_succ]
  refine hx_take 10 (some 13) _ rfl (by kernel_rfl) (by kernel_rfl) (by kernel_rfl) (fun _ _ _ h => h) rfl (Or.inl ⟨by rfl, fun w hSw => by first | (go_simp; done) | (go_simp; with_reducible rfl) | (go_simp; rfl)⟩) (by assumption) ?_
  try simp only [Act.put, List.setIfInBounds_toArray, List.set_cons_zero, List.set_cons_succ]
  refine hx1 2 (by kernel_rfl) ?_
  refine hx_call 2 (some 5) _ _ (.int .i64 0) _ rfl (by rfl) rfl (by first | (go_simp; done) | (go_simp; rfl)) (cS.out wd) ?_
  rintro w2 hb2
  have hb2 := below_trans' hbd hbd.size hb2
  refine ⟨HK.out w2 hb2, ?_⟩
  try simp only [Act.put, List.setIfInBounds_toArray, List.set_cons_zero, List.set_cons_succ]
  refine hx1 5 (by kernel_rfl) ?_
  refine hx_callE 5 (some 8) _ _ (ErrR w2 (∀ k, k < n → clE (vs.getD k []) = 0)) rfl (by rfl) rfl (by first | (go_simp; done) | (go_simp; rfl)) ((cL.out w2 (below_trans' hb1 hz1 hb2)).mono fun _ _ h => h.val) ?_
  rintro v w3 ⟨r1, rfl, hq, hb3⟩
  have hb3 := below_trans' hb2 hb2.size hb3
  refine ⟨HK.out w3 hb3, ?_⟩
  try simp only [Act.put, List.setIfInBounds_toArray, List.set_cons_zero, List.set_cons_succ]
  refine hx1 8 (by kernel_rfl) ?_
  refine hx_callE 8 (some 11) _ _ (ErrR w3 True) rfl (by rfl) rfl (by first | (go_simp; done) | (go_simp; rfl)) ((cC.out w3).mono fun _ _ h => h.val) ?_
  rintro v w4 ⟨r2, rfl, _, hb4⟩
  have hb4 := below_trans' hb3 hb3.size hb4
  refine ⟨HK.out w4 hb4, ?_⟩
  try simp only [Act.put, List.setIfInBounds_toArray, List.set_cons_zero, List.set_cons_succ]
  refine hx1 11 (by kernel_rfl) ?_
  refine hx_callE 11 (some 14) _ _ (ErrR w4 True) rfl (by rfl) rfl (by first | (go_simp; done) | (go_simp; rfl)) ((cV.out w4).mono fun _ _ h => h.val) ?_
  rintro v w5 ⟨r3, rfl, _, hb5⟩
  have hb5 := below_trans' hb4 hb4.size hb5
  refine ⟨HK.out w5 hb5, ?_⟩
  try simp only [Act.put, List.setIfInBounds_toArray, List.set_cons_zero, List.set_cons_succ]
  have hb6 := below_trans' hb5 hb5.size (alloc1 w5 (.cells #[.int .i64 0, .int .i64 r1, .int .i64 r2, .int .i64 r3] 31))
  have B3 := Blk.slq (xs := [0, r1, r2, r3]) (enc := intC) (n := 4) (Blk.new w5 31 #[.int .i64 0, .int .i64 r1, .int .i64 r2, .int .i64 r3]) intC_len rfl
  refine hx1 12 (by kernel_rfl) ?_
  refine hx_val 12 (some 15) (.slice (some ⟨w5.heap.size, 0, none⟩) 4 4) (w5.alloc (.cells #[.int .i64 0, .int .i64 r1, .int .i64 r2, .int .i64 r3] 31)) rfl (by rfl) rfl (by first | (go_simp; done) | (go_simp; rfl)) (HK.out _ hb6) ?_
  try simp only [Act.put, List.setIfInBounds_toArray, List.set_cons_zero, List.set_cons_succ]
  refine hx1 13 (by kernel_rfl) ?_
  refine hx_call 13 (some 16) _ _ (.int .i64 (firstNZ [0, r1, r2, r3])) (fun w' => w5.alloc (.cells #[.int .i64 0, .int .i64 r1, .int .i64 r2, .int .i64 r3] 31) = w') rfl (by rfl) rfl (by first | (go_simp; done) | (go_simp; rfl)) ((dfirst_any _ 4 4 [0, r1, r2, r3] _ B3 (by omega)).mono fun _ _ h => ⟨h.1, h.2.symm⟩) ?_
  rintro _ rfl
  have h6 := HK.out _ hb6
  refine ⟨h6, ?_⟩
  try simp only [Act.put, List.setIfInBounds_toArray, List.set_cons_zero, List.set_cons_succ]
  refine hx_take 14 (some 2) _ rfl (by kernel_rfl) (by kernel_rfl) (by kernel_rfl) (fun _ _ _ h => h) rfl (Or.inl ⟨by rfl, fun w hSw => by first | (go_simp; done) | (go_simp; with_reducible rfl) | (go_simp; rfl)⟩) (by assumption) ?_
  try simp only [Act.put, List.setIfInBounds_toArray, List.set_cons_zero, List.set_cons_succ]
  refine wpAnyH_done (by kernel_rfl) ?_ _
  have HB := Lib.hid (below_trans' hb1 hz1 hb6)
  have HQ := Lib.hid (show firstNZ [0, r1, r2, r3] = 0 → ∀ k, k < n → clE (vs.getD k []) = 0 from fun h => hq (by simpa using firstNZ_zero h 1))
  clear hb2 hb3 hb4 hb5 hb6 h6 B3 hq
  go_wp2_with fail
  go_ret
  exact HP.out _ _ ⟨_, rfl, HQ.out, HB.out⟩
end Go.Proofs.YthbodpjkckminaaGreatDoor

namespace Go.Proofs.YthbodpjkckminaaGreatDoor
open Go.RowKit Go.Sort

set_option maxRecDepth 100000 in
set_option maxHeartbeats 4000000 in
theorem lfindS_any (a1 a2 a3 : SV) (LA : Option Addr) (ln lc : Nat) (es : List LsE) (x : Int) (w : World) (ha : Sl w 2 lsC LA ln es) (hn : ln ≤ 1000000) :
    Calls Tryz.prog 40 #[.agg (stL a1 LA ln lc a2 a3).toArray, .int .i64 x] w fun e w' => e = .returned (.int .i64 (fdP (idsL es) x)) ∧ Below w.heap.size w w' := by
  have hln := ha.len
  have N2 := Blk.new w 46 (stL a1 LA ln lc a2 a3).toArray
  have hb := alloc1 w (.cells (stL a1 LA ln lc a2 a3).toArray 46)
  obtain ⟨A1, n1, c1⟩ := a1
  obtain ⟨A2, n2, c2⟩ := a2
  obtain ⟨A3, n3, c3⟩ := a3
  rw [show (stL ⟨A1, n1, c1⟩ LA ln lc ⟨A2, n2, c2⟩ ⟨A3, n3, c3⟩).toArray = #[.slice A1 n1 c1, .slice LA ln lc, .slice A2 n2 c2, .slice A3 n3 c3] from rfl] at *
  have HF := Lib.hid (fun i (hi : i < (idsL es).length) he hb => fdP_found (zs := idsL es) (x := x) hi he hb)
  have HN := Lib.hid (fun hb => fdP_none (zs := idsL es) (x := x) hb)
  have HL := Lib.hid (idsL_len es)
  generalize fdP (idsL es) x = r at *
  have HLN := Lib.hid hln
  clear hln
  go_enter Tryz.func40, Tryz.ntmps40
  go_upto_region 1 with fail
  generalize w.alloc (.cells #[.slice A1 n1 c1, .slice LA ln lc, .slice A2 n2 c2, .slice A3 n3 c3] 46) = w1 at *
  have q1 := N2.cell 1 rfl
  have ha1 := ha.below hb
  go_wp2_with fail
  go_loop [5] (fun vi => ∃ i : Nat, vi = .int .i64 i ∧ i ≤ ln ∧ ∀ t, t < i → (idsL es).getD t 0 ≠ x) (fun vi => ln - (intOf vi).toNat)
  case atStart => exact ⟨0, rfl, Nat.zero_le _, fun t ht => absurd ht (Nat.not_lt_zero _)⟩
  case round =>
    obtain ⟨i, rfl, hi, hz⟩ := hrel
    have HZ := Lib.hid hz
    clear hz
    by_cases hlt : i < ln
    · obtain ⟨ad, e, hl2, k0, _⟩ := ha1.ls hlt
      subst e
      have hlt' : (i : Int) < ln := by omega
      have HI := Lib.hid (idsL_at (es := es) i)
      generalize (gE es i).id = id at *
      by_cases hx : id = x
      · have hxb : (id == x) = true := by rw [hx]; simp
        have HX := Lib.hid hx
        clear hx
        go_wp2_with fail
        go_ret
        have hr : r = i := HF.out i (by rw [HL.out, HLN.out]; exact hlt) (by rw [HI.out]; exact HX.out) HZ.out
        exact ⟨by rw [hr]; rfl, hb⟩
      · have hxb : (id == x) = false := beq_eq_false_iff_ne.2 hx
        have HX := Lib.hid hx
        clear hx
        go_wp2_with fail
        go_round
        case rel => exact ⟨i + 1, by simp, by omega, fun t ht => by
          rcases (show t < i ∨ t = i by omega) with h | rfl
          · exact HZ.out t h
          · rw [HI.out]; exact HX.out⟩
        case measure => simp [intOf]; omega
    · have : i = ln := by omega
      subst this
      go_wp2_with fail
      go_ret
      have hr : r = -1 := HN.out (by rw [HL.out, HLN.out]; exact HZ.out)
      exact ⟨by rw [hr]; rfl, hb⟩
end Go.Proofs.YthbodpjkckminaaGreatDoor
