/- slices.Clone of properties, run.CloneHead, run.Clone of flat items. flat items; run.Clone of them. run.Clone and run.Normal of flat items; run.check, run.Slice. -/
import Derived.Test.YthbodpjkckminaaGreatDoorV5m
namespace Go.Proofs.YthbodpjkckminaaGreatDoor
open Go.RowKit

theorem elemPr : Elem Tryz.prog 47 91 2 16 := Elem.mk Tryz.underlying47 (z := .agg #[.int .i64 0, .int .i64 0]) (by kernel_rfl) rfl (by omega)
set_option maxHeartbeats 2000000 in
set_option maxRecDepth 100000 in
theorem cloneP_any (A : Option Addr) (n c : Nat) (xs : List Pr) (w : World) (ha : Sl w 2 prC A n xs) (hn : n ≤ 1000000) :
    Calls Tryz.prog 119 #[.slice A n c] w fun e w' => ∃ A' c', e = .returned (.slice A' n c') ∧ Own w' w.heap.size 91 2 prC A' n c' xs ∧ (A.isSome = A'.isSome) ∧ Below w.heap.size w w' := by
  have q22 : ∀ (w : World) (a : Option Addr) (n c n' c' : Nat), (binOp .eql 47 (.slice a n c) (.slice none n' c')).run Tryz.prog w = .ok (.bool a.isNone) w := fun w a n c n' c' => Lib.run_eql_slice_nil w _ _ a n c n' c' Tryz.underlying47
  cases A with
  | none =>
    obtain ⟨rfl, rfl⟩ := ha.none_zero
    go_enter Tryz.func119, Tryz.ntmps119
    go_wp2_with fail
    go_ret
    exact ⟨none, 0, rfl, Own.nil_ _ _ _ _ _, rfl, Below.refl _ _⟩
  | some ad =>
    have hb0 := (Below.refl w.heap.size w).alloc (Nat.le_refl _) (.cells #[] 91)
    have h0 := Own.made w 91 2 prC
    have ha1 := ha.below hb0
    go_enter Tryz.func119, Tryz.ntmps119
    go_wp2_with (at_builtin; refine wpList_pushSl elemPr prC_len prC_one rfl _ _ rfl rfl ad n c rfl h0 xs ha1 ⟨by omega, by unfold maxLen; omega⟩ (by simp) ?_; intro A' c' w1 ho hg hat)
    go_ret
    have hA : A'.isSome = true := by
      rcases hat with h | h
      · cases A' with
        | none => simp [blk] at h
        | some _ => rfl
      · cases A' with
        | none => simp [blk] at h
        | some _ => rfl
    refine ⟨A', c', by simp, by simpa using ho, hA.symm, hb0.grown hg (by simp) (by intro k hk; simp [blk] at hk; omega)⟩
theorem pclone_any (A : Option Addr) (n c : Nat) (xs : List Pr) (w : World) (ha : Sl w 2 prC A n xs) (hn : n ≤ 1000000) :
    Calls Tryz.prog 158 #[.slice A n c] w fun e w' => ∃ A' c', e = .returned (.slice A' n c') ∧ Own w' w.heap.size 91 2 prC A' n c' xs ∧ (A.isSome = A'.isSome) ∧ Below w.heap.size w w' := by
  have hc := cloneP_any A n c xs w ha hn
  go_enter Tryz.func158, Tryz.ntmps158
  go_wp2_with (go_at_call 119; refine hc.mono ?_; rintro e w2 ⟨A', c', rfl, ho, hi, hb⟩)
  go_ret
  exact ⟨A', c', rfl, ho, hi, hb⟩
theorem cloneD_nil (w : World) : Calls Tryz.prog 170 #[.slice none 0 0] w fun e w' => e = .returned (.slice none 0 0) ∧ w' = w := by
  have q22 : ∀ (w : World) (a : Option Addr) (n c n' c' : Nat), (binOp .eql 55 (.slice a n c) (.slice none n' c')).run Tryz.prog w = .ok (.bool a.isNone) w := fun w a n c n' c' => Lib.run_eql_slice_nil w _ _ a n c n' c' Tryz.underlying55
  go_enter Tryz.func170, Tryz.ntmps170
  go_wp2_with fail
  go_ret
  exact ⟨rfl, rfl⟩
theorem cloneL_nil (w : World) : Calls Tryz.prog 171 #[.slice none 0 0] w fun e w' => e = .returned (.slice none 0 0) ∧ w' = w := by
  have q22 : ∀ (w : World) (a : Option Addr) (n c n' c' : Nat), (binOp .eql 56 (.slice a n c) (.slice none n' c')).run Tryz.prog w = .ok (.bool a.isNone) w := fun w a n c n' c' => Lib.run_eql_slice_nil w _ _ a n c n' c' Tryz.underlying56
  go_enter Tryz.func171, Tryz.ntmps171
  go_wp2_with fail
  go_ret
  exact ⟨rfl, rfl⟩
theorem gsetRow (w : World) (p : Nat) (cs : Array Value) : w.grownBy (w.setRow p cs) (some p) := ⟨rfl, rfl, rfl, by simp [World.setRow], fun k _ hk => setRow_other w p k cs (fun e => hk (by rw [e]))⟩
/-- a head without deletions and layers. -/
def hdF (A : Option Addr) (n c : Nat) (ins mv : Int) : List Value := [.slice A n c, .int .i64 ins, .int .i64 mv, .slice none 0 0, .slice none 0 0]
def ChPost (w : World) (A : Option Addr) (n : Nat) (ins mv : Int) (ps : List Pr) (e : Ending) (w' : World) : Prop := ∃ (A' : Option Addr) (c' : Nat), e = .returned (.agg (hdF A' n c' ins mv).toArray) ∧ Own w' w.heap.size 91 2 prC A' n c' ps ∧ (A.isSome = A'.isSome) ∧ Below w.heap.size w w'
set_option maxHeartbeats 4000000 in
set_option maxRecDepth 100000 in
theorem cloneHead_any (A : Option Addr) (n c : Nat) (ins mv : Int) (ps : List Pr) (w : World) (ha : Sl w 2 prC A n ps) (hn : n ≤ 1000000) :
    Calls Tryz.prog 146 #[.agg (hdF A n c ins mv).toArray] w (ChPost w A n ins mv ps) := by
  have N1 := Blk.new w 60 (hdF A n c ins mv).toArray
  have N2 := Blk.new (w.alloc (.cells (hdF A n c ins mv).toArray 60)) 60 (hdF none 0 0 0 0).toArray
  have hb1 := (alloc1 w (.cells (hdF A n c ins mv).toArray 60)).alloc (by simp) (.cells (hdF none 0 0 0 0).toArray 60)
  have N1 := N1.alloc (.cells (hdF none 0 0 0 0).toArray 60)
  rw [World.size_alloc] at N2
  have hc := fun W h => cloneP_any A n c ps W h hn
  unfold hdF at N1 N2 hb1
  go_enter Tryz.func146, Tryz.ntmps146
  go_upto_region 0 with fail
  go_cut [1, 2] (fun v1 v2 wx => ∃ p1 p2, v1 = .pointer (some ⟨p1, 0, none⟩) ∧ v2 = .pointer (some ⟨p2, 0, none⟩) ∧ Blk wx p1 60 #[.slice A n c, .int .i64 ins, .int .i64 mv, .slice none 0 0, .slice none 0 0] ∧ Blk wx p2 60 #[.slice none 0 0, .int .i64 0, .int .i64 0, .slice none 0 0, .slice none 0 0] ∧ p1 < p2 ∧ w.heap.size ≤ p1 ∧ Below w.heap.size w wx)
  case first =>
    go_wp2_with fail
    go_meet
    case rel => exact ⟨_, _, rfl, rfl, N1, N2, by omega, Nat.le_refl _, hb1⟩
  case rest =>
  obtain ⟨p1, p2, rfl, rfl, B1, B2, h12, h1, hbw⟩ := hcut
  clear N1 N2 hb1
  have q0 := B1.cell 0 rfl
  have f0 := B1.frozen 0
  go_upto_region 2 with (go_at_call 119; refine (hc _ (ha.below hbw)).mono ?_; rintro e w2 ⟨A', c', rfl, ho, hi, hb2⟩; have q0 := keepC hb2 q0; have f0 := (B1.below hb2).frozen 0)
  have B1' := (B1.below hb2).set_ 0 (.slice A' n c')
  have B2' := (B2.below hb2).keep (gset w2 p1 0 (.slice A' n c')) (by simp; omega)
  have ho' := (ho.base hbw.size).keep (gset w2 p1 0 (.slice A' n c')) (fun k hk => by cases hk; exact (ho.base hbw.size).ne_blk (B1.below hb2) (by decide))
  have hb3 := (below_trans' hbw hbw.size hb2).setCell (p := ⟨p1, 0, none⟩) h1 (.slice A' n c')
  generalize w2.setCell ⟨p1, 0, none⟩ (.slice A' n c') = w3 at *
  have B1' : Blk w3 p1 60 #[.slice A' n c', .int .i64 ins, .int .i64 mv, .slice none 0 0, .slice none 0 0] := B1'
  have B1d : Blk w3.drew p1 60 #[.slice A' n c', .int .i64 ins, .int .i64 mv, .slice none 0 0, .slice none 0 0] := B1'
  have q3 := B1d.cell 3 rfl
  have q4 := B1d.cell 4 rfl
  have f3 := B1d.frozen 3
  have B5 : Blk (w3.drew.setCell ⟨p1, 3, none⟩ (.slice none 0 0)) p1 60 #[.slice A' n c', .int .i64 ins, .int .i64 mv, .slice none 0 0, .slice none 0 0] := B1d.set_ 3 _
  have B6 : Blk ((w3.drew.setCell ⟨p1, 3, none⟩ (.slice none 0 0)).setCell ⟨p1, 4, none⟩ (.slice none 0 0)) p1 60 #[.slice A' n c', .int .i64 ins, .int .i64 mv, .slice none 0 0, .slice none 0 0] := B5.set_ 4 _
  have B2d : Blk w3.drew p2 60 #[.slice none 0 0, .int .i64 0, .int .i64 0, .slice none 0 0, .slice none 0 0] := B2'
  have B2z := (B2d.keep (gset _ p1 3 (.slice none 0 0)) (by simp; omega)).keep (gset (w3.drew.setCell ⟨p1, 3, none⟩ (.slice none 0 0)) p1 4 (.slice none 0 0)) (by simp; omega)
  have hod : Own w3.drew w.heap.size 91 2 prC A' n c' ps := ho'.drewN 1
  have hne : ∀ {W : World} (_ : Blk W p1 60 #[.slice A' n c', .int .i64 ins, .int .i64 mv, .slice none 0 0, .slice none 0 0]) (_ : Own W w.heap.size 91 2 prC A' n c' ps) (j : Nat) (v : Value), Own (W.setCell ⟨p1, j, none⟩ v) w.heap.size 91 2 prC A' n c' ps := fun hB hO j v => hO.keep (gset _ p1 j v) (fun k hk => by cases hk; exact hO.ne_blk hB (by decide))
  have hoz := hne B5 (hne B1d hod 3 (.slice none 0 0)) 4 (.slice none 0 0)
  have hbz := ((bDrew hb3).setCell (p := ⟨p1, 3, none⟩) h1 (.slice none 0 0)).setCell (p := ⟨p1, 4, none⟩) h1 (.slice none 0 0)
  clear hne
  have hS0 : w3.drew.cell? ⟨p1, 3, none⟩ = some (.slice none 0 0) ∧ w3.drew.cell? ⟨p1, 4, none⟩ = some (.slice none 0 0) := ⟨q3, q4⟩
  have hS1 := And.intro (B5.cell 3 rfl) (B5.cell 4 rfl)
  have hS2 := And.intro (B6.cell 3 rfl) (B6.cell 4 rfl)
  have f5 := B5.frozen 4
  have c5 := B5.cell 4 rfl
  refine wp_region_held_drew (S := fun w' => w'.cell? ⟨p1, 3, none⟩ = some (.slice none 0 0) ∧ w'.cell? ⟨p1, 4, none⟩ = some (.slice none 0 0)) (by kernel_rfl) hS0 (fun hHeld => ?_)
  generalize hwd : w3.drew = wd at *
  refine hx_take 0 (some 7) _ rfl (by kernel_rfl) (by kernel_rfl) (by kernel_rfl) (fun _ _ _ h => h) rfl (Or.inl ⟨by rfl, fun w hSw => by first | (go_simp; done) | (go_simp; with_reducible rfl) | (go_simp; rfl)⟩) (by assumption) ?_
  try simp only [Act.put, List.setIfInBounds_toArray, List.set_cons_zero, List.set_cons_succ]
  refine hx_take 4 (some 11) _ rfl (by kernel_rfl) (by kernel_rfl) (by kernel_rfl) (fun _ _ _ h => h) rfl (Or.inl ⟨by rfl, fun w hSw => by first | (go_simp; done) | (go_simp; with_reducible rfl) | (go_simp; rfl)⟩) (by assumption) ?_
  try simp only [Act.put, List.setIfInBounds_toArray, List.set_cons_zero, List.set_cons_succ]
  refine hx_take 1 (some 8) _ rfl (by kernel_rfl) (by kernel_rfl) (by kernel_rfl) (fun _ _ _ h => h) rfl (Or.inl ⟨by rfl, fun w hSw => by first | (go_simp; done) | (go_simp; with_reducible rfl) | (go_simp; rfl)⟩) (by assumption) ?_
  try simp only [Act.put, List.setIfInBounds_toArray, List.set_cons_zero, List.set_cons_succ]
  refine hx_take 5 (some 12) _ rfl (by kernel_rfl) (by kernel_rfl) (by kernel_rfl) (fun _ _ _ h => h) rfl (Or.inl ⟨by rfl, fun w hSw => by first | (go_simp; done) | (go_simp; with_reducible rfl) | (go_simp; rfl)⟩) (by assumption) ?_
  try simp only [Act.put, List.setIfInBounds_toArray, List.set_cons_zero, List.set_cons_succ]
  refine hx_take 2 (some 9) _ rfl (by kernel_rfl) (by kernel_rfl) (by kernel_rfl) (fun _ _ _ h => h) rfl (Or.inl ⟨by rfl, fun w hSw => by first | (go_simp; done) | (go_simp; with_reducible rfl) | (go_simp; rfl)⟩) (by assumption) ?_
  try simp only [Act.put, List.setIfInBounds_toArray, List.set_cons_zero, List.set_cons_succ]
  refine hx_take 6 (some 13) _ rfl (by kernel_rfl) (by kernel_rfl) (by kernel_rfl) (fun _ _ _ h => h) rfl (Or.inl ⟨by rfl, fun w hSw => by first | (go_simp; done) | (go_simp; with_reducible rfl) | (go_simp; rfl)⟩) (by assumption) ?_
  try simp only [Act.put, List.setIfInBounds_toArray, List.set_cons_zero, List.set_cons_succ]
  refine hx1 3 (by kernel_rfl) ?_
  refine hx_call 3 (some 10) _ _ _ _ rfl (by rfl) rfl (by go_simp) (cloneD_nil wd) ?_
  rintro w9 rfl
  refine ⟨hHeld, ?_⟩
  try simp only [Act.put, List.setIfInBounds_toArray, List.set_cons_zero, List.set_cons_succ]
  refine hx_take 8 (some 15) _ rfl (by kernel_rfl) (by kernel_rfl) (by kernel_rfl) (fun _ _ _ h => h) rfl (Or.inl ⟨by rfl, fun w hSw => by first | (go_simp; done) | (go_simp; with_reducible rfl) | (go_simp; rfl)⟩) (by assumption) ?_
  try simp only [Act.put, List.setIfInBounds_toArray, List.set_cons_zero, List.set_cons_succ]
  refine hx_take 9 (some 16) _ rfl (by kernel_rfl) (by kernel_rfl) (by kernel_rfl) (fun _ _ _ h => h) rfl (Or.inl ⟨by rfl, fun w hSw => by first | (go_simp; done) | (go_simp; with_reducible rfl) | (go_simp; rfl)⟩) (by assumption) ?_
  try simp only [Act.put, List.setIfInBounds_toArray, List.set_cons_zero, List.set_cons_succ]
  refine hx1 7 (by kernel_rfl) ?_
  refine hx_call 7 (some 14) _ _ _ _ rfl (by rfl) rfl (by go_simp) (cloneL_nil w9) ?_
  rintro w10 rfl
  refine ⟨hHeld, ?_⟩
  try simp only [Act.put, List.setIfInBounds_toArray, List.set_cons_zero, List.set_cons_succ]
  refine hx1 10 (by kernel_rfl) ?_
  refine hx_storeC 10 p1 3 (.slice none 0 0) rfl (by rfl) rfl (by first | (go_simp; done) | (go_simp; with_reducible rfl)) hS1 ?_
  refine hx_take 11 (some 17) _ rfl (by kernel_rfl) (by kernel_rfl) (by kernel_rfl) (fun _ _ _ h => h) rfl (Or.inl ⟨by rfl, fun w hSw => by first | (go_simp; done) | (go_simp; with_reducible rfl) | (go_simp; rfl)⟩) (by assumption) ?_
  try simp only [Act.put, List.setIfInBounds_toArray, List.set_cons_zero, List.set_cons_succ]
  refine hx_take 12 (some 18) _ rfl (by kernel_rfl) (by kernel_rfl) (by kernel_rfl) (fun _ _ _ h => h) rfl (Or.inl ⟨by rfl, fun w hSw => by first | (go_simp; done) | (go_simp; with_reducible rfl) | (go_simp; rfl)⟩) (by assumption) ?_
  try simp only [Act.put, List.setIfInBounds_toArray, List.set_cons_zero, List.set_cons_succ]
  refine hx1 13 (by kernel_rfl) ?_
  refine hx_storeC 13 p1 4 (.slice none 0 0) rfl (by rfl) rfl (by first | (go_simp; done) | (go_simp; with_reducible rfl)) hS2 ?_
  refine wpAnyH_done (by kernel_rfl) ?_ _
  generalize (w10.setCell ⟨p1, 3, none⟩ (.slice none 0 0)).setCell ⟨p1, 4, none⟩ (.slice none 0 0) = wz at *
  unfold Blk at B6 B2z
  go_wp2_with (first | (refine wpList_load_row rfl 60 _ rfl p1 rfl 60 _ (0, 0) _ B6 Tryz.underlying60 rfl (by kernel_rfl) ?_) | (refine wpList_store_row rfl 60 _ _ rfl p2 _ rfl rfl 60 _ B2z (by kernel_rfl) rfl (by simp [Value.oneCell']) ?_))
  refine bodyPost_ret (results_cell_row rfl _ _ p2 60 _ (0, 0) _ rfl (setRow_heap wz p2 _ _ _ _ B2z) Tryz.underlying60 rfl (by kernel_rfl)) rfl ?_
  refine ⟨A', c', rfl, hoz.keep (gsetRow wz p2 _) (fun k hk => by cases hk; exact hoz.ne_blk B2z (by decide)), hi, below_setRow hbz (by omega) _⟩
/-- nothing to clone, nothing to bring into normal form. -/
theorem eachI_nil (f : Value) (w : World) : Calls Tryz.prog 144 #[.slice none 0 0, f] w fun e w' => e = .returned (.slice none 0 0) ∧ w' = w := by
  go_enter Tryz.func144, Tryz.ntmps144
  go_wp2_with fail
  go_loopw [5, 10] (fun vo vi wr => vo = .slice none 0 0 ∧ vi = .int .i64 0 ∧ wr = w) (fun _ _ _ => 0)
  case atStart => exact ⟨rfl, rfl, rfl⟩
  case round =>
    obtain ⟨rfl, rfl, rfl⟩ := hrel
    go_wp2_with fail
    go_ret
    exact ⟨by first | rfl | trivial, by trivial⟩
theorem eachR_nil (f : Value) (w : World) : Calls Tryz.prog 147 #[.slice none 0 0, f] w fun e w' => e = .returned (.slice none 0 0) ∧ w' = w := by
  go_enter Tryz.func147, Tryz.ntmps147
  go_wp2_with fail
  go_loopw [5, 10] (fun vo vi wr => vo = .slice none 0 0 ∧ vi = .int .i64 0 ∧ wr = w) (fun _ _ _ => 0)
  case atStart => exact ⟨rfl, rfl, rfl⟩
  case round =>
    obtain ⟨rfl, rfl, rfl⟩ := hrel
    go_wp2_with fail
    go_ret
    exact ⟨by first | rfl | trivial, by trivial⟩
theorem clone_nil (w : World) : Calls Tryz.prog 117 #[.slice none 0 0] w fun e w' => e = .returned (.slice none 0 0) ∧ w' = w := by
  go_enter Tryz.func117, Tryz.ntmps117
  go_wp2_with (go_at_call 144; refine (eachI_nil _ _).mono ?_; rintro e w2 ⟨rfl, rfl⟩)
  go_ret
  exact ⟨rfl, rfl⟩
theorem normal_nil (w : World) : Calls Tryz.prog 178 #[.slice none 0 0] w fun e w' => e = .returned (.slice none 0 0) ∧ w' = w := by
  go_enter Tryz.func178, Tryz.ntmps178
  go_wp2_with fail
  go_loopw [3, 9] (fun vo vi wr => vo = .slice none 0 0 ∧ vi = .int .i64 0 ∧ wr = w) (fun _ _ _ => 0)
  case atStart => exact ⟨rfl, rfl, rfl⟩
  case round =>
    obtain ⟨rfl, rfl, rfl⟩ := hrel
    go_wp2_with fail
    go_ret
    exact ⟨by first | rfl | trivial, by trivial⟩
theorem ixR_nil (f : Value) (w : World) : Calls Tryz.prog 202 #[.slice none 0 0, f] w fun e w' => e = .returned (.int .i64 (-1)) ∧ w' = w := by
  go_enter Tryz.func202, Tryz.ntmps202
  go_wp2_with fail
  go_loopw [8] (fun vi wr => vi = .int .i64 0 ∧ wr = w) (fun _ _ => 0)
  case atStart => exact ⟨rfl, rfl⟩
  case round =>
    obtain ⟨rfl, rfl⟩ := hrel
    go_wp2_with fail
    go_ret
    exact ⟨by first | rfl | trivial, by trivial⟩
theorem delR_nil (f : Value) (w : World) : Calls Tryz.prog 189 #[.slice none 0 0, f] w fun e w' => e = .returned (.slice none 0 0) ∧ w' = w := by
  go_enter Tryz.func189, Tryz.ntmps189
  go_wp2_with (go_at_call 202; refine (ixR_nil _ _).mono ?_; rintro e w2 ⟨rfl, rfl⟩)
  go_ret
  exact ⟨by first | rfl | trivial, by trivial⟩
end Go.Proofs.YthbodpjkckminaaGreatDoor

namespace Go.Proofs.YthbodpjkckminaaGreatDoor
open Go.RowKit

/-- a flat item: its kind, its text, its properties; no marks, no flow, no rows. -/
structure Fi where
  kind : Int
  text : ByteArray
  ps : List Pr
def fiZ : Fi := ⟨0, ⟨#[]⟩, []⟩
def itF (y : Fi) (s : SV) : It := ⟨y.kind, 0, 0, y.text, ⟨s, 0, 0, svZ, svZ⟩, svZ, svZ⟩
def gFi (ys : List Fi) (k : Nat) : Fi := ys.getD k fiZ
/-- a flow of flat items. -/
structure Fl (w : World) (A : Option Addr) (n : Nat) (xs : List It) (ys : List Fi) : Prop where
  i : Its w A n xs
  ly : ys.length = n
  f : ∀ k, k < n → ∃ s : SV, gIt xs k = itF (gFi ys k) s ∧ Sl w 2 prC s.A s.n (gFi ys k).ps
theorem Fl.below {w w' : World} {A : Option Addr} {n : Nat} {xs : List It} {ys : List Fi} (h : Fl w A n xs ys) (hb : Below w.heap.size w w') : Fl w' A n xs ys :=
  ⟨h.i.below hb, h.ly, fun k hk => by obtain ⟨s, e, hs⟩ := h.f k hk; exact ⟨s, e, hs.below hb⟩⟩
theorem Blk.thereM {w : World} {g : Nat} {t : TypeId} {cs : Array Value} (h : Blk w g t cs) {q n : Nat} (hq : q + n ≤ cs.size) : w.there g q n := fun j hj => by
  refine ⟨?_, h.frozen (q + j)⟩
  rw [h.cell (q + j) (Array.getElem?_eq_getElem (by omega))]
  rfl
theorem Blk.rngM {w : World} {g : Nat} {t : TypeId} {cs : Array Value} (h : Blk w g t cs) (q : Nat) (l : List Value) (he : ∀ j v, l[j]? = some v → cs[q + j]? = some v) : w.rangeAt g q l := fun j v hv => h.cell (q + j) (he j v hv)
def hdV (s : SV) : Value := .agg #[s.v, .int .i64 0, .int .i64 0, .slice none 0 0, .slice none 0 0]
/-- the cells of a flat item. -/
def fiL (y : Fi) (s : SV) : List Value := [.int .i64 y.kind, .int .i64 0, .int .i64 0, .string y.text, .slice s.A s.n s.c, .int .i64 0, .int .i64 0, .slice none 0 0, .slice none 0 0, .slice none 0 0, .slice none 0 0]
theorem fiL_it (y : Fi) (s : SV) : itC (itF y s) = fiL y s := rfl
theorem fiA_it (y : Fi) (s : SV) : itA (itF y s) = (fiL y s).toArray := rfl
def CiPost (w : World) (y : Fi) (e : Ending) (w' : World) : Prop := ∃ s : SV, e = .returned (.agg (fiL y s).toArray) ∧ Own w' w.heap.size 91 2 prC s.A s.n s.c y.ps ∧ Below w.heap.size w w'
def chR (n : Nat) (ps : List Pr) (w : World) (v : Value) (w' : World) : Prop := ∃ (A' : Option Addr) (c' : Nat), v = .agg (hdF A' n c' 0 0).toArray ∧ Own w' w.heap.size 91 2 prC A' n c' ps ∧ Below w.heap.size w w'
theorem cloneHead_E (A : Option Addr) (n c : Nat) (ps : List Pr) (w : World) (ha : Sl w 2 prC A n ps) (hn : n ≤ 1000000) :
    Calls Tryz.prog 146 #[.agg (hdF A n c 0 0).toArray] w fun e w' => ∃ v, e = .returned v ∧ chR n ps w v w' := by
  refine (cloneHead_any A n c 0 0 ps w ha hn).mono ?_
  rintro e w' ⟨A', c', rfl, ho, _, hb⟩
  exact ⟨_, rfl, A', c', rfl, ho, hb⟩
theorem size_hd : (Tryz.prog.info? 60).map (·.size) = some 5 := by kernel_rfl
set_option maxHeartbeats 8000000 in
set_option maxRecDepth 100000 in
theorem clone1_any (y : Fi) (s : SV) (w : World) (ha : Sl w 2 prC s.A s.n y.ps) (hn : s.n ≤ 1000000) :
    Calls Tryz.prog 145 #[.agg (fiL y s).toArray] w (CiPost w y) := by
  obtain ⟨kd, tx, ps⟩ := y
  obtain ⟨A, n, c⟩ := s
  simp only at ha hn
  have N1 := Blk.new w 102 (fiL ⟨kd, tx, ps⟩ ⟨A, n, c⟩).toArray
  have N2 := Blk.new (w.alloc (.cells (fiL ⟨kd, tx, ps⟩ ⟨A, n, c⟩).toArray 102)) 102 itZA
  have hb1 := (alloc1 w (.cells (fiL ⟨kd, tx, ps⟩ ⟨A, n, c⟩).toArray 102)).alloc (by simp) (.cells itZA 102)
  have N1 := N1.alloc (.cells itZA 102)
  rw [World.size_alloc] at N2
  have hc := Lib.hid (fun W h => cloneHead_E A n c ps W h hn)
  go_enter Tryz.func145, Tryz.ntmps145
  go_upto_region 0 with fail
  go_cut [1, 2] (fun v1 v2 wx => ∃ p1 p2, v1 = .pointer (some ⟨p1, 0, none⟩) ∧ v2 = .pointer (some ⟨p2, 0, none⟩) ∧ Blk wx p1 102 (fiL ⟨kd, tx, ps⟩ ⟨A, n, c⟩).toArray ∧ Blk wx p2 102 itZA ∧ p1 < p2 ∧ w.heap.size ≤ p1 ∧ Below w.heap.size w wx)
  case first =>
    have HX := Lib.hid (And.intro N1 (And.intro N2 hb1))
    clear N1 N2 hb1
    go_wp2_with fail
    go_meet
    case rel => exact ⟨_, _, rfl, rfl, HX.out.1, HX.out.2.1, by omega, Nat.le_refl _, HX.out.2.2⟩
  case rest =>
  obtain ⟨p1, p2, rfl, rfl, B1, B2, h12, h1, hbw⟩ := hcut
  clear N1 N2 hb1
  have hbd := bDrew hbw
  have B1 : Blk wc.drew p1 102 (fiL ⟨kd, tx, ps⟩ ⟨A, n, c⟩).toArray := B1
  have B2 : Blk wc.drew p2 102 itZA := B2
  have r4 := B1.rngM 4 (hdF A n c 0 0) (fun j v hv => by
    have hj : j < 5 := by have := (List.getElem?_eq_some_iff.1 hv).1; simpa [hdF] using this
    rcases (show j = 0 ∨ j = 1 ∨ j = 2 ∨ j = 3 ∨ j = 4 by omega) with rfl | rfl | rfl | rfl | rfl <;> exact hv)
  have q9 : wc.drew.cell? ⟨p1, 9, none⟩ = some (.slice none 0 0) := B1.cell 9 rfl
  have q10 : wc.drew.cell? ⟨p1, 10, none⟩ = some (.slice none 0 0) := B1.cell 10 rfl
  have cH := hc.out _ (ha.below hbd)
  go_upto_region 1 with fail
  refine wp_region_held_drew (S := fun w' => w'.cell? ⟨p1, 9, none⟩ = some (.slice none 0 0) ∧ w'.cell? ⟨p1, 10, none⟩ = some (.slice none 0 0)) (by kernel_rfl) ⟨q9, q10⟩ (fun hHeld => ?_)
  generalize wc.drew = wd at *
  clear hbw
  refine hx_take 0 (some 3) _ rfl (by kernel_rfl) (by kernel_rfl) (by kernel_rfl) (fun _ _ _ h => h) rfl (Or.inl ⟨by rfl, fun w hSw => by first | (go_simp; done) | (go_simp; with_reducible rfl) | (go_simp; rfl)⟩) (by assumption) ?_
  try simp only [Act.put, List.setIfInBounds_toArray, List.set_cons_zero, List.set_cons_succ]
  refine hx_take 3 (some 6) _ rfl (by kernel_rfl) (by kernel_rfl) (by kernel_rfl) (fun _ _ _ h => h) rfl (Or.inl ⟨by rfl, fun w hSw => by first | (go_simp; done) | (go_simp; with_reducible rfl) | (go_simp; rfl)⟩) (by assumption) ?_
  try simp only [Act.put, List.setIfInBounds_toArray, List.set_cons_zero, List.set_cons_succ]
  refine hx_take 6 (some 9) _ rfl (by kernel_rfl) (by kernel_rfl) (by kernel_rfl) (fun _ _ _ h => h) rfl (Or.inl ⟨by rfl, fun w hSw => by first | (go_simp; done) | (go_simp; with_reducible rfl) | (go_simp; rfl)⟩) (by assumption) ?_
  try simp only [Act.put, List.setIfInBounds_toArray, List.set_cons_zero, List.set_cons_succ]
  refine hx_take 4 (some 7) _ rfl (by kernel_rfl) (by kernel_rfl) (by kernel_rfl) (fun _ _ _ h => h) rfl (Or.inl ⟨by rfl, fun w hSw => by first | (go_simp; done) | (go_simp; with_reducible rfl) | (go_simp; rfl)⟩) (by assumption) ?_
  try simp only [Act.put, List.setIfInBounds_toArray, List.set_cons_zero, List.set_cons_succ]
  refine hx_take 7 (some 10) _ rfl (by kernel_rfl) (by kernel_rfl) (by kernel_rfl) (fun _ _ _ h => h) rfl (Or.inl ⟨by rfl, fun w hSw => by first | (go_simp; done) | (go_simp; with_reducible rfl) | (go_simp; rfl)⟩) (by assumption) ?_
  try simp only [Act.put, List.setIfInBounds_toArray, List.set_cons_zero, List.set_cons_succ]
  refine hx1 1 (by kernel_rfl) ?_
  refine hx_loadQ 1 (some 4) _ _ p1 4 (hdF A n c 0 0) _ rfl (by rfl) rfl rfl rfl r4 Tryz.underlying60 rfl size_hd hHeld ?_
  try simp only [Act.put, List.setIfInBounds_toArray, List.set_cons_zero, List.set_cons_succ]
  refine hx1 2 (by kernel_rfl) ?_
  refine hx_callE 2 (some 5) _ _ (chR n ps wd) rfl (by rfl) rfl (by go_simp) cH ?_
  rintro v1 w9 ⟨A', c', rfl, ho, hb9⟩
  have S9 : w9.cell? ⟨p1, 9, none⟩ = some (.slice none 0 0) ∧ w9.cell? ⟨p1, 10, none⟩ = some (.slice none 0 0) := ⟨keepC hb9 q9, keepC hb9 q10⟩
  have B9 : Blk w9 p1 102 #[.int .i64 kd, .int .i64 0, .int .i64 0, .string tx, .slice A n c, .int .i64 0, .int .i64 0, .slice none 0 0, .slice none 0 0, .slice none 0 0, .slice none 0 0] := B1.below hb9
  have B29 := B2.below hb9
  have ho9 := ho.base hbd.size
  have hbz := below_trans' hbd hbd.size hb9
  refine ⟨S9, ?_⟩
  clear B1 B2 hb9 ho r4 q9 q10 cH hc ha
  try simp only [Act.put, List.setIfInBounds_toArray, List.set_cons_zero, List.set_cons_succ]
  refine hx_take 9 (some 12) _ rfl (by kernel_rfl) (by kernel_rfl) (by kernel_rfl) (fun _ _ _ h => h) rfl (Or.inl ⟨by rfl, fun w hSw => by first | (go_simp; done) | (go_simp; with_reducible rfl) | (go_simp; rfl)⟩) (by assumption) ?_
  try simp only [Act.put, List.setIfInBounds_toArray, List.set_cons_zero, List.set_cons_succ]
  refine hx1 5 (by kernel_rfl) ?_
  refine hx_call 5 (some 8) _ _ _ _ rfl (by rfl) rfl (by go_simp) (clone_nil w9) ?_
  rintro w10 rfl
  refine ⟨S9, ?_⟩
  try simp only [Act.put, List.setIfInBounds_toArray, List.set_cons_zero, List.set_cons_succ]
  refine hx1 8 (by kernel_rfl) ?_
  refine hx_call 8 (some 11) _ #[.slice none 0 0, .func (.func 148) #[] #[]] _ _ rfl (by rfl) rfl (by go_simp) (eachR_nil _ w10) ?_
  rintro w11 rfl
  refine ⟨S9, ?_⟩
  try simp only [Act.put, List.setIfInBounds_toArray, List.set_cons_zero, List.set_cons_succ]
  have B10 : Blk (w11.setCells p1 4 (hdF A' n c' 0 0)) p1 102 (fiL ⟨kd, tx, ps⟩ ⟨A', n, c'⟩).toArray := ((((B9.set_ 4 _).set_ 5 _).set_ 6 _).set_ 7 _).set_ 8 _
  have B20 := B29.keep (only_setCells p1 (hdF A' n c' 0 0) 4 w11) (by simp; omega)
  have ho10 := ho9.keep (only_setCells p1 (hdF A' n c' 0 0) 4 w11) (fun k hk => by cases hk; exact ho9.ne_blk B9 (by decide))
  have hb10 := hbz.grown (only_setCells p1 (hdF A' n c' 0 0) 4 w11) hbz.size (fun k e => by cases e; exact h1)
  have S10 : (w11.setCells p1 4 (hdF A' n c' 0 0)).cell? ⟨p1, 9, none⟩ = some (.slice none 0 0) ∧ (w11.setCells p1 4 (hdF A' n c' 0 0)).cell? ⟨p1, 10, none⟩ = some (.slice none 0 0) := ⟨B10.cell 9 rfl, B10.cell 10 rfl⟩
  refine hx1 10 (by kernel_rfl) ?_
  refine hx_storeQ 10 _ _ _ p1 4 (hdF A' n c' 0 0) rfl (by rfl) rfl rfl rfl rfl (B9.thereM (q := 4) (n := 5) (by show 9 ≤ 11; omega)) size_hd (by intro v hv; simp [hdF] at hv; rcases hv with rfl | rfl | rfl | rfl | rfl <;> rfl) S10 ?_
  generalize w11.setCells p1 4 (hdF A' n c' 0 0) = w12 at *
  clear B9 B29 ho9 hbz S9
  have B11 : Blk (w12.setCell ⟨p1, 9, none⟩ (.slice none 0 0)) p1 102 (fiL ⟨kd, tx, ps⟩ ⟨A', n, c'⟩).toArray := B10.set_ 9 _
  have B12 : Blk ((w12.setCell ⟨p1, 9, none⟩ (.slice none 0 0)).setCell ⟨p1, 10, none⟩ (.slice none 0 0)) p1 102 (fiL ⟨kd, tx, ps⟩ ⟨A', n, c'⟩).toArray := B11.set_ 10 _
  have B21 := B20.keep (gset w12 p1 9 (.slice none 0 0)) (by simp; omega)
  have B22 := B21.keep (gset _ p1 10 (.slice none 0 0)) (by simp; omega)
  have ho11 := ho10.keep (gset w12 p1 9 (.slice none 0 0)) (fun k hk => by cases hk; exact ho10.ne_blk B10 (by decide))
  have ho12 := ho11.keep (gset _ p1 10 (.slice none 0 0)) (fun k hk => by cases hk; exact ho11.ne_blk B11 (by decide))
  have hb12 := (hb10.setCell (p := ⟨p1, 9, none⟩) h1 (.slice none 0 0)).setCell (p := ⟨p1, 10, none⟩) h1 (.slice none 0 0)
  have S11 : (w12.setCell ⟨p1, 9, none⟩ (.slice none 0 0)).cell? ⟨p1, 9, none⟩ = some (.slice none 0 0) ∧ (w12.setCell ⟨p1, 9, none⟩ (.slice none 0 0)).cell? ⟨p1, 10, none⟩ = some (.slice none 0 0) := ⟨B11.cell 9 rfl, B11.cell 10 rfl⟩
  have c9 := B10.cell 9 rfl
  have f9 := B10.frozen 9
  have c10 := B11.cell 10 rfl
  have f10 := B11.frozen 10
  try simp only [Act.put, List.setIfInBounds_toArray, List.set_cons_zero, List.set_cons_succ]
  refine hx_take 11 (some 13) _ rfl (by kernel_rfl) (by kernel_rfl) (by kernel_rfl) (fun _ _ _ h => h) rfl (Or.inl ⟨by rfl, fun w hSw => by first | (go_simp; done) | (go_simp; with_reducible rfl) | (go_simp; rfl)⟩) (by assumption) ?_
  try simp only [Act.put, List.setIfInBounds_toArray, List.set_cons_zero, List.set_cons_succ]
  refine hx1 12 (by kernel_rfl) ?_
  refine hx_storeC 12 p1 9 (.slice none 0 0) rfl (by rfl) rfl (by first | (go_simp; done) | (go_simp; with_reducible rfl)) ⟨B11.cell 9 rfl, B11.cell 10 rfl⟩ ?_
  refine hx_take 13 (some 14) _ rfl (by kernel_rfl) (by kernel_rfl) (by kernel_rfl) (fun _ _ _ h => h) rfl (Or.inl ⟨by rfl, fun w hSw => by first | (go_simp; done) | (go_simp; with_reducible rfl) | (go_simp; rfl)⟩) (by assumption) ?_
  try simp only [Act.put, List.setIfInBounds_toArray, List.set_cons_zero, List.set_cons_succ]
  refine hx1 14 (by kernel_rfl) ?_
  refine hx_storeC 14 p1 10 (.slice none 0 0) rfl (by rfl) rfl (by first | (go_simp; done) | (go_simp; with_reducible rfl)) ⟨B12.cell 9 rfl, B12.cell 10 rfl⟩ ?_
  refine wpAnyH_done (by kernel_rfl) ?_ _
  generalize (w12.setCell ⟨p1, 9, none⟩ (.slice none 0 0)).setCell ⟨p1, 10, none⟩ (.slice none 0 0) = wz at *
  unfold Blk at B12 B22
  have hone : (fiL ⟨kd, tx, ps⟩ ⟨A', n, c'⟩).toArray.all (·.oneCell') = true := by simp [fiL, Value.oneCell']
  go_wp2_with (first | (refine wpList_load_row rfl 102 _ rfl p1 rfl 102 _ (0, 0) _ B12 Tryz.underlying102 rfl (by kernel_rfl) ?_) | (refine wpList_store_row rfl 102 _ _ rfl p2 (fiL ⟨kd, tx, ps⟩ ⟨A', n, c'⟩).toArray rfl rfl 102 _ B22 (by kernel_rfl) rfl hone ?_))
  refine bodyPost_ret (results_cell_row rfl _ _ p2 102 _ (0, 0) _ rfl (setRow_heap wz p2 _ _ _ _ B22) Tryz.underlying102 rfl (by kernel_rfl)) rfl ?_
  exact ⟨⟨A', n, c'⟩, rfl, ho12.keep (gsetRow wz p2 _) (fun k hk => by cases hk; exact ho12.ne_blk B22 (by decide)), below_setRow hb12 (by omega) _⟩
theorem gFi_mem {ys : List Fi} {k : Nat} (h : k < ys.length) : ys[k]? = some (gFi ys k) := by
  unfold gFi; rw [List.getD_eq_getElem?_getD, List.getElem?_eq_getElem h]; rfl
theorem gIt_append {zs : List It} {z : It} (k : Nat) : gIt (zs ++ [z]) k = if k < zs.length then gIt zs k else if k = zs.length then z else itZ := by
  unfold gIt
  rw [List.getD_eq_getElem?_getD, List.getD_eq_getElem?_getD]
  by_cases h : k < zs.length
  · rw [if_pos h, List.getElem?_append_left h]
  · rw [if_neg h, List.getElem?_append_right (by omega)]
    by_cases e : k = zs.length
    · subst e; simp
    · rw [if_neg e, List.getElem?_eq_none (by simp; omega)]; rfl
theorem Own.apart_ty' {α β : Type} {w : World} {s s' : Nat} {enc : α → List Value} {enc' : β → List Value} {A A' : Option Addr} {n c n' c' B B' : Nat} {e e' : TypeId} {xs : List α} {ys : List β} (h : Own w B e s enc A n c xs) (h' : Own w B' e' s' enc' A' n' c' ys) (he : e ≠ e') : ∀ k, blk A' = some k → blk A ≠ some k := fun k hk hk2 => by
  obtain ⟨cur, hc⟩ := h.heap_at hk2
  obtain ⟨cur', hc'⟩ := h'.heap_at hk
  rw [hc] at hc'
  simp at hc'
  exact he hc'.2
/-- items that a call makes: the first of a flow, each with properties of its own. -/
structure Mk_ (w : World) (B : Nat) (A : Option Addr) (i c : Nat) (zs : List It) (ys : List Fi) : Prop where
  o : Own w B 102 11 itC A i c zs
  f : ∀ k, k < i → ∃ s : SV, gIt zs k = itF (gFi ys k) s ∧ Own w B 91 2 prC s.A s.n s.c (gFi ys k).ps
theorem Mk_.below {w w' : World} {B : Nat} {A : Option Addr} {i c : Nat} {zs : List It} {ys : List Fi} (h : Mk_ w B A i c zs ys) (hb : Below w.heap.size w w') : Mk_ w' B A i c zs ys :=
  ⟨h.o.below hb, fun k hk => by obtain ⟨s, e, hs⟩ := h.f k hk; exact ⟨s, e, hs.below hb⟩⟩
theorem Mk_.fl {w : World} {B : Nat} {A : Option Addr} {i c : Nat} {zs : List It} {ys : List Fi} (h : Mk_ w B A i c zs ys) (hl : ys.length = i) : Fl w A i zs ys :=
  ⟨h.o.slb itC_len, hl, fun k hk => by obtain ⟨s, e, hs⟩ := h.f k hk; exact ⟨s, e, hs.sl prC_len⟩⟩
theorem Mk_.push {w w' : World} {B : Nat} {A A' : Option Addr} {i c c' : Nat} {zs : List It} {ys : List Fi} {s : SV} {y : Fi} (h : Mk_ w B A i c zs ys) (hs : Own w B 91 2 prC s.A s.n s.c y.ps) (hy : gFi ys i = y) (hO : Own w' B 102 11 itC A' (i + 1) c' (zs ++ [itF y s])) (hg : w.grownBy w' (blk A)) : Mk_ w' B A' (i + 1) c' (zs ++ [itF y s]) ys := by
  have hz := h.o.len
  have hne : ∀ {s : SV} {ps : List Pr}, Own w B 91 2 prC s.A s.n s.c ps → ∀ k, blk A = some k → blk s.A ≠ some k := fun hs k hk => hs.apart_ty' h.o (by decide) k hk
  refine ⟨hO, fun k hk => ?_⟩
  rw [gIt_append]
  by_cases h1 : k < i
  · rw [if_pos (by omega)]
    obtain ⟨t, e, ht⟩ := h.f k h1
    exact ⟨t, e, ht.keep hg (hne ht)⟩
  · obtain rfl : k = i := by omega
    rw [if_neg (by omega), if_pos hz.symm]
    exact ⟨s, by rw [hy], by rw [hy]; exact hs.keep hg (hne hs)⟩
end Go.Proofs.YthbodpjkckminaaGreatDoor

namespace Go.Proofs.YthbodpjkckminaaGreatDoor
open Go.RowKit

theorem fiA_lit (y : Fi) (A : Option Addr) (n c : Nat) : (fiL y ⟨A, n, c⟩).toArray = #[.int .i64 y.kind, .int .i64 0, .int .i64 0, .string y.text, .slice A n c, .int .i64 0, .int .i64 0, .slice none 0 0, .slice none 0 0, .slice none 0 0, .slice none 0 0] := rfl
/-- what a flow of flat items may be: not too long, nor its properties. -/
structure FlOk (ys : List Fi) : Prop where
  len : ys.length ≤ 1000000
  ps : ∀ k, (gFi ys k).ps.length ≤ 1000000
def FlPost (w : World) (ys : List Fi) (e : Ending) (w' : World) : Prop := ∃ (A' : Option Addr) (c' : Nat) (zs : List It), e = .returned (.slice A' ys.length c') ∧ Mk_ w' w.heap.size A' ys.length c' zs ys ∧ Below w.heap.size w w'
theorem Mk_.nil (w : World) (B : Nat) (ys : List Fi) : Mk_ w B none 0 0 [] ys := ⟨Own.nil_ _ _ _ _ _, fun k hk => absurd hk (Nat.not_lt_zero k)⟩
set_option maxHeartbeats 8000000 in
set_option maxRecDepth 100000 in
theorem each_any (A : Option Addr) (n c : Nat) (xs : List It) (ys : List Fi) (w : World) (ha : Fl w A n xs ys) (hy : FlOk ys) :
    Calls Tryz.prog 144 #[.slice A n c, .func (.func 145) #[] #[]] w (FlPost w ys) := by
  have hly := ha.ly
  have hn : n ≤ 1000000 := by have := hy.len; omega
  have hsz := size_it
  have HP := Lib.hid (show ∀ e w', (∃ (A' : Option Addr) (c' : Nat) (zs : List It), e = .returned (.slice A' n c') ∧ Mk_ w' w.heap.size A' n c' zs ys ∧ Below w.heap.size w w') → FlPost w ys e w' from fun e w' h => by unfold FlPost; rw [hly]; exact h)
  go_enter Tryz.func144, Tryz.ntmps144
  go_wp2_with fail
  go_loopw [5, 10] (fun vo vi wr => ∃ (i : Nat) (A' : Option Addr) (c' : Nat) (zs : List It), vo = .slice A' i c' ∧ vi = .int .i64 i ∧ i ≤ n ∧ Mk_ wr w.heap.size A' i c' zs ys ∧ Below w.heap.size w wr) (fun _ vi _ => n - (intOf vi).toNat)
  case atStart => exact ⟨0, none, 0, [], rfl, rfl, Nat.zero_le _, Mk_.nil _ _ _, Below.refl _ _⟩
  case round =>
    obtain ⟨i, A', c', zs, rfl, rfl, hi, hM, hbw⟩ := hrel
    by_cases hlt : i < n
    · obtain ⟨g, o, e, hg, hr⟩ := (ha.i.below hbw).at_ itZ hlt
      obtain ⟨s, e2, hs⟩ := ha.f i hlt
      rw [show xs.getD i itZ = gIt xs i from rfl, e2, fiL_it] at hr
      subst e
      have hsn : s.n ≤ 1000000 := by have := hs.len; have := hy.ps i; omega
      have hyi : gFi ys i = gFi ys i := rfl
      obtain ⟨y, hyy⟩ : ∃ y, gFi ys i = y := ⟨_, rfl⟩
      rw [hyy] at hr hs
      have HYY := Lib.hid hyy
      clear hyi hyy e2
      have cC := Lib.hid (fun W (hW : Below wr.heap.size wr W) => clone1_any y s W (hs.below (below_trans' hbw hbw.size hW)) hsn)
      have NZ := newZ wr
      have hone : (fiL y s).toArray.all (·.oneCell') = true := itA_one (itF y s)
      have hb5 := below_setRow (alloc1 wr (.cells itZA 102)) (Nat.le_refl _) (fiL y s).toArray
      have NX := setRow_heap _ _ _ (fiL y s).toArray _ _ NZ
      go_upto_region 4 with fail
      go_cut [7] (fun v7 wx => ∃ p, v7 = .pointer (some ⟨p, 0, none⟩) ∧ Blk wx p 102 (fiL y s).toArray ∧ Below wr.heap.size wr wx)
      case first =>
        have HX := Lib.hid (And.intro NX hb5)
        clear NX hb5
        go_wp2_with (first | (refine wpList_load_mid rfl 102 _ rfl g (o + i * 11) rfl (fiL y s) _ hr Tryz.underlying102 rfl hsz ?_) | (refine wpList_store_row rfl 102 _ _ rfl wr.heap.size (fiL y s).toArray rfl rfl 102 _ NZ (by kernel_rfl) rfl hone ?_))
        go_meet
        case rel => exact ⟨_, rfl, HX.out.1, HX.out.2⟩
      case rest =>
      obtain ⟨p, rfl, B7, hb7⟩ := hcut
      have r7 : wc.rangeAt p 0 (fiL y s) := Blk.rng B7
      have M7 := hM.below hb7
      have hbc := below_trans' hbw hbw.size hb7
      have cC := cC.out wc hb7
      clear hr NZ NX hb5 hM hbw hb7 hs
      go_wp2_with (refine wpList_load_mid rfl 102 _ rfl p 0 rfl (fiL y s) _ r7 Tryz.underlying102 rfl hsz ?_)
      go_wp2_with (first | (go_at_call 145; refine cC.mono ?_; rintro e w5 ⟨⟨sA, sn, sc⟩, rfl, ho5, hb5⟩; rw [fiA_lit]; have M8 := M7.below hb5; have ho6 := ho5.base hbc.size; have hbd := below_trans' hbc hbc.size hb5) | (at_builtin; refine wpList_push elemIt rfl (.tmp 14) (.tmp 18) rfl rfl _ rfl (M8.o.alloc _) (itF y ⟨sA, sn, sc⟩) _ rfl rfl (itC_one _) rfl (by unfold maxLen; omega) (Nat.le_trans hbd.size (by simp)) ?_; intro A3 c3 w6 ho3 hg3 ha3))
      go_roundw
      case measure => rw [intOf, intOf]; omega
      case rel =>
        have hal := alloc1 w5 (.cells (fiL y ⟨sA, sn, sc⟩).toArray 102)
        exact ⟨i + 1, A3, c3, _, rfl, by simp, by omega, (M8.below hal).push (ho6.below hal) HYY.out ho3 hg3, (hbd.alloc hbd.size _).grown hg3 (Nat.le_trans hbd.size (by simp)) (fun k hk => (M8.o.lt k hk).1)⟩
    · have : i = n := by omega
      subst this
      go_wp2_with fail
      go_ret
      exact HP.out _ _ ⟨_, _, _, rfl, hM, hbw⟩
theorem clone_any (A : Option Addr) (n c : Nat) (xs : List It) (ys : List Fi) (w : World) (ha : Fl w A n xs ys) (hy : FlOk ys) :
    Calls Tryz.prog 117 #[.slice A n c] w (FlPost w ys) := by
  have hE := each_any A n c xs ys w ha hy
  go_enter Tryz.func117, Tryz.ntmps117
  go_wp2_with (go_at_call 144; refine hE.mono ?_; rintro e w2 ⟨A', c', zs, rfl, hM, hb⟩)
  go_ret
  exact ⟨A', c', zs, rfl, hM, hb⟩
/-- the error of a range of n units. -/
def rgE (n : Nat) (a b : Int) : Int := if a < 0 ∨ b < a ∨ (n : Int) < b then 2 else 0
set_option maxRecDepth 100000 in
theorem rcheck_any (A : Option Addr) (n c : Nat) (xs : List It) (a b : Int) (w : World) (ha : Its w A n xs) (hn : n ≤ 1000000) (ht : ∀ x ∈ xs, One x) :
    Calls Tryz.prog 176 #[.slice A n c, .int .i64 a, .int .i64 b] w fun e w' => e = .returned (.int .i64 (rgE n a b)) ∧ Below w.heap.size w w' := by
  have hl := len_one A n c xs w ha hn ht
  have HR := Lib.hid (show rgE n a b = if a < 0 ∨ b < a ∨ (n : Int) < b then 2 else 0 from rfl)
  go_enter Tryz.func176, Tryz.ntmps176
  by_cases h1 : a < 0
  · have HR2 := Lib.hid (HR.out.trans (if_pos (.inl h1)))
    go_wp2_with (go_at_call 142; refine hl.mono ?_; rintro e w2 ⟨rfl, hb⟩)
    go_ret
    exact ⟨by rw [HR2.out]; rfl, hb⟩
  by_cases h2 : b < a
  · have HR2 := Lib.hid (HR.out.trans (if_pos (.inr (.inl h2))))
    go_wp2_with (go_at_call 142; refine hl.mono ?_; rintro e w2 ⟨rfl, hb⟩)
    go_ret
    exact ⟨by rw [HR2.out]; rfl, hb⟩
  by_cases h3 : (n : Int) < b
  · have HR2 := Lib.hid (HR.out.trans (if_pos (.inr (.inr h3))))
    go_wp2_with (go_at_call 142; refine hl.mono ?_; rintro e w2 ⟨rfl, hb⟩)
    go_ret
    exact ⟨by rw [HR2.out]; rfl, hb⟩
  have HR2 := Lib.hid (HR.out.trans (if_neg (by omega)))
  go_wp2_with (go_at_call 142; refine hl.mono ?_; rintro e w2 ⟨rfl, hb⟩)
  go_ret
  exact ⟨by rw [HR2.out]; rfl, hb⟩
end Go.Proofs.YthbodpjkckminaaGreatDoor
