/- numbering.list, Of. numbering.Of. numbering.run's map of states. numbering.run, plain; what it holds in memory. numbering.run of a flat document. -/
import Derived.Test.YthbodpjkckminaaGreatDoorm18
import Derived.Lib.QuietBelow
import Derived.Maps.Own
import Derived.DeepKeys4
import Derived.MapViews
import Derived.Test.YthbodpjkckminaaGreatDoorm12
namespace Go.Proofs.YthbodpjkckminaaGreatDoor
open Go.RowKit Go.Sort

theorem list1_any (q : Nat) (id : Int) (A : Option Addr) (n c : Nat) (x : Int) (w : World) (hq : w.cell? ⟨q, 0, none⟩ = some (.int .i64 x)) :
    Calls Tryz.prog 77 #[.agg #[.int .i64 id, .slice A n c], .pointer (some ⟨q, 0, none⟩)] w fun e w' => e = .returned (.bool (id == x)) ∧ Below w.heap.size w w' := by
  have hb := alloc1 w (.cells #[.int .i64 id, .slice A n c] 96)
  have hq2 := keepC hb hq
  go_enter Tryz.func77, Tryz.ntmps77
  go_wp2_with fail
  go_ret
  exact ⟨rfl, hb⟩
set_option maxRecDepth 100000 in
set_option maxHeartbeats 4000000 in
theorem indexLs_any (A : Option Addr) (n c q : Nat) (es : List LsE) (x : Int) (w : World) (ha : Sl w 2 lsC A n es) (hn : n ≤ 1000000) (hq : Blk w q 3 #[.int .i64 x]) :
    Calls Tryz.prog 76 #[.slice A n c, .func (.func 77) #[] #[.pointer (some ⟨q, 0, none⟩)]] w fun e w' => e = .returned (.int .i64 (fdP (idsL es) x)) ∧ Below w.heap.size w w' := by
  have hln := ha.len
  have HF := Lib.hid (fun i (hi : i < (idsL es).length) he hb => fdP_found (zs := idsL es) (x := x) hi he hb)
  have HN := Lib.hid (fun hb => fdP_none (zs := idsL es) (x := x) hb)
  have HL := Lib.hid (idsL_len es)
  generalize fdP (idsL es) x = r at *
  have HLN := Lib.hid hln
  clear hln
  go_enter Tryz.func76, Tryz.ntmps76
  go_wp2_with fail
  go_loopw [8] (fun vi wr => ∃ i : Nat, vi = .int .i64 i ∧ i ≤ n ∧ Below w.heap.size w wr ∧ ∀ t, t < i → (idsL es).getD t 0 ≠ x) (fun vi _ => n - (intOf vi).toNat)
  case atStart => exact ⟨0, rfl, Nat.zero_le _, Below.refl _ _, fun t ht => absurd ht (Nat.not_lt_zero _)⟩
  case round =>
    obtain ⟨i, rfl, hi, hb, hz⟩ := hrel
    have HZ := Lib.hid hz
    clear hz
    by_cases hlt : i < n
    · obtain ⟨ad, e, hl2, k0, k1⟩ := (ha.below hb).ls hlt
      subst e
      have c1 := list1_any q (gE es i).id (gE es i).A (gE es i).n (gE es i).c x wr (keepC hb (hq.cell 0 rfl))
      have HI := Lib.hid (idsL_at (es := es) i)
      generalize (gE es i).id = id at *
      generalize (gE es i).A = A1 at *
      generalize (gE es i).n = n1 at *
      generalize (gE es i).c = cc1 at *
      by_cases hx : id = x
      · have hxb : (id == x) = true := by rw [hx]; simp
        rw [hxb] at c1
        have HX := Lib.hid hx
        clear hx hxb
        go_wp2_with (go_at_call 77; refine c1.mono ?_; rintro e w2 ⟨rfl, hb2⟩)
        go_ret
        have hr : r = i := HF.out i (by rw [HL.out, HLN.out]; exact hlt) (by rw [HI.out]; exact HX.out) HZ.out
        exact ⟨by rw [hr]; rfl, below_trans' hb hb.size hb2⟩
      · have hxb : (id == x) = false := beq_eq_false_iff_ne.2 hx
        rw [hxb] at c1
        have HX := Lib.hid hx
        clear hx hxb
        go_wp2_with (go_at_call 77; refine c1.mono ?_; rintro e w2 ⟨rfl, hb2⟩)
        go_roundw
        case rel => exact ⟨i + 1, by simp, by omega, below_trans' hb hb.size hb2, fun t ht => by
          rcases (show t < i ∨ t = i by omega) with h | rfl
          · exact HZ.out t h
          · rw [HI.out]; exact HX.out⟩
        case measure => rw [intOf, intOf]; omega
    · have : i = n := by omega
      subst this
      go_wp2_with fail
      go_ret
      have hr : r = -1 := HN.out (by rw [HL.out, HLN.out]; exact HZ.out)
      exact ⟨by rw [hr]; rfl, hb⟩
/-- the list with an id, or none. -/
def lsF (es : List LsE) (x : Int) : LsE := gE es ((idsL es).idxOf x)
def stL (a1 : SV) (LA : Option Addr) (ln lc : Nat) (a2 a3 : SV) : List Value := [.slice a1.A a1.n a1.c, .slice LA ln lc, .slice a2.A a2.n a2.c, .slice a3.A a3.n a3.c]
theorem boxes_st (w : World) (S x : Array Value) : Blk (((w.alloc (.cells S 46)).alloc (.cells x 3)).alloc (.cells #[.int .i64 0, .slice none 0 0] 96)) w.heap.size 46 S
    ∧ Blk (((w.alloc (.cells S 46)).alloc (.cells x 3)).alloc (.cells #[.int .i64 0, .slice none 0 0] 96)) (w.heap.size + 1) 3 x
    ∧ Blk (((w.alloc (.cells S 46)).alloc (.cells x 3)).alloc (.cells #[.int .i64 0, .slice none 0 0] 96)) (w.heap.size + 1 + 1) 96 #[.int .i64 0, .slice none 0 0]
    ∧ Below w.heap.size w (((w.alloc (.cells S 46)).alloc (.cells x 3)).alloc (.cells #[.int .i64 0, .slice none 0 0] 96)) := by
  have B2 := ((Blk.new w 46 S).alloc (.cells x 3)).alloc (.cells #[.int .i64 0, .slice none 0 0] 96)
  have B3 := (Blk.new (w.alloc (.cells S 46)) 3 x).alloc (.cells #[.int .i64 0, .slice none 0 0] 96)
  have B4 := Blk.new ((w.alloc (.cells S 46)).alloc (.cells x 3)) 96 #[.int .i64 0, .slice none 0 0]
  simp only [World.size_alloc] at B3 B4
  exact ⟨B2, B3, B4, (((alloc1 w _).alloc (by simp) _).alloc (by simp; omega) _)⟩
def LfPost (w : World) (es : List LsE) (x : Int) (e : Ending) (w' : World) : Prop := e = .returned (.tuple #[.agg (lsC (lsF es x)).toArray, .bool (decide (x ∈ idsL es))]) ∧ Below w.heap.size w w'
set_option maxRecDepth 100000 in
set_option maxHeartbeats 4000000 in
theorem nlist_any (a1 a2 a3 : SV) (LA : Option Addr) (ln lc : Nat) (es : List LsE) (x : Int) (w : World) (ha : Sl w 2 lsC LA ln es) (hn : ln ≤ 1000000) :
    Calls Tryz.prog 39 #[.agg (stL a1 LA ln lc a2 a3).toArray, .int .i64 x] w (LfPost w es x) := by
  have hln := ha.len
  have HX := Lib.hid (boxes_st w (stL a1 LA ln lc a2 a3).toArray #[.int .i64 x])
  have cI := Lib.hid (fun W q (hb : Below w.heap.size w W) hq => indexLs_any LA ln lc q es x W (ha.below hb) hn hq)
  obtain ⟨A1, n1, c1⟩ := a1
  obtain ⟨A2, n2, c2⟩ := a2
  obtain ⟨A3, n3, c3⟩ := a3
  rw [show (stL ⟨A1, n1, c1⟩ LA ln lc ⟨A2, n2, c2⟩ ⟨A3, n3, c3⟩).toArray = #[.slice A1 n1 c1, .slice LA ln lc, .slice A2 n2 c2, .slice A3 n3 c3] from rfl] at *
  have HP := Lib.hid (show ∀ e w', (e = .returned (.tuple #[.agg (lsC (lsF es x)).toArray, .bool (decide (x ∈ idsL es))]) ∧ Below w.heap.size w w') → LfPost w es x e w' from fun _ _ h => h)
  have HLS := Lib.hid (fun W (hb : Below w.heap.size w W) k hk => (ha.below hb).ls (k := k) hk)
  have hfd : fdP (idsL es) x = if x ∈ idsL es then (((idsL es).idxOf x : Nat) : Int) else -1 := rfl
  have hil := idsL_len es
  have hlf : lsF es x = gE es ((idsL es).idxOf x) := rfl
  have hixl : x ∈ idsL es → (idsL es).idxOf x < ln := fun h => by have := List.idxOf_lt_length_iff.2 h; omega
  have hixn : x ∉ idsL es → (idsL es).idxOf x = ln := fun h => by rw [List.idxOf_eq_length h]; omega
  have HFD := Lib.hid hfd
  have HLF := Lib.hid hlf
  clear hfd hlf hil ha
  go_enter Tryz.func39, Tryz.ntmps39
  go_upto_region 0 with fail
  go_cut [2, 3, 4, 5] (fun v2 v3 v4 v5 wx => ∃ p2 p3 p4, v2 = .pointer (some ⟨p2, 0, none⟩) ∧ v3 = .pointer (some ⟨p3, 0, none⟩) ∧ v4 = .pointer (some ⟨p4, 0, none⟩) ∧ v5 = .bool false ∧ Blk wx p2 46 #[.slice A1 n1 c1, .slice LA ln lc, .slice A2 n2 c2, .slice A3 n3 c3] ∧ Blk wx p3 3 #[.int .i64 x] ∧ Blk wx p4 96 #[.int .i64 0, .slice none 0 0] ∧ w.heap.size ≤ p4 ∧ Below w.heap.size w wx)
  case first =>
    clear cI HP HLS hixl hixn
    go_wp2_with fail
    go_meet
    case rel => exact ⟨_, _, _, rfl, rfl, rfl, rfl, HX.out.1, HX.out.2.1, HX.out.2.2.1, by omega, HX.out.2.2.2⟩
  case rest =>
  obtain ⟨p2, p3, p4, rfl, rfl, rfl, rfl, B2, B3, B4, hp4, hbw⟩ := hcut
  clear HX
  have q1 := B2.cell 1 rfl
  have cI := cI.out _ p3 hbw B3
  by_cases hin : x ∈ idsL es
  · have hk := hixl hin
    have HFD := Lib.hid (HFD.out.trans (if_pos hin))
    have HIN := Lib.hid (show decide (x ∈ idsL es) = true from decide_eq_true hin)
    rw [HFD.out] at cI
    rw [HIN.out, HLF.out] at HP
    clear hixl hixn hin HFD HIN HLF
    generalize (idsL es).idxOf x = k at *
    have hk' : (k : Int) < ln := by omega
    go_upto_region 2 with (go_at_call 76; refine cI.mono ?_; rintro e w4 ⟨rfl, hb4⟩)
    have hbx := below_trans' hbw hbw.size hb4
    have q1 := (B2.below hb4).cell 1 rfl
    have B5 := B4.below hb4
    obtain ⟨ad, e, hl2, k0, k1⟩ := HLS.out w4 hbx k hk
    subst e
    generalize gE es k = le at *
    obtain ⟨id, A9, n9, c9⟩ := le
    simp only at k0 k1
    unfold Blk at B5
    clear HLS B2 B3 B4 hb4
    go_wp2_with (refine wpList_store_row rfl 96 _ _ rfl p4 #[.int .i64 id, .slice A9 n9 c9] rfl rfl 96 _ B5 (by kernel_rfl) rfl (by simp [Value.oneCell']) ?_)
    refine bodyPost_ret (results_cell_tmp rfl _ _ p4 96 _ (0, 0) _ rfl (setRow_heap _ p4 _ _ _ _ B5) Tryz.underlying96 rfl (by kernel_rfl)) rfl ?_
    exact HP.out _ _ ⟨rfl, below_setRow hbx hp4 _⟩
  · have HFD := Lib.hid (HFD.out.trans (if_neg hin))
    have HIN := Lib.hid (show decide (x ∈ idsL es) = false from decide_eq_false hin)
    have hlz : gE es ((idsL es).idxOf x) = ⟨0, none, 0, 0⟩ := by rw [hixn hin]; unfold gE; rw [List.getD_eq_getElem?_getD, List.getElem?_eq_none (by omega)]; rfl
    rw [HFD.out] at cI
    rw [HIN.out, HLF.out, hlz] at HP
    clear hixl hixn hin HFD HIN HLF HLS hlz
    go_upto_region 2 with (go_at_call 76; refine cI.mono ?_; rintro e w4 ⟨rfl, hb4⟩)
    have hbx := below_trans' hbw hbw.size hb4
    have B5 := B4.below hb4
    unfold Blk at B5
    clear B2 B3 B4 hb4 q1
    go_wp2_with (refine wpList_store_row rfl 96 _ _ rfl p4 #[.int .i64 0, .slice none 0 0] rfl rfl 96 _ B5 (by kernel_rfl) rfl (by simp [Value.oneCell']) ?_)
    refine bodyPost_ret (results_cell_tmp rfl _ _ p4 96 _ (0, 0) _ rfl (setRow_heap _ p4 _ _ _ _ B5) Tryz.underlying96 rfl (by kernel_rfl)) rfl ?_
    exact HP.out _ _ ⟨rfl, below_setRow hbx hp4 _⟩
end Go.Proofs.YthbodpjkckminaaGreatDoor

namespace Go.Proofs.YthbodpjkckminaaGreatDoor
open Go.RowKit Go.Sort

def ofB (es : List LsE) (id : Int) : Bool := decide (id ≠ 0) && decide (id ∈ idsL es)
def of1 (es : List LsE) (eff : List Pr) : Int := if ofB es (valV eff 33) = true then valV eff 33 else 0
def of2 (es : List LsE) (eff : List Pr) : Int := if ofB es (valV eff 33) = true then min (valV eff 34) ((lsF es (valV eff 33)).n : Nat) else 0
def of3 (es : List LsE) (eff own : List Pr) : Int := if ofB es (valV eff 33) = true then valV own 35 else 0
def OfPost (w : World) (a b c : Int) (e : Ending) (w' : World) : Prop := e = .returned (.tuple #[.int .i64 a, .int .i64 b, .int .i64 c]) ∧ Below w.heap.size w w'
set_option maxRecDepth 100000 in
set_option maxHeartbeats 4000000 in
theorem of_any0 (a1 a2 a3 : SV) (LA : Option Addr) (ln lc : Nat) (es : List LsE) (AE AO : Option Addr) (ne ce no co : Nat) (eff own : List Pr) (w : World) (ha : Sl w 2 lsC LA ln es) (hn : ln ≤ 1000000) (he : Sl w 2 prC AE ne eff) (ho : Sl w 2 prC AO no own) (hne : ne ≤ 1000000) (hno : no ≤ 1000000) (hse : (keyL eff).Pairwise (· ≤ ·)) (hso : (keyL own).Pairwise (· ≤ ·)) :
    Calls Tryz.prog 16 #[.agg (stL a1 LA ln lc a2 a3).toArray, .slice AE ne ce, .slice AO no co] w (OfPost w (of1 es eff) (of2 es eff) (of3 es eff own)) := by
  have N3 := Blk.new w 46 (stL a1 LA ln lc a2 a3).toArray
  have hb3 := alloc1 w (.cells (stL a1 LA ln lc a2 a3).toArray 46)
  have cV := value_any AE ne ce eff 33 _ (he.below hb3) hne hse
  have cL := Lib.hid (fun W x (hb : Below w.heap.size w W) => nlist_any a1 a2 a3 LA ln lc es x W (ha.below hb) hn)
  unfold LfPost at cL
  have cV2 := Lib.hid (fun W (hb : Below w.heap.size w W) => value_any AE ne ce eff 34 W (he.below hb) hne hse)
  have cV3 := Lib.hid (fun W (hb : Below w.heap.size w W) => value_any AO no co own 35 W (ho.below hb) hno hso)
  have h1 : of1 es eff = if ofB es (valV eff 33) = true then valV eff 33 else 0 := rfl
  have h2 : of2 es eff = if ofB es (valV eff 33) = true then min (valV eff 34) ((lsF es (valV eff 33)).n : Nat) else 0 := rfl
  have h3 : of3 es eff own = if ofB es (valV eff 33) = true then valV own 35 else 0 := rfl
  have hB : ofB es (valV eff 33) = (decide (valV eff 33 ≠ 0) && decide (valV eff 33 ∈ idsL es)) := rfl
  obtain ⟨A1, n1, c1⟩ := a1
  obtain ⟨A2, n2, c2⟩ := a2
  obtain ⟨A3, n3, c3⟩ := a3
  rw [show (stL ⟨A1, n1, c1⟩ LA ln lc ⟨A2, n2, c2⟩ ⟨A3, n3, c3⟩).toArray = #[.slice A1 n1 c1, .slice LA ln lc, .slice A2 n2 c2, .slice A3 n3 c3] from rfl] at *
  generalize of1 es eff = o1 at *
  generalize of2 es eff = o2 at *
  generalize of3 es eff own = o3 at *
  generalize ofB es (valV eff 33) = ob at *
  generalize valV eff 33 = id at *
  generalize valV eff 34 = lv at *
  generalize valV own 35 = rs at *
  have cL := Lib.hid (fun W (hb : Below w.heap.size w W) => cL.out W id hb)
  obtain ⟨le, hle⟩ : ∃ le, lsF es id = le := ⟨_, rfl⟩
  rw [hle] at cL h2
  obtain ⟨lid, A9, n9, c9⟩ := le
  rw [show (lsC ⟨lid, A9, n9, c9⟩).toArray = #[.int .i64 lid, .slice A9 n9 c9] from rfl] at cL
  obtain ⟨isin, hisin⟩ : ∃ b, decide (id ∈ idsL es) = b := ⟨_, rfl⟩
  rw [hisin] at cL hB
  have HP := Lib.hid (show ∀ e w', (e = .returned (.tuple #[.int .i64 o1, .int .i64 o2, .int .i64 o3]) ∧ Below w.heap.size w w') → OfPost w o1 o2 o3 e w' from fun _ _ h => h)
  have H1 := Lib.hid h1
  have H2 := Lib.hid h2
  have H3 := Lib.hid h3
  have HB := Lib.hid hB
  clear h1 h2 h3 hB hle hisin
  obtain ⟨p3, hp3⟩ : ∃ p, p = w.heap.size := ⟨_, rfl⟩
  rw [← hp3] at N3
  go_enter Tryz.func16, Tryz.ntmps16
  go_upto_region 1 with fail
  rw [← hp3]
  generalize w.alloc (.cells #[.slice A1 n1 c1, .slice LA ln lc, .slice A2 n2 c2, .slice A3 n3 c3] 46) = w1 at *
  clear hp3
  go_upto_region 2 with (go_at_call 38; refine cV.mono ?_; rintro e w2 ⟨rfl, hb2⟩)
  have N4 := N3.below hb2
  have hb2 := below_trans' hb3 hb3.size hb2
  have q0 := N4.cell 0 rfl
  have q1 := N4.cell 1 rfl
  have q2 := N4.cell 2 rfl
  have q3 := N4.cell 3 rfl
  have cL := cL.out _ hb2
  go_cut [9, 10] (fun v9 v10 wx => ∃ p9, v9 = .pointer (some ⟨p9, 0, none⟩) ∧ v10 = .bool isin ∧ Blk wx p9 96 #[.int .i64 lid, .slice A9 n9 c9] ∧ Below w.heap.size w wx)
  case first =>
    go_wp2_with (go_at_call 39; refine cL.mono ?_; rintro e w4 ⟨rfl, hb4⟩)
    have hb4 := below_trans' hb2 hb2.size hb4
    have HX := Lib.hid (And.intro (Blk.new w4 96 #[.int .i64 lid, .slice A9 n9 c9]) (below_trans' hb4 hb4.size (alloc1 w4 (.cells #[.int .i64 lid, .slice A9 n9 c9] 96))))
    clear hb4
    go_wp2_with fail
    go_meet
    case rel => exact ⟨_, rfl, rfl, HX.out.1, HX.out.2⟩
  case rest =>
  obtain ⟨p9, rfl, rfl, B9, hb5⟩ := hcut
  generalize wc = w5 at *
  clear q0 q1 q2 q3 N3 N4 cL hb2 hb3 cV
  by_cases hz : id = 0
  · have HB := Lib.hid (HB.out.trans (by rw [hz]; rfl : _ = false))
    rw [HB.out] at H1 H2 H3
    subst hz
    go_wp2_with fail
    go_ret3
    exact HP.out _ _ ⟨by rw [H1.out, H2.out, H3.out]; rfl, hb5⟩
  · have hzb : (id == 0) = false := beq_eq_false_iff_ne.2 hz
    have HB := Lib.hid (show ob = isin by rw [HB.out]; simp [hz])
    cases isin
    · rw [HB.out] at H1 H2 H3
      clear hz
      go_wp2_with fail
      go_ret3
      exact HP.out _ _ ⟨by rw [H1.out, H2.out, H3.out]; rfl, hb5⟩
    · rw [HB.out] at H1 H2 H3
      clear hz
      have cV2 := fun d os => Calls.regrown_of (cV2.out (grow (redrawn w5 d) os) (hb5.trans ((below_regrown w5 d os).mono hb5.size)))
      have cV3 := fun d os => Calls.regrown_of (cV3.out (grow (redrawn w5 d) os) (hb5.trans ((below_regrown w5 d os).mono hb5.size)))
      have k1 := fun d os => cell_regrown (B9.cell 1 rfl) d os
      go_upto_region 5 with fail
      refine wp_region_quiet_below (by kernel_rfl) (by kernel_rfl) ?_
      repeat (quiet_step (first | (go_at_call 38; with_reducible exact cV2 _ _) | (go_at_call 38; with_reducible exact cV3 _ _)))
      refine wpQuiet_nil ?_
      intro _ hw'
      obtain ⟨⟨dq, osq⟩, hw''⟩ := hw'
      subst hw''
      go_wp2_with fail
      go_ret3
      exact HP.out _ _ ⟨by rw [H1.out, H2.out, H3.out]; rfl, hb5.trans ((below_regrown w5 dq osq).mono hb5.size)⟩
end Go.Proofs.YthbodpjkckminaaGreatDoor

namespace Go.Proofs.YthbodpjkckminaaGreatDoor
open Go.RowKit Go.Maps Go.WideMaps

def cellD : Value → DataW Unit
  | .int k n => .lit (.int k n)
  | .bool b => .lit (.bool b)
  | _ => .nil
def cnD (c : Cn) : DataW Unit := .agg ((cnL c).map cellD)
theorem cnD_inj {c d : Cn} (h : cnD c = cnD d) : cnA c = cnA d := by
  unfold cnD cnL cellD at h
  simp only [List.map_cons, List.map_nil, DataW.agg.injEq, List.cons.injEq, DataW.lit.injEq, Lit.int.injEq, Lit.bool.injEq, true_and, and_true] at h
  unfold cnA cnL
  obtain ⟨h0, h1, h2, h3, h4, h5, h6, h7, h8, b0, b1, b2, b3, b4, b5, b6, b7, b8⟩ := h
  rw [h0, h1, h2, h3, h4, h5, h6, h7, h8, b0, b1, b2, b3, b4, b5, b6, b7, b8]
theorem cnD_of {c d : Cn} (h : cnA c = cnA d) : cnD c = cnD d := by
  have e : cnL c = cnL d := by unfold cnA at h; simpa using h
  unfold cnD; rw [e]
open Classical in
noncomputable def RN (v : Value) : Option (DataW Unit × List MemPlace) := if h : ∃ c : Cn, v = .agg (cnA c) then some (cnD h.choose, []) else none
theorem RN_of (c : Cn) : RN (.agg (cnA c)) = some (cnD c, []) := by
  have h : ∃ d : Cn, Value.agg (cnA c) = .agg (cnA d) := ⟨c, rfl⟩
  unfold RN
  rw [dif_pos h]
  have e := h.choose_spec
  injection e with e
  rw [cnD_of e]
theorem RN_inv {v : Value} {c : Cn} {ps : List MemPlace} (h : RN v = some (cnD c, ps)) : v = .agg (cnA c) := by
  unfold RN at h
  split at h
  · rename_i h0
    injection h with h
    injection h with h _
    rw [h0.choose_spec, cnD_inj h]
  · cases h
def okZ (a : Int) : Prop := -9223372036854775808 ≤ a ∧ a ≤ 9223372036854775807
theorem wf_intZ {a : Int} (h : okZ a) : (Lit.int .i64 a).wf = true := by
  unfold okZ at h
  have h1 : IntKind.i64.min = -9223372036854775808 := by decide
  have h2 : IntKind.i64.max = 9223372036854775807 := by decide
  simp only [Lit.wf, h1, h2, Bool.and_eq_true, decide_eq_true_eq]
  exact h
theorem find_insert_no {H : Type} (p : Lit × DataW H → Bool) (x : Lit × DataW H) (hx : p x = false) : ∀ l : List (Lit × DataW H), (DataW.insert x l).find? p = l.find? p
  | [] => by simp [DataW.insert, hx]
  | y :: r => by
    unfold DataW.insert
    split
    · simp [hx]
    · rw [List.find?_cons, List.find?_cons, find_insert_no p x hx r]
theorem find_insert_yes {H : Type} (p : Lit × DataW H → Bool) (x : Lit × DataW H) (hx : p x = true) : ∀ l : List (Lit × DataW H), (∀ y ∈ l, p y = false) → (DataW.insert x l).find? p = some x
  | [], _ => by simp [DataW.insert, hx]
  | y :: r, h => by
    unfold DataW.insert
    split
    · simp [hx]
    · rw [List.find?_cons, h y (by simp), find_insert_yes p x hx r (fun z hz => h z (by simp [hz]))]
theorem find_filter {α : Type} (p q : α → Bool) : ∀ l : List α, (∀ y ∈ l, p y = true → q y = true) → (l.filter q).find? p = l.find? p
  | [], _ => rfl
  | y :: r, h => by
    have ih := find_filter p q r (fun z hz => h z (by simp [hz]))
    by_cases hq : q y = true
    · rw [List.filter_cons_of_pos hq, List.find?_cons, List.find?_cons, ih]
    · rw [List.filter_cons_of_neg hq, List.find?_cons, ih]
      have : p y = false := by
        cases hp : p y
        · rfl
        · exact absurd (h y (by simp) hp) hq
      rw [this]
open Classical in
theorem atKey_put {es : List (Lit × DataW Unit)} {k k' : Lit} {d z : DataW Unit} (hk : WideAt.IsKeyLit k) :
    ((DataW.map es).put k d).atKey k' z = if k' = k then d else (DataW.map es).atKey k' z := by
  unfold DataW.put DataW.atKey
  simp only
  by_cases h : k' = k
  · subst h
    rw [if_pos rfl, find_insert_yes _ _ (WideAt.sameKey_self hk)]
    intro y hy
    have := (List.mem_filter.1 hy).2
    simpa using this
  · have h1 : k.sameKey k' = false := by
      cases hs : k.sameKey k'
      · rfl
      · exact absurd (WideAt.sameKey_eq hs).symm h
    rw [if_neg h, find_insert_no _ _ h1, find_filter]
    intro y _ hy
    have e := WideAt.sameKey_eq hy
    rw [e]
    cases hs : k'.sameKey k
    · rfl
    · exact absurd (WideAt.sameKey_eq hs) h
/-- block b is a map from ids to counters, at most n entries. -/
def Ms (w : World) (b n : Nat) (f : Int → Cn) : Prop :=
  ∃ D : DataW Unit, w.ownsMap Tryz.prog 3 RN b n D ∧ ∀ x, okZ x → D.atKey (.int .i64 x) (cnD cnZ) = cnD (f x)
def updI (f : Int → Cn) (x : Int) (c : Cn) : Int → Cn := fun y => if y = x then c else f y
section
variable {w w' : World} {b n : Nat} {f : Int → Cn}
theorem Ms.made (w : World) : Ms (w.alloc (.map #[] 0)) w.heap.size 0 (fun _ => cnZ) := ⟨_, World.ownsMap_made w _ _ _, fun _ _ => rfl⟩
theorem Ms.keep {row : Option Nat} (h : Ms w b n f) (hg : w.grownBy w' row) (hne : some b ≠ row) : Ms w' b n f := by
  obtain ⟨D, h1, h2⟩ := h
  exact ⟨D, h1.kept hg hne, h2⟩
theorem Ms.lt (h : Ms w b n f) : b < w.heap.size := by
  obtain ⟨D, h1, _⟩ := h
  exact h1.lt
theorem Ms.heap_at (h : Ms w b n f) : ∃ o : Obj, w.heap[b]? = some o ∧ o.isCells = false := by
  obtain ⟨D, ⟨es, clock, hb, _⟩, _⟩ := h
  exact ⟨_, hb, rfl⟩
theorem Ms.ne_cells (h : Ms w b n f) {p : Nat} {cs : Array Value} {t : TypeId} {fr : Nat × Nat} (hp : w.heap[p]? = some (.cells cs t fr)) : some b ≠ some p := fun e => by
  obtain ⟨o, ho, hc⟩ := h.heap_at
  cases e
  rw [hp] at ho
  cases ho
  cases hc
theorem Ms.below (h : Ms w b n f) (hb : Below w.heap.size w w') : Ms w' b n f := h.keep (grownB (row := none) hb) (by simp)
theorem Ms.mono (h : Ms w b n f) {n' : Nat} (hn : n ≤ n') : Ms w b n' f := by
  obtain ⟨D, h1, h2⟩ := h
  exact ⟨D, h1.mono hn, h2⟩
theorem Ms.lookup (h : Ms w b n f) {x : Int} (hx : okZ x) : (Instr.lookup 115 (.map (some b)) (.int .i64 x) false).run Tryz.prog w = .ok (.agg (cnA (f x))) w := by
  obtain ⟨D, h1, h2⟩ := h
  obtain ⟨v, ps, hr, hv⟩ := h1.lookup (Maps.int_keyed Tryz.underlying3) Tryz.underlying115 (z := .agg (cnA cnZ)) (Tryz.zeroValue26 w) (RN_of cnZ) (key3 (wf_intZ hx))
  rw [h2 x hx] at hv
  rw [hr, RN_inv hv]
theorem Ms.put (D : DataW Unit) (x : Int) (h1 : w.ownsMap Tryz.prog 3 RN b n D) (h2 : ∀ x, okZ x → D.atKey (.int .i64 x) (cnD cnZ) = cnD (f x)) (c : Cn) (h3 : w'.ownsMap Tryz.prog 3 RN b (n + 1) (D.put (.int .i64 x) (cnD c))) : Ms w' b (n + 1) (updI f x c) := by
  refine ⟨_, h3, fun y hy => ?_⟩
  obtain ⟨es, clock, hb, F, hs, rfl⟩ := h1
  rw [atKey_put (by trivial), h2 y hy]
  unfold updI
  by_cases e : y = x
  · rw [if_pos e, if_pos (by rw [e])]
  · rw [if_neg e, if_neg (fun h => e (by injection h))]
end
end Go.Proofs.YthbodpjkckminaaGreatDoor

namespace Go.Proofs.YthbodpjkckminaaGreatDoor
open Go.RowKit Go.Maps

/-- the items that are paragraphs' marks. -/
def pmL (ys : List Fi) : Nat → List Nat
  | 0 => []
  | k + 1 => if (gFi ys k).kind = 2 then pmL ys k ++ [k] else pmL ys k
theorem bkL_map (ys : List Fi) : ∀ n, bkL ys n = (pmL ys n).map (bkK ys)
  | 0 => rfl
  | n + 1 => by
    rw [bkL, pmL]
    split
    · rw [bkL_map ys n, List.map_append]; rfl
    · exact bkL_map ys n
theorem pmL_mem {ys : List Fi} : ∀ {n k : Nat}, k ∈ pmL ys n → k < n ∧ (gFi ys k).kind = 2
  | 0, _, h => absurd h List.not_mem_nil
  | n + 1, k, h => by
    rw [pmL] at h
    by_cases hk : (gFi ys n).kind = 2
    · rw [if_pos hk] at h
      rcases List.mem_append.1 h with h | h
      · have := pmL_mem h; exact ⟨by omega, this.2⟩
      · rw [List.mem_singleton.1 h]; exact ⟨by omega, hk⟩
    · rw [if_neg hk] at h
      have := pmL_mem h; exact ⟨by omega, this.2⟩
theorem pmL_len (ys : List Fi) (n : Nat) : (pmL ys n).length = (bkL ys n).length := by rw [bkL_map, List.length_map]
theorem pmL_at {ys : List Fi} {n j : Nat} (hj : j < (pmL ys n).length) : (pmL ys n).getD j 0 < n ∧ (gFi ys ((pmL ys n).getD j 0)).kind = 2 ∧ gBk (bkL ys n) j = bkK ys ((pmL ys n).getD j 0) := by
  have h1 : (pmL ys n).getD j 0 = (pmL ys n)[j] := by rw [List.getD_eq_getElem?_getD, List.getElem?_eq_getElem hj]; rfl
  have h2 := pmL_mem (ys := ys) (n := n) (List.getElem_mem hj)
  rw [h1]
  refine ⟨h2.1, h2.2, ?_⟩
  unfold gBk
  rw [bkL_map, List.getD_eq_getElem?_getD, List.getElem?_map, List.getElem?_eq_getElem hj]; rfl
/-- an entry. -/
structure En where
  at_ : Int
  list : Int
  level : Int
  num : Int
  lab : ByteArray
def enC (e : En) : List Value := [.int .i64 0, .int .i64 e.at_, .int .i64 e.list, .int .i64 e.level, .int .i64 e.num, .string e.lab]
theorem enC_len (e : En) : (enC e).length = 6 := rfl
theorem enC_one (e : En) : ∀ u ∈ enC e, u.oneCell' = true := by intro u hu; simp [enC] at hu; rcases hu with rfl | rfl | rfl | rfl | rfl | rfl <;> rfl
theorem elemEn : Elem Tryz.prog 68 73 6 56 := Elem.mk Tryz.underlying68 (z := .agg #[.int .i64 0, .int .i64 0, .int .i64 0, .int .i64 0, .int .i64 0, .string ⟨#[]⟩]) (by kernel_rfl) rfl (by omega)
structure Rs where
  f : Int → Cn
  ps : List Bk
  es : List En
def rsZ : Rs := ⟨fun _ => cnZ, [], []⟩
/-- the paragraph's numbers: list, level, restart. -/
def pid (es : List LsE) (ys : List Fi) (k : Nat) : Int := of1 es (gFi ys k).ps
def plv (es : List LsE) (ys : List Fi) (k : Nat) : Int := of2 es (gFi ys k).ps
def prs (es : List LsE) (ys : List Fi) (k : Nat) : Int := of3 es (gFi ys k).ps (gFi ys k).ps
def lvs (es : List LsE) (vs : List (List Lv)) (id : Int) : List Lv := vs.getD ((idsL es).idxOf id) []
def nxt (es : List LsE) (vs : List (List Lv)) (ys : List Fi) (f : Int → Cn) (k : Nat) : Cn := nextC (lvs es vs (pid es ys k)) (lsF es (pid es ys k)).n (f (pid es ys k)) (plv es ys k - 1).toNat (prs es ys k)
def enK (es : List LsE) (vs : List (List Lv)) (ys : List Fi) (f : Int → Cn) (k : Nat) : En :=
  ⟨(frK ys k : Nat), pid es ys k, plv es ys k, (nxt es vs ys f k (plv es ys k - 1).toNat).1, fillB (lvs es vs (pid es ys k)) (plv es ys k - 1).toNat (numsF (lvs es vs (pid es ys k)) (nxt es vs ys f k) ((plv es ys k - 1).toNat + 1))⟩
def stepR (es : List LsE) (vs : List (List Lv)) (ys : List Fi) (st : Rs) (k : Nat) : Rs :=
  if pid es ys k = 0 then st else ⟨updI st.f (pid es ys k) (nxt es vs ys st.f k), st.ps ++ [bkK ys k], st.es ++ [enK es vs ys st.f k]⟩
def runL (es : List LsE) (vs : List (List Lv)) (ys : List Fi) (l : List Nat) : Rs := l.foldl (stepR es vs ys) rsZ
theorem runL_succ (es : List LsE) (vs : List (List Lv)) (ys : List Fi) (l : List Nat) {j : Nat} (h : j < l.length) : runL es vs ys (l.take (j + 1)) = stepR es vs ys (runL es vs ys (l.take j)) (l.getD j 0) := by
  unfold runL
  rw [List.take_succ_eq_append_getElem h, List.foldl_append, List.getD_eq_getElem?_getD, List.getElem?_eq_getElem h]
  rfl
theorem stepR_no {es : List LsE} {vs : List (List Lv)} {ys : List Fi} {st : Rs} {k : Nat} (h : pid es ys k = 0) : stepR es vs ys st k = st := by unfold stepR; rw [if_pos h]
theorem stepR_yes {es : List LsE} {vs : List (List Lv)} {ys : List Fi} {st : Rs} {k : Nat} (h : pid es ys k ≠ 0) : stepR es vs ys st k = ⟨updI st.f (pid es ys k) (nxt es vs ys st.f k), st.ps ++ [bkK ys k], st.es ++ [enK es vs ys st.f k]⟩ := by unfold stepR; rw [if_neg h]
/-- a property that is checked lies within its key's bounds. -/
theorem valV_in {el : Int} {ps : List Pr} {x : Int} (h : pckE el ps = 0) (hx : kyN.contains x = true) (hs : (kyF x).low ≤ (kyF x).std ∧ (kyF x).std ≤ (kyF x).high) : (kyF x).low ≤ valV ps x ∧ valV ps x ≤ (kyF x).high := by
  unfold valV
  by_cases hc : (keyL ps).contains x = true
  · rw [if_pos hc]
    obtain ⟨h1, h2⟩ := ixN_lt (pckE_sorted h) hc
    unfold getV
    rw [if_pos hc]
    have hl : ixN (keyL ps) x < ps.length := by simpa [keyL] using h1
    have h3 := (c1E_zero ((pckE_zero h).2 _ hl)).2.2
    rw [keyL_at] at h2
    rw [h2] at h3
    unfold cvE at h3
    rw [hx] at h3
    simp only [Bool.true_eq_false, if_false] at h3
    by_cases hb : (gP2 ps (ixN (keyL ps) x)).val < (kyF x).low ∨ (kyF x).high < (gP2 ps (ixN (keyL ps) x)).val
    · rw [if_pos hb] at h3; omega
    · omega
  · rw [if_neg hc]; exact hs
theorem val33 {el : Int} {ps : List Pr} (h : pckE el ps = 0) : 0 ≤ valV ps 33 ∧ valV ps 33 ≤ 1073741824 := valV_in (x := 33) h (by decide) (by decide)
theorem val34 {el : Int} {ps : List Pr} (h : pckE el ps = 0) : 1 ≤ valV ps 34 ∧ valV ps 34 ≤ 9 := valV_in (x := 34) h (by decide) (by decide)
theorem val35 {el : Int} {ps : List Pr} (h : pckE el ps = 0) : 0 ≤ valV ps 35 ∧ valV ps 35 ≤ 32767 := valV_in (x := 35) h (by decide) (by decide)
/-- the documents that are looked at here. -/
structure DocR (w : World) (A : Option Addr) (m : Nat) (xs : List It) (ys : List Fi) (LA : Option Addr) (ln : Nat) (es : List LsE) (vs : List (List Lv)) : Prop where
  fl : Fl w A m xs ys
  dy : DocFl ys
  ls : LsT w LA ln es vs
  ll : ln ≤ 1000000
  cl : ∀ k, k < ln → clE (vs.getD k []) = 0
  pr : ∀ k, k < m → (gFi ys k).kind = 2 → PrOk (gFi ys k).ps
theorem DocR.below {w w' : World} {A : Option Addr} {m : Nat} {xs : List It} {ys : List Fi} {LA : Option Addr} {ln : Nat} {es : List LsE} {vs : List (List Lv)} (h : DocR w A m xs ys LA ln es vs) (hb : Below w.heap.size w w') : DocR w' A m xs ys LA ln es vs :=
  ⟨h.fl.below hb, h.dy, h.ls.below hb, h.ll, h.cl, h.pr⟩
structure Numd (w : World) (es : List LsE) (vs : List (List Lv)) (ys : List Fi) (k L : Nat) (ls : List Lv) (le : LsE) : Prop where
  lv : plv es ys k = (L : Int) + 1
  el : lsF es (pid es ys k) = le
  vl : lvs es vs (pid es ys k) = ls
  s : Sl w 4 lvC le.A le.n ls
  c : le.n ≤ le.c
  L : L < le.n
  n9 : le.n ≤ 9
  cl : clE ls = 0
  ln : ls.length = le.n
  r0 : 0 ≤ prs es ys k
  r1 : prs es ys k ≤ 32767
  id : okZ (pid es ys k)
  isin : pid es ys k ∈ idsL es
theorem DocR.num {w : World} {A : Option Addr} {m : Nat} {xs : List It} {ys : List Fi} {LA : Option Addr} {ln : Nat} {es : List LsE} {vs : List (List Lv)} (h : DocR w A m xs ys LA ln es vs) {k : Nat} (hk : k < m) (hk2 : (gFi ys k).kind = 2) (hp : pid es ys k ≠ 0) : ∃ L ls le, Numd w es vs ys k L ls le := by
  have hpk := (h.pr k hk hk2).ck
  have v3 := val33 hpk
  have v4 := val34 hpk
  have v5 := val35 hpk
  have hob : ofB es (valV (gFi ys k).ps 33) = true := by
    cases hb : ofB es (valV (gFi ys k).ps 33)
    · exact absurd (show pid es ys k = 0 by unfold pid of1; rw [hb]; rfl) hp
    · rfl
  have hid : pid es ys k = valV (gFi ys k).ps 33 := by unfold pid of1; rw [hob]; rfl
  have hin : valV (gFi ys k).ps 33 ∈ idsL es := by unfold ofB at hob; simp only [Bool.and_eq_true, decide_eq_true_eq] at hob; exact hob.2
  have hix : (idsL es).idxOf (valV (gFi ys k).ps 33) < ln := by
    have := List.idxOf_lt_length_iff.2 hin
    rw [idsL_len, h.ls.l.len] at this
    exact this
  have hcl := h.cl _ hix
  have hs := h.ls.v _ hix
  have h9 := clE_len hcl
  have hln := hs.len
  refine ⟨(plv es ys k - 1).toNat, _, _, ?_, rfl, rfl, ?_, ?_, ?_, ?_, ?_, ?_, ?_, ?_, ?_, ?_⟩
  · have : plv es ys k = min (valV (gFi ys k).ps 34) ((lsF es (valV (gFi ys k).ps 33)).n : Nat) := by unfold plv of2; rw [hob]; rfl
    have hn : (lsF es (valV (gFi ys k).ps 33)).n = (gE es ((idsL es).idxOf (valV (gFi ys k).ps 33))).n := rfl
    rw [hn] at this
    omega
  · rw [hid]; exact hs
  · rw [hid]; exact h.ls.c _ hix
  · have : plv es ys k = min (valV (gFi ys k).ps 34) ((lsF es (valV (gFi ys k).ps 33)).n : Nat) := by unfold plv of2; rw [hob]; rfl
    rw [hid]
    have hn : (lsF es (valV (gFi ys k).ps 33)).n = (gE es ((idsL es).idxOf (valV (gFi ys k).ps 33))).n := rfl
    rw [hn] at this ⊢
    omega
  · rw [hid]
    have hn : (lsF es (valV (gFi ys k).ps 33)).n = (gE es ((idsL es).idxOf (valV (gFi ys k).ps 33))).n := rfl
    rw [hn]; omega
  · rw [hid]; exact hcl
  · rw [hid]; exact hln
  · unfold prs of3; rw [hob]; exact v5.1
  · unfold prs of3; rw [hob]; exact v5.2
  · rw [hid]; unfold okZ; omega
  · rw [hid]; exact hin
end Go.Proofs.YthbodpjkckminaaGreatDoor

namespace Go.Proofs.YthbodpjkckminaaGreatDoor
open Go.RowKit Go.Maps

section
variable {P : Program} {ops : Array Oper} {Q : Exit → Act → World → Prop} {md : Region.Mode} {S : World → Prop} {fuel : Nat} {listed : Array Bool} {a : Act} {w : World} {o : Oper} {α : Type} {s : Nat} {enc : α → List Value} {A : Option Addr} {n c : Nat} {xs : List α} {B : Nat} {e : TypeId} {t : TypeId} {b : Nat}
/-- 's = append(s, x)' in a region that draws its order. -/
theorem hx_pushW (i : Nat) (d : Option Tmp) (T : Elem P t e s b) (sx ox : Operand) (hi : ops[i]? = some o) (hwt : Region.wanted o (yielded ops a.tmps) = true) (hd : o.dst = d)
    (ho : o.op = .call { callee := .builtin .append, args := #[sx, ox], argTypes := #[t, t] })
    (hs : a.eval sx = .slice A n c) (g : Nat) (hx : a.eval ox = .slice (some ⟨g, 0, none⟩) 1 1) (hown : Own w B e s enc A n c xs) (x : α) (ws : World)
    (hw : w = ws.alloc (.cells (enc x).toArray e)) (hg : g = ws.heap.size) (h1 : ∀ u ∈ enc x, u.oneCell' = true) (hl : (enc x).length = s)
    (hn : (n + 1) * b ≤ 140737488355328 ∧ n + 1 ≤ maxLen) (hB : B ≤ w.heap.size)
    (h : ∀ A' c' w', Own w' B e s enc A' (n + 1) c' (xs ++ [x]) → w.grownBy w' (blk A) → S w' ∧ wpAnyH P md ops Q S fuel (listed.setIfInBounds i true) (a.put d (.slice A' (n + 1) c')) w') : StepH P md ops Q S fuel listed a w i := by
  refine hx_wp i hi hwt ?_
  obtain ⟨ht, ti, z, hti, hz, hsz, hb, hzs, hs0⟩ := T
  subst hg
  obtain ⟨v', w', hr, h2, h3, _, _⟩ := run_append_own_at (P := P) w B t o.type e ti z s b ht hti hz hsz hb hzs hs0 (.slice A n c) n (xs.flatMap enc) hown.row ⟨ws.heap.size, 0, none⟩ 1 1 (enc x) (by omega) (fun j u hu => by
    subst hw
    exact World.news_of_block (w := ws.alloc (.cells (enc x).toArray e)) (B := ws.heap.size) (cs := (enc x).toArray) (t := e) (fr := (0, 0)) (heap_alloc_new ws _) j u (by simpa using hu)) h1 hn.2 hn.1 hB
  unfold Oper.wp execOp
  simp only [ho, resolve, invoke, builtin, Sem.run_bind, Sem.run_pure, Result.andThen_ok, List.map_toArray, List.map_cons, List.map_nil, hs, hx, hr]
  obtain ⟨g', cap, hv, _, _⟩ := h2.form (by omega)
  subst hv
  rw [blk_own] at h3
  subst hd
  exact h (some ⟨g', 0, none⟩) cap w' ⟨by rw [List.length_append, hown.len]; rfl, by rw [List.flatMap_append]; simpa using h2⟩ h3
end
structure RnW (w : World) (B p1 p2 p3 b N : Nat) (A : Option Addr) (m c : Nat) (LA : Option Addr) (ln lc : Nat) (f : Int → Cn) (AP : Option Addr) (np cp : Nat) (ps : List Bk) (AE : Option Addr) (ne ce : Nat) (es : List En) (v : World) : Prop where
  b1 : Blk v p1 63 #[.slice A m c, .slice none 0 0, .int .i64 0, .int .i64 0, .slice none 0 0, .slice none 0 0, .slice none 0 0, .slice none 0 0, .slice LA ln lc, .slice none 0 0, .slice none 0 0]
  b2 : Blk v p2 118 #[.map none, .slice none 0 0, .slice none 0 0]
  b3 : Blk v p3 118 #[.map (some b), .slice AP np cp, .slice AE ne ce]
  ms : Ms v b N f
  op : Own v B 128 5 plC AP np cp ps
  oe : Own v B 73 6 enC AE ne ce es
  l1 : w.heap.size ≤ p1
  l2 : w.heap.size ≤ p2
  l3 : w.heap.size ≤ p3
  lb : w.heap.size ≤ b
  n23 : p2 ≠ p3
  bel : Below w.heap.size w v
  hB : w.heap.size ≤ B
  sB : B ≤ v.heap.size
theorem Slb.keepAny {α : Type} {w w' : World} {s : Nat} {enc : α → List Value} {A : Option Addr} {n : Nat} {row : Option Nat} {xs : List α} (h : Slb w s enc A n xs) (hg : w.grownBy w' row) (hp : 0 < n → ∀ ad, A = some ad → some ad.block ≠ row) : Slb w' s enc A n xs :=
  ⟨h.len, fun hn => by
    obtain ⟨g, o, e, hgl, hc⟩ := h.rd hn
    have hb := hg.block g hgl (hp hn _ e)
    exact ⟨g, o, e, Nat.lt_of_lt_of_le hgl hg.size, fun i x hx j u hu => (World.cell?_of_block (a := ⟨g, o + i * s + j, none⟩) hb).trans (hc i x hx j u hu)⟩⟩
section
variable {w : World} {B p1 p2 p3 b N : Nat} {A : Option Addr} {m c : Nat} {LA : Option Addr} {ln lc : Nat} {f : Int → Cn} {AP : Option Addr} {np cp : Nat} {ps : List Bk} {AE : Option Addr} {ne ce : Nat} {es : List En} {v v' : World}
theorem RnW.below (h : RnW w B p1 p2 p3 b N A m c LA ln lc f AP np cp ps AE ne ce es v) (hb : Below v.heap.size v v') : RnW w B p1 p2 p3 b N A m c LA ln lc f AP np cp ps AE ne ce es v' :=
  ⟨h.b1.below hb, h.b2.below hb, h.b3.below hb, h.ms.below hb, h.op.below hb, h.oe.below hb, h.l1, h.l2, h.l3, h.lb, h.n23, below_trans' h.bel h.bel.size hb, h.hB, Nat.le_trans h.sB hb.size⟩
theorem RnW.mapped (h : RnW w B p1 p2 p3 b N A m c LA ln lc f AP np cp ps AE ne ce es v) {N' : Nat} {f' : Int → Cn} (hm : Ms v' b N' f') (hg : v.grownBy v' (some b)) : RnW w B p1 p2 p3 b N' A m c LA ln lc f' AP np cp ps AE ne ce es v' :=
  ⟨h.b1.keep hg (h.ms.ne_cells h.b1), h.b2.keep hg (h.ms.ne_cells h.b2), h.b3.keep hg (h.ms.ne_cells h.b3), hm,
    h.op.keep hg (fun k hk e => by cases hk; obtain ⟨cur, hc⟩ := h.op.heap_at e; exact h.ms.ne_cells hc rfl),
    h.oe.keep hg (fun k hk e => by cases hk; obtain ⟨cur, hc⟩ := h.oe.heap_at e; exact h.ms.ne_cells hc rfl),
    h.l1, h.l2, h.l3, h.lb, h.n23, h.bel.grown hg h.bel.size (fun k e => by cases e; exact h.lb), h.hB, Nat.le_trans h.sB hg.size⟩
/-- a place is appended, and the slice stored. -/
theorem RnW.place (h : RnW w B p1 p2 p3 b N A m c LA ln lc f AP np cp ps AE ne ce es v) {x : Bk} {AP' : Option Addr} {cp' : Nat} (ho : Own v' B 128 5 plC AP' (np + 1) cp' (ps ++ [x])) (hg : (v.alloc (.cells (plC x).toArray 128)).grownBy v' (blk AP)) :
    RnW w B p1 p2 p3 b N A m c LA ln lc f AP' (np + 1) cp' (ps ++ [x]) AE ne ce es (v'.setCell ⟨p3, 1, none⟩ (.slice AP' (np + 1) cp')) ∧ Blk v' p3 118 #[.map (some b), .slice AP np cp, .slice AE ne ce]
      ∧ ∀ q cs t, t ≠ 128 → t ≠ 118 → Blk v q t cs → Blk (v'.setCell ⟨p3, 1, none⟩ (.slice AP' (np + 1) cp')) q t cs := by
  have hal := alloc1 v (.cells (plC x).toArray 128)
  have H := h.below hal
  have y1 := H.b1.keep hg (fun e => H.op.ne_blk H.b1 (by decide) e)
  have y2 := H.b2.keep hg (fun e => H.op.ne_blk H.b2 (by decide) e)
  have y3 := H.b3.keep hg (fun e => H.op.ne_blk H.b3 (by decide) e)
  have ym := H.ms.keep hg (fun e => by obtain ⟨cur, hc⟩ := H.op.heap_at e.symm; exact H.ms.ne_cells hc rfl)
  have ye := H.oe.keep hg (fun k hk => H.oe.apart_ty' H.op (by decide) k hk)
  have yb : Below w.heap.size w v' := H.bel.grown hg H.bel.size (fun k e => Nat.le_trans h.hB (H.op.lt k e).1)
  have hG := gset v' p3 1 (.slice AP' (np + 1) cp')
  refine ⟨⟨y1.keep hG (y3.ne_ty y1 (by decide)), y2.keep hG (by have := h.n23; simp; omega), y3.set_ 1 _, ym.keep hG (ym.ne_cells y3), ho.keep hG (fun k hk e => by cases hk; exact ho.ne_blk y3 (by decide) e), ye.keep hG (fun k hk e => by cases hk; exact ye.ne_blk y3 (by decide) e), h.l1, h.l2, h.l3, h.lb, h.n23, yb.setCell (p := ⟨p3, 1, none⟩) h.l3 _, h.hB, Nat.le_trans H.sB (Nat.le_trans hg.size hG.size)⟩, y3, ?_⟩
  intro q cs t ht1 ht2 hq
  have z := (hq.alloc (.cells (plC x).toArray 128)).keep hg (fun e => H.op.ne_blk (hq.alloc _) ht1 e)
  exact z.keep hG (y3.ne_ty z (Ne.symm ht2))
/-- an entry is appended, and the slice stored. -/
theorem RnW.entry (h : RnW w B p1 p2 p3 b N A m c LA ln lc f AP np cp ps AE ne ce es v) {x : En} {AE' : Option Addr} {ce' : Nat} (ho : Own v' B 73 6 enC AE' (ne + 1) ce' (es ++ [x])) (hg : (v.alloc (.cells (enC x).toArray 73)).grownBy v' (blk AE)) :
    RnW w B p1 p2 p3 b N A m c LA ln lc f AP np cp ps AE' (ne + 1) ce' (es ++ [x]) (v'.setCell ⟨p3, 2, none⟩ (.slice AE' (ne + 1) ce')) ∧ Blk v' p3 118 #[.map (some b), .slice AP np cp, .slice AE ne ce]
      ∧ ∀ q cs t, t ≠ 73 → t ≠ 118 → Blk v q t cs → Blk v' q t cs ∧ Blk (v'.setCell ⟨p3, 2, none⟩ (.slice AE' (ne + 1) ce')) q t cs := by
  have hal := alloc1 v (.cells (enC x).toArray 73)
  have H := h.below hal
  have y1 := H.b1.keep hg (fun e => H.oe.ne_blk H.b1 (by decide) e)
  have y2 := H.b2.keep hg (fun e => H.oe.ne_blk H.b2 (by decide) e)
  have y3 := H.b3.keep hg (fun e => H.oe.ne_blk H.b3 (by decide) e)
  have ym := H.ms.keep hg (fun e => by obtain ⟨cur, hc⟩ := H.oe.heap_at e.symm; exact H.ms.ne_cells hc rfl)
  have yp := H.op.keep hg (fun k hk => H.op.apart_ty' H.oe (by decide) k hk)
  have yb : Below w.heap.size w v' := H.bel.grown hg H.bel.size (fun k e => Nat.le_trans h.hB (H.oe.lt k e).1)
  have hG := gset v' p3 2 (.slice AE' (ne + 1) ce')
  refine ⟨⟨y1.keep hG (y3.ne_ty y1 (by decide)), y2.keep hG (by have := h.n23; simp; omega), y3.set_ 2 _, ym.keep hG (ym.ne_cells y3), yp.keep hG (fun k hk e => by cases hk; exact yp.ne_blk y3 (by decide) e), ho.keep hG (fun k hk e => by cases hk; exact ho.ne_blk y3 (by decide) e), h.l1, h.l2, h.l3, h.lb, h.n23, yb.setCell (p := ⟨p3, 2, none⟩) h.l3 _, h.hB, Nat.le_trans H.sB (Nat.le_trans hg.size hG.size)⟩, y3, ?_⟩
  intro q cs t ht1 ht2 hq
  have z := (hq.alloc (.cells (enC x).toArray 73)).keep hg (fun e => H.oe.ne_blk (hq.alloc _) ht1 e)
  exact ⟨z, z.keep hG (y3.ne_ty z (Ne.symm ht2))⟩
end
end Go.Proofs.YthbodpjkckminaaGreatDoor
