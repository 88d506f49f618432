/- the law's of. the law NumberingOf, walked. Settings by value and properties, opened. Settings by value, opened. -/
import Derived.Test.YthbodpjkckminaaGreatDoorm23
import Derived.Test.YthbodpjkckminaaGreatDoorm22
import Derived.SizedLaws
namespace Go.Proofs.YthbodpjkckminaaGreatDoor
open Go.RowKit Go.Sort

set_option maxRecDepth 100000 in
set_option maxHeartbeats 4000000 in
theorem lof_any (a1 a2 a3 : SV) (LA : Option Addr) (ln lc : Nat) (es : List LsE) (AE AO : Option Addr) (ne ce no co : Nat) (eff own : List Pr) (w : World) (ha : Sl w 2 lsC LA ln es) (hn : ln ≤ 1000000) (he : Sl w 2 prC AE ne eff) (ho : Sl w 2 prC AO no own) (hne : ne ≤ 1000000) (hno : no ≤ 1000000) (hse : (keyL eff).Pairwise (· ≤ ·)) (hso : (keyL own).Pairwise (· ≤ ·)) :
    Calls Tryz.prog 17 #[.agg (stL a1 LA ln lc a2 a3).toArray, .slice AE ne ce, .slice AO no co] w (OfPost w (of1 es eff) (of2 es eff) (of3 es eff own)) := by
  have hil := idsL_len es
  have hln := ha.len
  have N3 := Blk.new w 46 (stL a1 LA ln lc a2 a3).toArray
  have hb3 := alloc1 w (.cells (stL a1 LA ln lc a2 a3).toArray 46)
  have cV := value_any AE ne ce eff 33 _ (he.below hb3) hne hse
  have cL := Lib.hid (fun W x (hb : Below w.heap.size w W) => lfindS_any a1 a2 a3 LA ln lc es x W (ha.below hb) hn)
  have cV2 := Lib.hid (fun W (hb : Below w.heap.size w W) => value_any AE ne ce eff 34 W (he.below hb) hne hse)
  have cV3 := Lib.hid (fun W (hb : Below w.heap.size w W) => value_any AO no co own 35 W (ho.below hb) hno hso)
  have h1 : of1 es eff = if ofB es (valV eff 33) = true then valV eff 33 else 0 := rfl
  have h2 : of2 es eff = if ofB es (valV eff 33) = true then min (valV eff 34) ((lsF es (valV eff 33)).n : Nat) else 0 := rfl
  have h3 : of3 es eff own = if ofB es (valV eff 33) = true then valV own 35 else 0 := rfl
  have hB : ofB es (valV eff 33) = (decide (valV eff 33 ≠ 0) && decide (valV eff 33 ∈ idsL es)) := rfl
  obtain ⟨A1, n1, c1⟩ := a1
  obtain ⟨A2, n2, c2⟩ := a2
  obtain ⟨A3, n3, c3⟩ := a3
  rw [show (stL ⟨A1, n1, c1⟩ LA ln lc ⟨A2, n2, c2⟩ ⟨A3, n3, c3⟩).toArray = #[.slice A1 n1 c1, .slice LA ln lc, .slice A2 n2 c2, .slice A3 n3 c3] from rfl] at *
  generalize of1 es eff = o1 at *
  generalize of2 es eff = o2 at *
  generalize of3 es eff own = o3 at *
  generalize ofB es (valV eff 33) = ob at *
  generalize valV eff 33 = id at *
  generalize valV eff 34 = lv at *
  generalize valV own 35 = rs at *
  have cL := Lib.hid (fun W (hb : Below w.heap.size w W) => cL.out W id hb)
  have HLS := Lib.hid (fun W (hb : Below w.heap.size w W) k hk => (ha.below hb).ls (k := k) hk)
  have hfd : fdP (idsL es) id = if id ∈ idsL es then (((idsL es).idxOf id : Nat) : Int) else -1 := rfl
  have hlf : lsF es id = gE es ((idsL es).idxOf id) := rfl
  have hixl : id ∈ idsL es → (idsL es).idxOf id < ln := fun h => by have := List.idxOf_lt_length_iff.2 h; omega
  rw [hlf] at h2
  have HP := Lib.hid (show ∀ e w', (e = .returned (.tuple #[.int .i64 o1, .int .i64 o2, .int .i64 o3]) ∧ Below w.heap.size w w') → OfPost w o1 o2 o3 e w' from fun _ _ h => h)
  have H1 := Lib.hid h1
  have H2 := Lib.hid h2
  have H3 := Lib.hid h3
  have HB := Lib.hid hB
  clear h1 h2 h3 hB hlf hil hln ha
  obtain ⟨p3, hp3⟩ : ∃ p, p = w.heap.size := ⟨_, rfl⟩
  rw [← hp3] at N3
  go_enter Tryz.func17, Tryz.ntmps17
  go_upto_region 1 with fail
  rw [← hp3]
  generalize w.alloc (.cells #[.slice A1 n1 c1, .slice LA ln lc, .slice A2 n2 c2, .slice A3 n3 c3] 46) = w1 at *
  clear hp3
  go_upto_region 2 with (go_at_call 38; refine cV.mono ?_; rintro e w2 ⟨rfl, hb2⟩)
  have N4 := N3.below hb2
  have hb2 := below_trans' hb3 hb3.size hb2
  have q0 := N4.cell 0 rfl
  have q1 := N4.cell 1 rfl
  have q2 := N4.cell 2 rfl
  have q3 := N4.cell 3 rfl
  have cL := cL.out _ hb2
  by_cases hin : id ∈ idsL es
  · have hk := hixl hin
    rw [hfd, if_pos hin] at cL
    have HIN := Lib.hid (show decide (id ∈ idsL es) = true from decide_eq_true hin)
    rw [HIN.out] at HB
    clear hfd hixl hin HIN
    generalize (idsL es).idxOf id = k at *
    have hk' : (k : Int) < ln := by omega
    go_upto_region 3 with (go_at_call 40; refine cL.mono ?_; rintro e w5 ⟨rfl, hb5⟩)
    have N4 := N4.below hb5
    have hb5 := below_trans' hb2 hb2.size hb5
    obtain ⟨ad, e, hl2, k0, k1⟩ := HLS.out w5 hb5 k hk
    subst e
    generalize gE es k = le at *
    obtain ⟨lid, A9, n9, c9⟩ := le
    simp only at k0 k1
    clear q0 q1 q2 q3 N3 cL hb2 hb3 cV HLS
    by_cases hz : id = 0
    · have HB := Lib.hid (HB.out.trans (by rw [hz]; rfl : _ = false))
      rw [HB.out] at H1 H2 H3
      subst hz
      go_wp2_with fail
      go_ret3
      exact HP.out _ _ ⟨by rw [H1.out, H2.out, H3.out]; rfl, hb5⟩
    · have hzb : (id == 0) = false := beq_eq_false_iff_ne.2 hz
      have HB := Lib.hid (show ob = true by rw [HB.out]; simp [hz])
      rw [HB.out] at H1 H2 H3
      clear hz
      have cV2 := fun d os => Calls.regrown_of (cV2.out (grow (redrawn w5 d) os) (hb5.trans ((below_regrown w5 d os).mono hb5.size)))
      have cV3 := fun d os => Calls.regrown_of (cV3.out (grow (redrawn w5 d) os) (hb5.trans ((below_regrown w5 d os).mono hb5.size)))
      have q1 := fun d os => cell_regrown (N4.cell 1 rfl) d os
      have k1 := fun d os => cell_regrown k1 d os
      go_upto_region 5 with fail
      refine wp_region_quiet_below (by kernel_rfl) (by kernel_rfl) ?_
      repeat (quiet_step (first | (go_at_call 38; with_reducible exact cV2 _ _) | (go_at_call 38; with_reducible exact cV3 _ _)))
      refine wpQuiet_nil ?_
      intro _ hw'
      obtain ⟨⟨dq, osq⟩, hw''⟩ := hw'
      subst hw''
      go_wp2_with fail
      go_ret3
      exact HP.out _ _ ⟨by rw [H1.out, H2.out, H3.out]; rfl, hb5.trans ((below_regrown w5 dq osq).mono hb5.size)⟩
  · rw [hfd, if_neg hin] at cL
    have HB := Lib.hid (show ob = false by rw [HB.out, decide_eq_false hin, Bool.and_false])
    rw [HB.out] at H1 H2 H3
    clear hfd hixl hin
    go_upto_region 3 with (go_at_call 40; refine cL.mono ?_; rintro e w5 ⟨rfl, hb5⟩)
    have hb5 := below_trans' hb2 hb2.size hb5
    clear q0 q1 q2 q3 N3 cL hb2 hb3 cV HLS
    by_cases hz : id = 0
    · subst hz
      go_wp2_with fail
      go_ret3
      exact HP.out _ _ ⟨by rw [H1.out, H2.out, H3.out]; rfl, hb5⟩
    · have hzb : (id == 0) = false := beq_eq_false_iff_ne.2 hz
      clear hz
      go_wp2_with fail
      go_ret3
      exact HP.out _ _ ⟨by rw [H1.out, H2.out, H3.out]; rfl, hb5⟩
end Go.Proofs.YthbodpjkckminaaGreatDoor

namespace Go.Proofs.YthbodpjkckminaaGreatDoor
open Go.RowKit Go.Sort

theorem kyN_lim : ∀ x ∈ kyN, 0 ≤ x ∧ x ≤ 1000 := by
  have h : (kyN.all fun x => decide (0 ≤ x ∧ x ≤ 1000)) = true := by kernel_rfl
  intro x hx
  exact of_decide_eq_true (List.all_eq_true.1 h x hx)
theorem pckE_len {el : Int} {ps : List Pr} (h : pckE el ps = 0) : ps.length ≤ 1001 := by
  have hz := (pckE_zero h).2
  have hlim : ∀ t, t < ps.length → 0 ≤ (gP2 ps t).key ∧ (gP2 ps t).key ≤ 1000 := fun t ht => by
    have := (c1E_zero (hz t ht)).1
    unfold fitsB at this
    rw [Bool.and_eq_true] at this
    exact kyN_lim _ (List.contains_iff_mem.1 this.1)
  have hk : ∀ t, t < ps.length → (t : Int) ≤ (gP2 ps t).key := by
    intro t
    induction t with
    | zero => intro ht; exact (hlim 0 ht).1
    | succ t ih =>
      intro ht
      have h1 := ih (by omega)
      have h2 := (c1E_zero (hz (t + 1) ht)).2.1 (by omega)
      rw [Nat.add_sub_cancel] at h2
      omega
  by_cases h0 : ps.length = 0
  · omega
  · have h1 := hk (ps.length - 1) (by omega)
    have h2 := hlim (ps.length - 1) (by omega)
    omega
def boxS (A1 A A2 A3 : Option Addr) (n1 n n2 n3 c1 c c2 c3 : Nat) : Array Value := #[.slice A1 n1 c1, .slice A n c, .slice A2 n2 c2, .slice A3 n3 c3]
set_option maxHeartbeats 16000000 in
set_option maxRecDepth 100000 in
theorem of_law (A1 A A2 A3 : Option Addr) (n1 n n2 n3 c1 c c2 c3 : Nat) (es : List LsE) (vs : List (List Lv)) (AE AO : Option Addr) (ne ce no co : Nat) (eff own : List Pr) (w : World) (hg : Gl w) (ha : LsT w A n es vs) (he : Sl w 2 prC AE ne eff) (ho : Sl w 2 prC AO no own) (hne : ne ≤ 9223372036854775807) (hno : no ≤ 9223372036854775807) (hn : n ≤ 9223372036854775807) (hs : n1 + n2 + n3 ≤ 9223372036854775807) :
    Calls Tryz.prog 4 #[.agg (boxS A1 A A2 A3 n1 n n2 n3 c1 c c2 c3), .slice AE ne ce, .slice AO no co] w (StPost w) := by
  have N3 := Blk.new w 46 (boxS A1 A A2 A3 n1 n n2 n3 c1 c c2 c3)
  have hb3 := alloc1 w (.cells (boxS A1 A A2 A3 n1 n n2 n3 c1 c c2 c3) 46)
  have cK := Lib.hid (fun W (hb : Below w.heap.size w W) => known_any W (hg.below hb))
  have cC := Lib.hid (fun W (hb : Below w.heap.size w W) (h : n ≤ 64) => ckSettings_any A1 A2 A3 A c1 c2 c3 n c es vs W (ha.below hb) h)
  have cE := Lib.hid (fun W (hb : Below w.heap.size w W) => pcheck_any 2 AE ne ce eff W (he.below hb) hne)
  have cO := Lib.hid (fun W (hb : Below w.heap.size w W) => pcheck_any 2 AO no co own W (ho.below hb) hno)
  have hle := he.len
  have hlo := ho.len
  have cF := Lib.hid (fun W (hb : Below w.heap.size w W) (h5 : n ≤ 5) (h1 : pckE 2 eff = 0) (h2 : pckE 2 own = 0) => of_any0 ⟨A1, n1, c1⟩ ⟨A2, n2, c2⟩ ⟨A3, n3, c3⟩ A n c es AE AO ne ce no co eff own W (ha.below hb).l (by omega) (he.below hb) (ho.below hb) (by have := pckE_len h1; omega) (by have := pckE_len h2; omega) (pckE_sorted h1) (pckE_sorted h2))
  have cG := Lib.hid (fun W (hb : Below w.heap.size w W) (h5 : n ≤ 5) (h1 : pckE 2 eff = 0) (h2 : pckE 2 own = 0) => lof_any ⟨A1, n1, c1⟩ ⟨A2, n2, c2⟩ ⟨A3, n3, c3⟩ A n c es AE AO ne ce no co eff own W (ha.below hb).l (by omega) (he.below hb) (ho.below hb) (by have := pckE_len h1; omega) (by have := pckE_len h2; omega) (pckE_sorted h1) (pckE_sorted h2))
  have HP := Lib.hid (show ∀ e w', (e = .returned (.bool true) ∧ Below w.heap.size w w') → StPost w e w' from fun _ _ h => h)
  unfold boxS at *
  rw [show (stL ⟨A1, n1, c1⟩ A n c ⟨A2, n2, c2⟩ ⟨A3, n3, c3⟩).toArray = #[.slice A1 n1 c1, .slice A n c, .slice A2 n2 c2, .slice A3 n3 c3] from rfl] at cF cG
  unfold OfPost at cF cG
  generalize of1 es eff = o1 at *
  generalize of2 es eff = o2 at *
  generalize of3 es eff own = o3 at *
  obtain ⟨r1, hr1⟩ : ∃ r, r = pckE 2 eff := ⟨_, rfl⟩
  obtain ⟨r2, hr2⟩ : ∃ r, r = pckE 2 own := ⟨_, rfl⟩
  rw [← hr1] at cE cF cG
  rw [← hr2] at cO cF cG
  clear hr1 hr2
  clear hle hlo ha he ho hne hno
  obtain ⟨p3, hp3⟩ : ∃ p, p = w.heap.size := ⟨_, rfl⟩
  rw [← hp3] at N3
  go_enter Tryz.func4, Tryz.ntmps4
  go_upto_region 1 with fail
  rw [← hp3]
  generalize w.alloc (.cells #[.slice A1 n1 c1, .slice A n c, .slice A2 n2 c2, .slice A3 n3 c3] 46) = w1 at *
  clear hp3
  have cK1 := cK.out w1 hb3
  have HK := Lib.hid (show ∀ W, Below w1.heap.size w1 W → W.cell? ⟨p3, 0, none⟩ = some (.slice A1 n1 c1) ∧ W.cell? ⟨p3, 1, none⟩ = some (.slice A n c) ∧ W.cell? ⟨p3, 2, none⟩ = some (.slice A2 n2 c2) ∧ W.cell? ⟨p3, 3, none⟩ = some (.slice A3 n3 c3) from fun W hb => ⟨(N3.below hb).cell 0 rfl, (N3.below hb).cell 1 rfl, (N3.below hb).cell 2 rfl, (N3.below hb).cell 3 rfl⟩)
  obtain ⟨s1, hs1⟩ : ∃ s, s = w1.heap.size := ⟨_, rfl⟩
  have HB3 := Lib.hid hb3
  clear N3 hb3
  by_cases h5 : 5 < n
  · have h5' : (5 : Int) < n := by omega
    go_upto_region 2 with (go_at_call 8; refine cK1.mono ?_; rintro e w2 ⟨rfl, hb2⟩; obtain ⟨k0, k1, k2, k3⟩ := HK.out w2 hb2)
    have hb2 := below_trans' HB3.out HB3.out.size hb2
    have cK2 := cK.out w2 hb2
    go_wp2_with (go_at_call 8; refine cK2.mono ?_; rintro e w3 ⟨rfl, hb3⟩)
    go_ret
    exact HP.out _ _ ⟨rfl, below_trans' hb2 hb2.size hb3⟩
  have h5' : ¬ (5 : Int) < n := by omega
  by_cases h0 : 0 < n1 + n2 + n3
  · have h0' : (0 : Int) < n1 + n2 + n3 := by omega
    go_upto_region 2 with (go_at_call 8; refine cK1.mono ?_; rintro e w2 ⟨rfl, hb2⟩; obtain ⟨k0, k1, k2, k3⟩ := HK.out w2 hb2)
    have hb2 := below_trans' HB3.out HB3.out.size hb2
    have cK2 := cK.out w2 hb2
    go_wp2_with (go_at_call 8; refine cK2.mono ?_; rintro e w3 ⟨rfl, hb3⟩)
    go_ret
    exact HP.out _ _ ⟨rfl, below_trans' hb2 hb2.size hb3⟩
  obtain ⟨rfl, rfl, rfl⟩ : n1 = 0 ∧ n2 = 0 ∧ n3 = 0 := ⟨by omega, by omega, by omega⟩
  clear h0 hs
  have R1 := Lib.hid (Below.refl w1.heap.size w1)
  go_upto_region 2 with (go_at_call 8; refine cK1.mono ?_; rintro e w2 ⟨rfl, h9⟩; have hw := h9; have hb := below_trans' HB3.out HB3.out.size hw; clear h9; obtain ⟨k0, k1, k2, k3⟩ := HK.out _ hw)
  go_at_call 14
  refine (cC.out _ hb (by omega)).mono ?_
  rintro e w3 ⟨r, rfl, hq, h9⟩
  clear hq
  have hw := below_trans' hw hw.size h9
  have hb := below_trans' HB3.out HB3.out.size hw
  clear k0 k1 k2 k3 h9
  obtain ⟨k0, k1, k2, k3⟩ := HK.out _ hw
  by_cases hr : r = 0
  rotate_left
  · have hrb : (r == 0) = false := beq_eq_false_iff_ne.2 hr
    have hrn : (r != 0) = true := bne_iff_ne.2 hr
    clear cC cE cO cF cG HK
    simp only []
    go_at_K
    go_upto_region 2 with fail
    go_wp2_with (go_at_call 8; refine (cK.out _ hb).mono ?_; rintro e w9 ⟨rfl, hb9⟩)
    go_ret
    exact HP.out _ _ ⟨rfl, below_trans' hb hb.size hb9⟩
    all_goals (exfalso; rename_i hx _ _; have hy := hx.2; rw [hrn] at hy; cases hy)
  subst hr
  simp only []
  go_at_K
  go_upto_region 2 with fail
  go_at_call 15
  refine (cE.out _ hb).mono ?_
  rintro e w4 ⟨rfl, h9⟩
  have hw := below_trans' hw hw.size h9
  have hb := below_trans' HB3.out HB3.out.size hw
  clear k0 k1 k2 k3 h9
  obtain ⟨k0, k1, k2, k3⟩ := HK.out _ hw
  by_cases hr : r1 = 0
  rotate_left
  · have hrb : (r1 == 0) = false := beq_eq_false_iff_ne.2 hr
    have hrn : (r1 != 0) = true := bne_iff_ne.2 hr
    clear cC cE cO cF cG HK
    simp only []
    go_at_K
    go_upto_region 2 with fail
    go_wp2_with (go_at_call 8; refine (cK.out _ hb).mono ?_; rintro e w9 ⟨rfl, hb9⟩)
    go_ret
    exact HP.out _ _ ⟨rfl, below_trans' hb hb.size hb9⟩
    all_goals (exfalso; rename_i hx _ _; have hy := hx.2; rw [hrn] at hy; cases hy)
  subst hr
  simp only []
  go_at_K
  go_upto_region 2 with fail
  go_at_call 15
  refine (cO.out _ hb).mono ?_
  rintro e w5 ⟨rfl, h9⟩
  have hw := below_trans' hw hw.size h9
  have hb := below_trans' HB3.out HB3.out.size hw
  clear k0 k1 k2 k3 h9
  obtain ⟨k0, k1, k2, k3⟩ := HK.out _ hw
  by_cases hr : r2 = 0
  rotate_left
  · have hrb : (r2 == 0) = false := beq_eq_false_iff_ne.2 hr
    have hrn : (r2 != 0) = true := bne_iff_ne.2 hr
    clear cC cE cO cF cG HK
    simp only []
    go_at_K
    go_upto_region 2 with fail
    go_wp2_with (go_at_call 8; refine (cK.out _ hb).mono ?_; rintro e w9 ⟨rfl, hb9⟩)
    go_ret
    exact HP.out _ _ ⟨rfl, below_trans' hb hb.size hb9⟩
    all_goals (exfalso; rename_i hx _ _; have hy := hx.2; rw [hrn] at hy; cases hy)
  subst hr
  simp only []
  go_at_K
  go_upto_region 2 with fail
  have hz1 : (0 : Int) = 0 := rfl
  have hz2 : (0 : Int) = 0 := rfl
  have cF := cF.out w5 hb (by omega) (by trivial) (by trivial)
  have cG := cG.out
  go_at_call 16
  refine cF.mono ?_
  rintro e w7 ⟨rfl, h9⟩
  have hw := below_trans' hw hw.size h9
  have hb := below_trans' HB3.out HB3.out.size hw
  clear k0 k1 k2 k3 h9
  obtain ⟨k0, k1, k2, k3⟩ := HK.out _ hw
  simp only []
  go_at_K
  have cG := cG w7 hb (by omega) (by trivial) (by trivial)
  have e1 : (o1 == o1) = true := beq_self_eq_true _
  have e2 : (o2 == o2) = true := beq_self_eq_true _
  have e3 : (o3 == o3) = true := beq_self_eq_true _
  go_wp2_with (go_at_call 17; refine cG.mono ?_; rintro e w8 ⟨rfl, h9⟩)
  have hw := below_trans' hw hw.size h9
  have hb := below_trans' HB3.out HB3.out.size hw
  go_ret
  exact HP.out _ _ ⟨rfl, hb⟩
end Go.Proofs.YthbodpjkckminaaGreatDoor

namespace Go.Proofs.YthbodpjkckminaaGreatDoor
open Go.ChangeShapes Go.WideShapes Go.ChangeAt Go.RowKit Go.Deep

section
variable {H : Type} {enc : TypeId × Value → H} {P : Program}
theorem slc_len {w : World} {t e : TypeId} {fuel : Nat} {cs : List Value} {x : DataW H × List MemPlace} (ht : P.underlying t = some (.slice e)) (hb : 0 < P.bytesOf e) (h : DataW.trod enc P w 0 (fun _ => true) true fuel t cs = some x) (hw : ∀ n ∈ x.1.weights P t, n ≤ reachBytes) :
    ∃ A n c, cs = [Value.slice A n c] ∧ n ≤ reachBytes := by
  rcases open_slice ht h with ⟨h0, _⟩ | ⟨a, n, c, m, k, D, Pl, hcs, _, hl, hm, hmm, hx, hi⟩
  · exact ⟨none, 0, 0, h0, Nat.zero_le _⟩
  · refine ⟨some a, n, c, hcs, ?_⟩
    have h1 := hw ((n + (m - n)) * P.bytesOf e) (by rw [hx]; simp [DataW.weights, ht])
    have h2 : n * 1 ≤ (n + (m - n)) * P.bytesOf e := Nat.mul_le_mul (by omega) hb
    omega
end
section
variable {H : Type} {enc : TypeId × Value → H}
set_option maxRecDepth 100000 in
theorem opens_pr (w : World) : Opens enc Tryz.prog w 91 prC (fun _ => True) := fun fuel cs x h => by
  obtain ⟨xs, n, _, _, hcl, hxl, hf⟩ := DataW.trod_struct Tryz.underlying91 h
  have hc2 : cs.length = 2 := hcl
  have f0 := hf 0 _ rfl
  have f1 := hf 1 _ rfl
  match cs, hc2 with
  | [a, b], _ =>
    match xs, hxl with
    | [y0, y1], _ =>
      obtain ⟨n0, e0, _, _⟩ := DataW.trod_int Tryz.underlying3 (show DataW.trod enc Tryz.prog w 0 (fun _ => true) true n 3 [a] = some y0 from f0)
      obtain ⟨n1, e1, _, _⟩ := DataW.trod_int Tryz.underlying3 (show DataW.trod enc Tryz.prog w 0 (fun _ => true) true n 3 [b] = some y1 from f1)
      simp only [List.cons.injEq, and_true] at e0 e1
      subst e0; subst e1
      exact ⟨⟨n0, n1⟩, rfl, trivial⟩
end
end Go.Proofs.YthbodpjkckminaaGreatDoor

namespace Go.Proofs.YthbodpjkckminaaGreatDoor
open Go.ChangeShapes Go.WideShapes Go.ChangeAt Go.RowKit Go.Deep

section
variable {H : Type} {enc : TypeId × Value → H}
set_option maxRecDepth 100000 in
theorem open_set {w : World} {v : Value} {d : DataW H} {p : List MemPlace} (hv : ∃ cs, v = .agg cs) (h : DataW.Trod enc Tryz.prog w 0 (fun _ => true) true 46 v d p) (hw : ∀ n ∈ d.weights Tryz.prog 46, n ≤ reachBytes) :
    ∃ (A1 A A2 A3 : Option Addr) (n1 n n2 n3 c1 c c2 c3 : Nat) (es : List LsE), v = .agg (boxS A1 A A2 A3 n1 n n2 n3 c1 c c2 c3) ∧ Sl w 2 lsC A n es ∧ (∀ e ∈ es, LsOk w e) ∧ n ≤ c ∧ c ≤ maxLen ∧ n1 ≤ reachBytes ∧ n2 ≤ reachBytes ∧ n3 ≤ reachBytes := by
  obtain ⟨cs, rfl⟩ := hv
  obtain ⟨fuel, hf0⟩ := h
  obtain ⟨xs, n, _, hx, hcl, hxl, hf⟩ := DataW.trod_struct Tryz.underlying46 hf0
  have hc2 : cs.toList.length = 4 := hcl
  have f0 := hf 0 _ rfl
  have f1 := hf 1 _ rfl
  have f2 := hf 2 _ rfl
  have f3 := hf 3 _ rfl
  obtain ⟨cl⟩ := cs
  match cl, hc2 with
  | [a, b, e, g], _ =>
    match xs, hxl with
    | [y0, y1, y2, y3], _ =>
      obtain rfl : d = .agg [y0.1, y1.1, y2.1, y3.1] := congrArg Prod.fst hx
      have hW : ∀ z, z ∈ y0.1.weights Tryz.prog 41 ++ (y1.1.weights Tryz.prog 42 ++ (y2.1.weights Tryz.prog 43 ++ (y3.1.weights Tryz.prog 44 ++ []))) → z ≤ reachBytes := fun z hz => hw z (by rw [DataW.weights, Tryz.underlying46]; exact hz)
      obtain ⟨A1, n1, c1, e1, k1⟩ := slc_len Tryz.underlying41 (of_decide_eq_true (by kernel_rfl)) (show DataW.trod enc Tryz.prog w 0 (fun _ => true) true n 41 [a] = some y0 from f0) (fun z hz => hW z (List.mem_append_left _ hz))
      obtain ⟨q, e0, h1, h2, _, ls, h3, h4⟩ := opens_slc Tryz.underlying42 (s := 2) (by kernel_rfl) (by omega) (opens_ls w) n [b] y1 (show DataW.trod enc Tryz.prog w 0 (fun _ => true) true n 42 [b] = some y1 from f1)
      obtain ⟨A2, n2, c2, e2, k2⟩ := slc_len Tryz.underlying43 (of_decide_eq_true (by kernel_rfl)) (show DataW.trod enc Tryz.prog w 0 (fun _ => true) true n 43 [e] = some y2 from f2) (fun z hz => hW z (List.mem_append_right _ (List.mem_append_right _ (List.mem_append_left _ hz))))
      obtain ⟨A3, n3, c3, e3, k3⟩ := slc_len Tryz.underlying44 (of_decide_eq_true (by kernel_rfl)) (show DataW.trod enc Tryz.prog w 0 (fun _ => true) true n 44 [g] = some y3 from f3) (fun z hz => hW z (List.mem_append_right _ (List.mem_append_right _ (List.mem_append_right _ (List.mem_append_left _ hz)))))
      simp only [List.cons.injEq, and_true] at e0 e1 e2 e3
      subst e0; subst e1; subst e2; subst e3
      exact ⟨A1, q.1, A2, A3, n1, q.2.1, n2, n3, c1, q.2.2, c2, c3, ls, rfl, h3, h4, h1, h2, k1, k2, k3⟩
end
end Go.Proofs.YthbodpjkckminaaGreatDoor
