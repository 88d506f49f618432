/- paragraph.At, parts, Own. document.walk, flows, of: the flows of a document whose body is a flat flow. document.flows, of: the flows of a document whose body is a flat flow. document.Flow: the flow of a document's body, copied. -/
import Derived.Test.YthbodpjkckminaaGreatDoorm15
namespace Go.Proofs.YthbodpjkckminaaGreatDoor
open Go.RowKit

/-- the paragraph that ends at an item. -/
def bkK (ys : List Fi) (k : Nat) : Bk := ⟨1, frK ys k, (k : Int) + 1, true⟩
theorem bkL_mem {ys : List Fi} {b : Bk} : ∀ {n : Nat}, b ∈ bkL ys n → ∃ k, k < n ∧ (gFi ys k).kind = 2 ∧ b = bkK ys k
  | 0, h => absurd h List.not_mem_nil
  | n + 1, h => by
    rw [bkL] at h
    by_cases hk : (gFi ys n).kind = 2
    · rw [if_pos hk] at h
      rcases List.mem_append.1 h with h | h
      · obtain ⟨k, h1, h2, h3⟩ := bkL_mem h
        exact ⟨k, by omega, h2, h3⟩
      · exact ⟨n, by omega, hk, List.mem_singleton.1 h⟩
    · rw [if_neg hk] at h
      obtain ⟨k, h1, h2, h3⟩ := bkL_mem h
      exact ⟨k, by omega, h2, h3⟩
theorem bkK_mem {ys : List Fi} {k n : Nat} (h : k < n) (hk : (gFi ys k).kind = 2) : bkK ys k ∈ bkL ys n := by
  obtain ⟨h1, h2⟩ := bkL_at ys h hk
  rw [show bkK ys k = gBk (bkL ys n) (bkL ys k).length from h1.symm]
  exact gBk_mem h2
def PtPost (w : World) (ys : List Fi) (k : Nat) (e : Ending) (w' : World) : Prop := ∃ (A1 : Option Addr) (n1 c1 : Nat) (A2 : Option Addr) (c2 : Nat) (zs : List It), e = .returned (.tuple #[.slice A1 n1 c1, .slice A2 1 c2, .int .i64 0]) ∧ Mk_ w' w.heap.size A2 1 c2 zs (sub ys k (k + 1)) ∧ Below w.heap.size w w'
set_option maxHeartbeats 4000000 in
set_option maxRecDepth 100000 in
theorem parts_any (A : Option Addr) (n c : Nat) (xs : List It) (ys : List Fi) (k : Nat) (w : World) (ha : Fl w A n xs ys) (hy : DocFl ys) (hk : k < n) (hk2 : (gFi ys k).kind = 2) :
    Calls Tryz.prog 118 #[.slice A n c, .agg (bkC4 (bkK ys k)).toArray] w (PtPost w ys k) := by
  have hly := ha.ly
  have hn : n ≤ 1000000 := by have := hy.fw.nf.ok.len; omega
  have hfr := frK_le ys k
  have hmem := bkK_mem (n := n) hk hk2
  have hbl := bkL_len ys n
  have N3 := Blk.new w 126 (bkC4 (bkK ys k)).toArray
  have hb3 := alloc1 w (.cells (bkC4 (bkK ys k)).toArray 126)
  have cB := Lib.hid (fun W (hW : Below w.heap.size w W) => pblocks_any A n c xs ys W (ha.below hW) hy)
  have cC := Lib.hid (fun W A' c' (h : Sl W 4 bkC4 A' (bkL ys n).length (bkL ys n)) => containsBk_any A' (bkL ys n).length c' (bkL ys n) (bkK ys k) W h (by omega) hmem)
  have cS1 := Lib.hid (fun W (hW : Below w.heap.size w W) => rslice_any A n c xs ys (frK ys k) k W (ha.below hW) hy.fw hfr (by omega))
  have cS2 := Lib.hid (fun W (hW : Below w.heap.size w W) => rslice_any A n c xs ys k (k + 1) W (ha.below hW) hy.fw (by omega) (by omega))
  have hs2 : (sub ys k (k + 1)).length = 1 := by rw [sub_len (by omega)]; omega
  rw [show (bkC4 (bkK ys k)).toArray = #[.int .i64 1, .int .i64 (frK ys k : Nat), .int .i64 ((k : Int) + 1), .bool true] from rfl] at N3 hb3 cC ⊢
  generalize bkL ys n = bs at *
  generalize (sub ys (frK ys k) k) = s1 at *
  generalize frK ys k = lo at *
  have hw1 : IntKind.i64.wrap ((k : Int) + 1 - 1) = (k : Int) := by rw [show (k : Int) + 1 - 1 = k by omega]; exact IntWalk.i64_in _ (by omega)
  have HP := Lib.hid (show ∀ e w', (∃ (A1 : Option Addr) (n1 c1 : Nat) (A2 : Option Addr) (c2 : Nat) (zs : List It), e = .returned (.tuple #[.slice A1 n1 c1, .slice A2 1 c2, .int .i64 0]) ∧ Mk_ w' w.heap.size A2 1 c2 zs (sub ys k (k + 1)) ∧ Below w.heap.size w w') → PtPost w ys k e w' from fun e w' h => h)
  clear hmem hbl
  go_enter Tryz.func118, Tryz.ntmps118
  go_upto_region 0 with fail
  go_cut [3, 4, 5, 6] (fun v3 v4 v5 v6 wx => ∃ p, v3 = .pointer (some ⟨p, 0, none⟩) ∧ v4 = .slice none 0 0 ∧ v5 = .slice none 0 0 ∧ v6 = .int .i64 0 ∧ Blk wx p 126 #[.int .i64 1, .int .i64 (lo : Nat), .int .i64 ((k : Int) + 1), .bool true] ∧ Below w.heap.size w wx)
  case first =>
    have HX := Lib.hid (And.intro N3 hb3)
    clear N3 hb3
    go_wp2_with fail
    go_meet
    case rel => exact ⟨_, rfl, rfl, rfl, rfl, HX.out.1, HX.out.2⟩
  case rest =>
  obtain ⟨p, rfl, rfl, rfl, rfl, B3, hbw⟩ := hcut
  clear N3 hb3
  have cB := cB.out _ hbw
  go_upto_region 4 with (go_at_call 149; refine cB.mono ?_; rintro e w4 ⟨AB, cb, rfl, oB, hb4⟩)
  have B4 := B3.below hb4
  have hbx := below_trans' hbw hbw.size hb4
  have q0 := B4.cell 0 rfl
  have q1 := B4.cell 1 rfl
  have q2 := B4.cell 2 rfl
  have q3 := B4.cell 3 rfl
  have cC := cC.out w4 AB cb (oB.sl bkC4_len)
  go_upto_region 6 with (go_at_call 150; refine cC.mono ?_; rintro e w5 ⟨rfl, hb5⟩)
  have B5 := B4.below hb5
  have hby := below_trans' hbx hbx.size hb5
  have q1 := B5.cell 1 rfl
  have q2 := B5.cell 2 rfl
  have q3 := B5.cell 3 rfl
  have cS1 := cS1.out w5 hby
  clear B4 q0 cC cB oB hb4 hb5
  go_upto_region 10 with (go_at_call 151; refine cS1.mono ?_; rintro e w6 ⟨A1, c1, z1, rfl, _, hb6⟩)
  have B6 := B5.below hb6
  have hbz := below_trans' hby hby.size hb6
  have q2 := B6.cell 2 rfl
  have cS2 := cS2.out w6 hbz
  rw [show ((k + 1 : Nat) : Int) = (k : Int) + 1 by omega] at cS2
  go_wp2_with (go_at_call 151; refine cS2.mono ?_; rintro e w7 ⟨A2, c2, z2, rfl, M2, hb7⟩; rw [hs2] at M2 ⊢)
  go_ret3
  exact HP.out _ _ ⟨A1, s1.length, c1, A2, c2, z2, rfl, ⟨M2.o.base hbz.size, fun j hj => by obtain ⟨s, e, hs⟩ := M2.f j hj; exact ⟨s, e, hs.base hbz.size⟩⟩, below_trans' hbz hbz.size hb7⟩
def PrPost (w : World) (ps : List Pr) (e : Ending) (w' : World) : Prop := ∃ (A' : Option Addr) (c' : Nat), e = .returned (.tuple #[.slice A' ps.length c', .int .i64 0]) ∧ Own w' w.heap.size 91 2 prC A' ps.length c' ps ∧ Below w.heap.size w w'
set_option maxHeartbeats 4000000 in
set_option maxRecDepth 100000 in
theorem pown_any (A : Option Addr) (n c : Nat) (xs : List It) (ys : List Fi) (k : Nat) (w : World) (ha : Fl w A n xs ys) (hy : DocFl ys) (hk : k < n) (hk2 : (gFi ys k).kind = 2) :
    Calls Tryz.prog 87 #[.slice A n c, .agg (bkC4 (bkK ys k)).toArray] w (PrPost w (gFi ys k).ps) := by
  have hly := ha.ly
  have hn : n ≤ 1000000 := by have := hy.fw.nf.ok.len; omega
  have N3 := Blk.new w 126 (bkC4 (bkK ys k)).toArray
  have hb3 := alloc1 w (.cells (bkC4 (bkK ys k)).toArray 126)
  have cP := parts_any A n c xs ys k (w.alloc (.cells (bkC4 (bkK ys k)).toArray 126)) (ha.below hb3) hy hk hk2
  have hsub : gFi (sub ys k (k + 1)) 0 = gFi ys k := by have := sub_at (ys := ys) (a := k) (b := k + 1) (k := 0) (by omega) (by omega); simpa using this
  have hpl : (gFi ys k).ps.length ≤ 1000000 := hy.fw.nf.ok.ps k
  have HSB := Lib.hid hsub
  rw [show (bkC4 (bkK ys k)).toArray = #[.int .i64 1, .int .i64 (frK ys k : Nat), .int .i64 ((k : Int) + 1), .bool true] from rfl] at N3 hb3 cP ⊢
  have HP := Lib.hid (show ∀ e w', (∃ (A' : Option Addr) (c' : Nat), e = .returned (.tuple #[.slice A' (gFi ys k).ps.length c', .int .i64 0]) ∧ Own w' w.heap.size 91 2 prC A' (gFi ys k).ps.length c' (gFi ys k).ps ∧ Below w.heap.size w w') → PrPost w (gFi ys k).ps e w' from fun e w' h => h)
  generalize frK ys k = lo at *
  clear hsub
  have q0 := N3.cell 0 rfl
  have q1 := N3.cell 1 rfl
  have q2 := N3.cell 2 rfl
  have q3 := N3.cell 3 rfl
  go_enter Tryz.func87, Tryz.ntmps87
  go_upto_region 4 with (go_at_call 118; refine cP.mono ?_; rintro e w4 ⟨A1, n1, c1, A2, c2, zs, rfl, M2, hb4⟩)
  obtain ⟨g2, rfl, _, _⟩ := M2.o.form (by omega)
  obtain ⟨s, e3, hs⟩ := M2.f 0 (by omega)
  rw [HSB.out] at e3 hs
  have hbx := below_trans' hb3 hb3.size hb4
  have q4 : w4.cell? ⟨g2, 4, none⟩ = some (.slice s.A s.n s.c) := by
    obtain ⟨g', o', e', _, hr'⟩ := (M2.o.slb itC_len).at_ itZ (k := 0) (by omega)
    injection e' with e'
    injection e' with e1 e2
    subst e1 e2
    rw [show zs.getD 0 itZ = gIt zs 0 from rfl, e3] at hr'
    have := hr' 4 _ (show (itC (itF (gFi ys k) s))[4]? = some s.v from rfl)
    simpa [SV.v] using this
  have hsn : s.n = (gFi ys k).ps.length := hs.len.symm
  have cC := cloneP_any s.A s.n s.c (gFi ys k).ps w4 (hs.sl prC_len) (by omega)
  rw [hsn] at cC q4
  clear M2 e3 HSB cP
  go_wp2_with (go_at_call 119; refine cC.mono ?_; rintro e w5 ⟨A', c', rfl, ho, _, hb5⟩)
  go_ret2
  exact HP.out _ _ ⟨A', c', rfl, ho.base hbx.size, below_trans' hbx hbx.size hb5⟩
/-- the first block that has a unit. -/
def hasB (u : Int) (b : Bk) : Bool := decide (b.lo ≤ u) && decide (u < b.hi)
def AtPost (w : World) (b : Bk) (e : Ending) (w' : World) : Prop := e = .returned (.tuple #[.agg (bkC4 b).toArray, .int .i64 0]) ∧ Below w.heap.size w w'
/-- the paragraphs lie one behind the other. -/
theorem bkL_first {ys : List Fi} {n j : Nat} (hj : j < (bkL ys n).length) {k : Nat} (_ : k < n) (hk2 : (gFi ys k).kind = 2) (h : hasB (frK ys k) (gBk (bkL ys n) j) = true) : gBk (bkL ys n) j = bkK ys k := by
  obtain ⟨k', h1, h2, h3⟩ := bkL_mem (gBk_mem hj)
  rw [h3] at h ⊢
  have hf := frK_le ys k
  unfold hasB bkK at h
  simp only [Bool.and_eq_true, decide_eq_true_eq] at h
  have key : ∀ (a b : Nat), a < b → (gFi ys a).kind = 2 → a + 1 ≤ frK ys b := by
    intro a b
    induction b with
    | zero => intro h; omega
    | succ b ih =>
      intro hab ha
      rw [frK]
      split
      · omega
      · rename_i hb
        by_cases e : a = b
        · subst e; exact absurd ha hb
        · exact ih (by omega) ha
  rcases Nat.lt_trichotomy k k' with hlt | rfl | hlt
  · have := key k k' hlt hk2; omega
  · rfl
  · have := key k' k hlt h2; omega
set_option maxHeartbeats 4000000 in
set_option maxRecDepth 100000 in
theorem at_any (A : Option Addr) (n c : Nat) (xs : List It) (ys : List Fi) (k : Nat) (w : World) (ha : Fl w A n xs ys) (hy : DocFl ys) (hk : k < n) (hk2 : (gFi ys k).kind = 2) :
    Calls Tryz.prog 124 #[.slice A n c, .int .i64 (frK ys k : Nat)] w (AtPost w (bkK ys k)) := by
  have hly := ha.ly
  have hn : n ≤ 1000000 := by have := hy.fw.nf.ok.len; omega
  have N4 := Blk.new w 126 #[.int .i64 0, .int .i64 0, .int .i64 0, .bool false]
  have hb4 := alloc1 w (.cells #[.int .i64 0, .int .i64 0, .int .i64 0, .bool false] 126)
  have cB := pblocks_any A n c xs ys _ (ha.below hb4) hy
  have hbl := bkL_len ys n
  have HF := Lib.hid (fun j hj h => bkL_first (ys := ys) (n := n) (j := j) hj hk hk2 h)
  have HE := Lib.hid (show ¬ ∀ j, j < (bkL ys n).length → hasB (frK ys k) (gBk (bkL ys n) j) = false from fun h => by
    obtain ⟨h1, h2⟩ := bkL_at ys hk hk2
    have h3 := h _ h2
    rw [h1] at h3
    have hf := frK_le ys k
    unfold hasB at h3
    rw [show decide (((frK ys k : Nat) : Int) ≤ ((frK ys k : Nat) : Int)) = true from decide_eq_true (Int.le_refl _), show decide (((frK ys k : Nat) : Int) < (k : Int) + 1) = true from decide_eq_true (by omega)] at h3
    cases h3)
  have hfk := frK_le ys k
  have HP := Lib.hid (show ∀ e w', (e = .returned (.tuple #[.agg (bkC4 (bkK ys k)).toArray, .int .i64 0]) ∧ Below w.heap.size w w') → AtPost w (bkK ys k) e w' from fun e w' h => h)
  generalize bkL ys n = bs at *
  generalize bkK ys k = bb at *
  generalize frK ys k = u at *
  obtain ⟨p, hp⟩ : ∃ p, p = w.heap.size := ⟨_, rfl⟩
  have hpw : w.heap.size ≤ p := by omega
  go_enter Tryz.func124, Tryz.ntmps124
  go_upto_region 1 with fail
  generalize w.alloc (.cells #[.int .i64 0, .int .i64 0, .int .i64 0, .bool false] 126) = w1 at *
  rw [← hp] at N4 ⊢
  clear hp
  go_upto_region 4 with (go_at_call 149; refine cB.mono ?_; rintro e w4 ⟨AB, cb, rfl, oB, hbB⟩)
  have B4 := N4.below hbB
  have hbx := below_trans' hb4 hb4.size hbB
  have sB := oB.sl bkC4_len
  clear N4 hbB cB oB
  go_wp2_with fail
  go_loopw [21] (fun vi wr => ∃ i : Nat, vi = .int .i64 i ∧ i ≤ bs.length ∧ (∀ j, j < i → hasB u (gBk bs j) = false) ∧ Below w4.heap.size w4 wr) (fun vi _ => bs.length - (intOf vi).toNat)
  case atStart => exact ⟨0, rfl, Nat.zero_le _, fun j hj => absurd hj (Nat.not_lt_zero _), Below.refl _ _⟩
  case round =>
    obtain ⟨i, rfl, hi, hz, hbr⟩ := hrel
    have HZ := Lib.hid hz
    clear hz
    by_cases hlt : i < bs.length
    · obtain ⟨ad, e, hl2, k0, k1, k2, k3⟩ := (sB.below hbr).bk hlt
      subst e
      have hfi := HF.out i hlt
      have hbi : hasB u (gBk bs i) = (decide ((gBk bs i).lo ≤ u) && decide ((u : Int) < (gBk bs i).hi)) := rfl
      obtain ⟨⟨x0, x1, x2, x3⟩, hx⟩ : ∃ x, gBk bs i = x := ⟨_, rfl⟩
      rw [hx] at k0 k1 k2 k3 hfi hbi
      have HH := Lib.hid hfi
      have HB := Lib.hid hbi
      have HX := Lib.hid hx
      clear hfi hbi hx
      simp only at k0 k1 k2 k3
      have B5 := B4.below hbr
      have hby := below_trans' hbx hbx.size hbr
      go_upto_region 6 with fail
      go_cut [9] (fun v9 wx => ∃ p9, v9 = .pointer (some ⟨p9, 0, none⟩) ∧ Blk wx p9 126 #[.int .i64 x0, .int .i64 x1, .int .i64 x2, .bool x3] ∧ Below wr.heap.size wr wx)
      case first =>
        go_wp2_with fail
        go_meet
        case rel => exact ⟨_, rfl, Blk.new _ _ _, (Below.refl _ _).alloc (Nat.le_refl _) _⟩
      case rest =>
      obtain ⟨p9, rfl, B9, hb9⟩ := hcut
      have B6 := B5.below hb9
      have hbz := below_trans' hby hby.size hb9
      have hbr2 := below_trans' hbr hbr.size hb9
      have q0 := B9.cell 0 rfl
      have q1 := B9.cell 1 rfl
      have q2 := B9.cell 2 rfl
      have q3 := B9.cell 3 rfl
      clear k0 k1 k2 k3 B5 hb9
      unfold Blk at B6
      by_cases h1 : x1 ≤ (u : Int)
      · by_cases h2 : (u : Int) < x2
        · have hyes := HH.out (by rw [HB.out]; simp [h1, h2])
          have HY := Lib.hid hyes
          go_wp2_with (refine wpList_store_row rfl 126 _ _ rfl p (bkC4 ⟨x0, x1, x2, x3⟩).toArray rfl rfl 126 _ B6 (by kernel_rfl) rfl (by simp [bkC4, Value.oneCell']) ?_)
          refine bodyPost_ret (results_cell_tmp rfl _ _ p 126 _ (0, 0) _ rfl (setRow_heap _ p _ _ _ _ B6) Tryz.underlying126 rfl (by kernel_rfl)) rfl ?_
          exact HP.out _ _ ⟨by rw [← HY.out]; rfl, below_setRow hbz hpw _⟩
        · skip
          have HNO := Lib.hid (show hasB u ⟨x0, x1, x2, x3⟩ = false by rw [HB.out, decide_eq_false h2, Bool.and_false])
          go_wp2_with fail
          go_roundw
          case measure => rw [intOf, intOf]; omega
          case rel => exact ⟨i + 1, by simp, by omega, fun j hj => by
            rcases (show j < i ∨ j = i by omega) with h | rfl
            · exact HZ.out j h
            · rw [HX.out]; exact HNO.out, hbr2⟩
      · skip
        have HNO := Lib.hid (show hasB u ⟨x0, x1, x2, x3⟩ = false by rw [HB.out, decide_eq_false h1, Bool.false_and])
        go_wp2_with fail
        go_roundw
        case measure => rw [intOf, intOf]; omega
        case rel => exact ⟨i + 1, by simp, by omega, fun j hj => by
          rcases (show j < i ∨ j = i by omega) with h | rfl
          · exact HZ.out j h
          · rw [HX.out]; exact HNO.out, hbr2⟩
    · have : i = bs.length := by omega
      subst this
      exact absurd HZ.out HE.out
end Go.Proofs.YthbodpjkckminaaGreatDoor

namespace Go.Proofs.YthbodpjkckminaaGreatDoor
open Go.RowKit
attribute [local go_sem] Oper.semAt_some

/-- a document: its flow, its lists; no end, no revisions, no styles, no comments, no variables. -/
def docL (A : Option Addr) (n c : Nat) (LA : Option Addr) (ln lc : Nat) : List Value := [.slice A n c, .slice none 0 0, .int .i64 0, .int .i64 0, .slice none 0 0, .slice none 0 0, .slice none 0 0, .slice none 0 0, .slice LA ln lc, .slice none 0 0, .slice none 0 0]
def KpL (N0 : Nat) (W W' : World) : Prop := ∀ k, k < N0 → W'.heap[k]? = W.heap[k]?
theorem KpL.trans_ {N0 : Nat} {X Y Z : World} (h : KpL N0 X Y) (k : KpL N0 Y Z) : KpL N0 X Z := fun i hi => (k i hi).trans (h i hi)
theorem KpL.put_ {N0 : Nat} {w : World} (h0 : N0 ≤ w.heap.size) (W : World) (l : Nat) (o o' : Obj) (hl : w.heap.size ≤ l) (ho : W.heap[l]? = some o) (_ : o.isCells = false) (_ : o.isWalk = false) : KpL N0 W (W.putObj l o') := fun k hk => by
  have hlt : l < W.heap.size := (Array.getElem?_eq_some_iff.1 ho).1
  exact (grownBy_putObj' W l o').block k (by omega) (by simp; omega)
theorem abJ {J : List Unit → World → Prop} {B : Nat} {X Y : World} {pre : List Unit} (hAb : _root_.Go.AbidesFrom B J) (hJ : J pre X) (hb : Below X.heap.size X Y) : J pre Y := hAb pre X Y none hJ ⟨hb.os, hb.tape, hb.output, hb.size, fun k hk _ => hb.block k hk⟩ (fun r e => by cases e)
def flA (A : Option Addr) (n c : Nat) : Array Value := #[.slice A n c, .bool true, .bool false, .int .i64 0]
set_option maxRecDepth 100000 in
set_option maxHeartbeats 8000000 in
theorem walk_in (n : Nat) (l N0 : Nat) (A : Option Addr) (m c : Nat) (xs : List It) (hkd : ∀ k, k < m → (gIt xs k).kind = 1 ∨ (gIt xs k).kind = 2) (hm : m ≤ 1000000) (J Jx : List Unit → World → Prop)
    (hY : ∀ W, J [] W → YieldAt Fence.wide (n - 1) Tryz.prog l #[.int .i64 0, .agg (flA A m c)] W fun e W' => (e = .returned (.bool true) ∧ J [()] W' ∧ KpL N0 W W') ∨ (e = .returned (.bool false) ∧ Jx [()] W'))
    (W : World) (B : Nat) (hAb : _root_.Go.AbidesFrom B J) (hA : Its W A m xs) (hLow : 0 < m → Low N0 A) (h0 : J [] W) :
    CallsIn Fence.wide n Tryz.prog 169 #[.int .i64 0, .slice A m c, .agg #[.bool true, .bool false, .int .i64 0], .func (.yield l) #[] #[]] W fun e W' => (∃ v, e = .returned v) ∧ (J [()] W' ∨ Jx [()] W') := by
  have hb1 := alloc1 W (.cells #[.bool true, .bool false, .int .i64 0] 110)
  have N6 := Blk.new W 110 #[.bool true, .bool false, .int .i64 0]
  have J1 := abJ hAb h0 hb1
  have A1 := hA.below hb1
  refine callsIn_of_wp Tryz.func169 rfl trivial ?_ rfl
  simp only [Tryz.ntmps169, List.size_toArray, List.length_cons, List.length_nil, Nat.reduceAdd, Nat.reduceSub, Array.replicate_succ, Array.replicate_zero, List.push_toArray, List.append_toArray, List.nil_append, List.cons_append]
  gi_upto_region 1 with fail
  generalize W.alloc (.cells #[.bool true, .bool false, .int .i64 0] 110) = W1 at *
  generalize W.heap.size = p6 at *
  obtain ⟨fn, tmps, assign, body, hy, hRd⟩ := hY W1 J1
  have q0 := N6.cell 0 rfl
  have q1 := N6.cell 1 rfl
  have q2 := N6.cell 2 rfl
  unfold flA at hy
  clear hY h0 J1 hA
  gi_wp2
  refine ⟨fun hh => by simp [Fence.wide] at hh, hRd.mono ?_⟩
  rintro e W2 (⟨rfl, hJ2, hk2⟩ | ⟨rfl, hJx2⟩)
  · have A2 := A1.low hLow hk2
    clear A1 q0 q1 q2 N6 hy hRd hk2
    gi_wp2
    gi_loopw [24] (fun vi wr => ∃ i : Nat, vi = .int .i64 i ∧ i ≤ m ∧ J [()] wr ∧ Its wr A m xs) (fun vi _ => m - (intOf vi).toNat)
    case atStart => exact ⟨0, rfl, Nat.zero_le _, hJ2, A2⟩
    case round =>
      obtain ⟨i, rfl, hi, hJ3, A3⟩ := hrel
      clear hJ2 A2
      by_cases hlt : i < m
      · obtain ⟨g, o, e, hg, hr⟩ := A3.at_ itZ hlt
        have hki := hkd i hlt
        rw [show xs.getD i itZ = gIt xs i from rfl] at hr
        subst e
        have ho := itA_one (gIt xs i)
        obtain ⟨BX, hBx⟩ := boxed_it wr (gIt xs i)
        have NZ := newZ wr
        have hsz := size_it
        have J4 := abJ hAb hJ3 hBx
        have A4 := A3.below hBx
        generalize gIt xs i = x at *
        gi_upto_region 6 with (first | (refine wlW_load rfl 102 _ rfl g (o + i * 11) rfl (itC x) _ hr Tryz.underlying102 rfl hsz ?_) | (refine wlW_store rfl 102 _ _ rfl wr.heap.size (itA x) rfl rfl 102 _ NZ (by kernel_rfl) rfl ho ?_))
        show Code.wpIn Fence.wide n _ _ _ _ ((wr.alloc (.cells itZA 102)).setRow wr.heap.size (itA x))
        generalize (wr.alloc (.cells itZA 102)).setRow wr.heap.size (itA x) = W5 at *
        generalize wr.heap.size = p10 at *
        have k0 : W5.cell? ⟨p10, 0, none⟩ = some (.int .i64 x.kind) := BX.cell 0 rfl
        have h6 : (x.kind == 6) = false := beq_eq_false_iff_ne.2 (by omega)
        have h7 : (x.kind == 7) = false := beq_eq_false_iff_ne.2 (by omega)
        generalize x.kind = kd at *
        clear hJ3 A3 hr NZ hBx
        gi_wp2
        go_roundw
        case rel => exact ⟨i + 1, by simp, by omega, J4, A4⟩
        case measure => rw [intOf, intOf]; omega
      · have : i = m := by omega
        subst this
        gi_wp2
        refine bodyPost_ret (results_tmp rfl _ _ _) rfl ?_
        exact ⟨⟨_, rfl⟩, .inl hJ3⟩
  · gi_wp2
    refine bodyPost_ret (results_tmp rfl _ _ _) rfl ?_
    exact ⟨⟨_, rfl⟩, .inr hJx2⟩
end Go.Proofs.YthbodpjkckminaaGreatDoor

namespace Go.Proofs.YthbodpjkckminaaGreatDoor
open Go.RowKit
attribute [local go_sem] Oper.semAt_some

theorem yieldW {m : Nat} (m' : Nat) {P : Program} {l : Nat} {args : Array Value} {W : World} {R : Ending → World → Prop} (h : YieldAt Fence.wide m P l args W R) : YieldAt Fence.wide m' P l args W R :=
  let ⟨fn, tmps, assign, body, e, hR⟩ := h
  ⟨fn, tmps, assign, body, e, hR.1, fun c cs _ => hR.2 c cs (room_wide _)⟩
set_option maxRecDepth 100000 in
set_option maxHeartbeats 8000000 in
theorem flows1_in (n : Nat) (l p1 p2 p3 N0 : Nat) (A : Option Addr) (m c : Nat) (xs : List It) (hkd : ∀ k, k < m → (gIt xs k).kind = 1 ∨ (gIt xs k).kind = 2) (hm : m ≤ 1000000) (J Jx : List Unit → World → Prop)
    (hY : ∀ W, J [] W → YieldAt Fence.wide (n - 1) Tryz.prog l #[.int .i64 0, .agg (flA A m c)] W fun e W' => (e = .returned (.bool true) ∧ J [()] W' ∧ KpL N0 W W') ∨ (e = .returned (.bool false) ∧ Jx [()] W'))
    (W : World) (hAb : _root_.Go.AbidesFrom W.heap.size J) (hA : Its W A m xs) (hLow : 0 < m → Low N0 A) (h1 : Blk W p1 3 #[.int .i64 0]) (h2 : Blk W p2 54 #[.slice A m c]) (h3 : Blk W p3 110 #[.bool true, .bool false, .int .i64 0]) (h0 : J [] W) :
    CallsIn Fence.wide n Tryz.prog 168 #[.func (.yield l) #[] #[], .pointer (some ⟨p1, 0, none⟩), .pointer (some ⟨p2, 0, none⟩), .pointer (some ⟨p3, 0, none⟩)] W fun e W' => (∃ v, e = .returned v) ∧ (J [()] W' ∨ Jx [()] W') := by
  have cW := Lib.hid (fun n' => walk_in n' l N0 A m c xs hkd hm J Jx (fun W hW => yieldW _ (hY W hW)) W W.heap.size hAb hA hLow h0)
  have q1 := h1.cell 0 rfl
  have q2 := h2.cell 0 rfl
  have q30 := h3.cell 0 rfl
  have q31 := h3.cell 1 rfl
  have q32 := h3.cell 2 rfl
  refine callsIn_of_wp Tryz.func168 rfl trivial ?_ rfl
  simp only [Tryz.ntmps168, List.size_toArray, List.length_cons, List.length_nil, Nat.reduceAdd, Nat.reduceSub, Array.replicate_succ, Array.replicate_zero, List.push_toArray, List.append_toArray, List.nil_append, List.cons_append]
  gi_wp2
  refine ⟨trivial, fun hh => by simp [Fence.wide] at hh, (cW.out _).mono ?_⟩
  rintro e W' ⟨⟨v, rfl⟩, hW'⟩
  gi_wp2
  go_end0
  exact ⟨⟨_, rfl⟩, hW'⟩
theorem flows_stops (n p1 p2 p3 N0 : Nat) (A : Option Addr) (m c : Nat) (xs : List It) (w : World) (hkd : ∀ k, k < m → (gIt xs k).kind = 1 ∨ (gIt xs k).kind = 2) (hm : m ≤ 1000000) (hA : Its w A m xs) (hLow : 0 < m → Low N0 A) (h1 : Blk w p1 3 #[.int .i64 0]) (h2 : Blk w p2 54 #[.slice A m c]) (h3 : Blk w p3 110 #[.bool true, .bool false, .int .i64 0]) :
    SeqStopsK Fence.wide n Tryz.prog 168 #[.pointer (some ⟨p1, 0, none⟩), .pointer (some ⟨p2, 0, none⟩), .pointer (some ⟨p3, 0, none⟩)] (fun _ : Unit => #[Value.int .i64 0, .agg (flA A m c)]) (KpL N0) (fun ys => ys = [()]) (fun pre => pre = [()]) 1 w := fun l J Jx W hW hJ _ hY h0 =>
  (flows1_in n l p1 p2 p3 N0 A m c xs hkd hm J Jx (fun W1 h => hY [] () W1 h (Nat.zero_lt_one)) W hJ (hA.below hW) hLow (h1.below hW) (h2.below hW) (h3.below hW) h0).mono (fun _ _ h => ⟨h.1, h.2.imp (fun h => ⟨_, rfl, h⟩) (fun h => ⟨_, rfl, h⟩)⟩)
def FwQ (w : World) (A : Option Addr) (m c : Nat) (e : Ending) (w' : World) : Prop := ∃ q1 q2 q3 : Nat, e = .returned (.func (.func 168) #[] #[.pointer (some ⟨q1, 0, none⟩), .pointer (some ⟨q2, 0, none⟩), .pointer (some ⟨q3, 0, none⟩)]) ∧ Blk w' q1 3 #[.int .i64 0] ∧ Blk w' q2 54 #[.slice A m c] ∧ Blk w' q3 110 #[.bool true, .bool false, .int .i64 0] ∧ Below w.heap.size w w'
theorem flows_any (A : Option Addr) (m c : Nat) (w : World) :
    Calls Tryz.prog 143 #[.int .i64 0, .slice A m c, .agg #[.bool true, .bool false, .int .i64 0]] w (FwQ w A m c) := by
  have N1 := ((Blk.new w 3 #[.int .i64 0]).alloc (.cells #[.slice A m c] 54)).alloc (.cells #[.bool true, .bool false, .int .i64 0] 110)
  have N2 := (Blk.new (w.alloc (.cells #[.int .i64 0] 3)) 54 #[.slice A m c]).alloc (.cells #[.bool true, .bool false, .int .i64 0] 110)
  have N3 := Blk.new ((w.alloc (.cells #[.int .i64 0] 3)).alloc (.cells #[.slice A m c] 54)) 110 #[.bool true, .bool false, .int .i64 0]
  have hb := (((Below.refl w.heap.size w).alloc (Nat.le_refl _) (.cells #[.int .i64 0] 3)).alloc (by simp) (.cells #[.slice A m c] 54)).alloc (by simp; omega) (.cells #[.bool true, .bool false, .int .i64 0] 110)
  have N2' : Blk (((w.alloc (.cells #[.int .i64 0] 3)).alloc (.cells #[.slice A m c] 54)).alloc (.cells #[.bool true, .bool false, .int .i64 0] 110)) (w.heap.size + 1) 54 #[.slice A m c] := by simpa using N2
  have N3' : Blk (((w.alloc (.cells #[.int .i64 0] 3)).alloc (.cells #[.slice A m c] 54)).alloc (.cells #[.bool true, .bool false, .int .i64 0] 110)) (w.heap.size + 1 + 1) 110 #[.bool true, .bool false, .int .i64 0] := by simpa using N3
  have HF := Lib.hid (And.intro N1 (And.intro N2' (And.intro N3' hb)))
  clear N1 N2 N3 N2' N3' hb
  go_enter Tryz.func143, Tryz.ntmps143
  go_wp2_with fail
  go_ret
  exact ⟨_, _, _, rfl, HF.out.1, HF.out.2.1, HF.out.2.2.1, HF.out.2.2.2⟩
theorem dof_any (A : Option Addr) (m c : Nat) (LA : Option Addr) (ln lc : Nat) (w : World) :
    Calls Tryz.prog 116 #[.agg (docL A m c LA ln lc).toArray] w (FwQ w A m c) := by
  have N1 := Blk.new w 63 (docL A m c LA ln lc).toArray
  have hb1 := alloc1 w (.cells (docL A m c LA ln lc).toArray 63)
  have q0 := N1.cell 0 rfl
  have cF := Lib.hid (fun W (hW : Below w.heap.size w W) => (flows_any A m c W).mono (fun e w' (h : FwQ W A m c e w') => show FwQ w A m c e w' from let ⟨q1, q2, q3, e, b1, b2, b3, hb⟩ := h; ⟨q1, q2, q3, e, b1, b2, b3, below_trans' hW hW.size hb⟩))
  rw [show (docL A m c LA ln lc).toArray = #[.slice A m c, .slice none 0 0, .int .i64 0, .int .i64 0, .slice none 0 0, .slice none 0 0, .slice none 0 0, .slice none 0 0, .slice LA ln lc, .slice none 0 0, .slice none 0 0] from rfl] at *
  go_enter Tryz.func116, Tryz.ntmps116
  go_wp2_with fail
  go_at_call 143
  refine (cF.out _ hb1).mono ?_
  rintro e w1 HQ
  obtain ⟨q1, q2, q3, rfl, hR⟩ := HQ
  go_wp2_with fail
  go_ret
  exact ⟨_, _, _, rfl, hR⟩
end Go.Proofs.YthbodpjkckminaaGreatDoor

namespace Go.Proofs.YthbodpjkckminaaGreatDoor
open Go.RowKit
attribute [local go_sem] Oper.semAt_some

theorem Mk_.others_ {w w' : World} {B : Nat} {A : Option Addr} {i c : Nat} {zs : List It} {ys : List Fi} {row : Option Nat} (h : Mk_ w B A i c zs ys) (hg : w.grownBy w' row) (hr : ∀ r, row = some r → ∃ o : Obj, w.heap[r]? = some o ∧ o.isCells = false) : Mk_ w' B A i c zs ys :=
  ⟨h.o.others_ hg hr, fun k hk => by obtain ⟨s, e, hs⟩ := h.f k hk; exact ⟨s, e, hs.others_ hg hr⟩⟩
theorem Mk_.setc {w : World} {B p : Nat} {A : Option Addr} {i c : Nat} {zs : List It} {ys : List Fi} (h : Mk_ w B A i c zs ys) (hp : p < B) (v : Value) : Mk_ (w.setCell ⟨p, 0, none⟩ v) B A i c zs ys :=
  ⟨h.o.keep (gset w p 0 v) (fun k hk e => by cases hk; have := (h.o.lt _ e).1; omega), fun k hk => by
    obtain ⟨s, e, hs⟩ := h.f k hk
    exact ⟨s, e, hs.keep (gset w p 0 v) (fun k hk e => by cases hk; have := (hs.lt _ e).1; omega)⟩⟩
theorem Mk_.base {w : World} {B B' : Nat} {A : Option Addr} {i c : Nat} {zs : List It} {ys : List Fi} (h : Mk_ w B A i c zs ys) (hb : B' ≤ B) : Mk_ w B' A i c zs ys :=
  ⟨h.o.base hb, fun k hk => by obtain ⟨s, e, hs⟩ := h.f k hk; exact ⟨s, e, hs.base hb⟩⟩
theorem boxed_g (w : World) (t : TypeId) (Z X : Array Value) : Blk ((w.alloc (.cells Z t)).setRow w.heap.size X) w.heap.size t X ∧ Below w.heap.size w ((w.alloc (.cells Z t)).setRow w.heap.size X) :=
  ⟨setRow_heap _ _ _ X _ _ (Blk.new w t Z), below_setRow (alloc1 w _) (Nat.le_refl _) _⟩
/-- Flow's variables. -/
structure DfB (w wx : World) (p3 p4 p5 : Nat) (s : Value) (b : Bool) : Prop where
  b3 : Blk wx p3 3 #[.int .i64 0]
  b4 : Blk wx p4 54 #[s]
  b5 : Blk wx p5 4 #[.bool b]
  l3 : w.heap.size ≤ p3
  l4 : p3 < p4
  l5 : p4 < p5
  bel : Below w.heap.size w wx
theorem DfB.below {w wx wy : World} {p3 p4 p5 : Nat} {s : Value} {b : Bool} (h : DfB w wx p3 p4 p5 s b) (hb : Below wx.heap.size wx wy) : DfB w wy p3 p4 p5 s b :=
  ⟨h.b3.below hb, h.b4.below hb, h.b5.below hb, h.l3, h.l4, h.l5, below_trans' h.bel h.bel.size hb⟩
theorem DfB.s4 {w wx : World} {p3 p4 p5 : Nat} {s : Value} {b : Bool} (h : DfB w wx p3 p4 p5 s b) (v : Value) : DfB w (wx.setCell ⟨p4, 0, none⟩ v) p3 p4 p5 v b :=
  ⟨h.b3.keep (gset _ _ _ _) (by have := h.l4; simp; omega), h.b4.set_ 0 _, h.b5.keep (gset _ _ _ _) (by have := h.l5; simp; omega), h.l3, h.l4, h.l5, h.bel.setCell (p := ⟨p4, 0, none⟩) (by have := h.l3; have := h.l4; show _ ≤ p4; omega) _⟩
theorem DfB.s5 {w wx : World} {p3 p4 p5 : Nat} {s : Value} {b : Bool} (h : DfB w wx p3 p4 p5 s b) (v : Bool) : DfB w (wx.setCell ⟨p5, 0, none⟩ (.bool v)) p3 p4 p5 s v :=
  ⟨h.b3.keep (gset _ _ _ _) (by have := h.l4; have := h.l5; simp; omega), h.b4.keep (gset _ _ _ _) (by have := h.l5; simp; omega), h.b5.set_ 0 _, h.l3, h.l4, h.l5, h.bel.setCell (p := ⟨p5, 0, none⟩) (by have := h.l3; have := h.l4; have := h.l5; show _ ≤ p5; omega) _⟩
theorem DfB.own {β : Type} {w : World} {D p3 p4 p5 : Nat} {s : Value} {b : Bool} (hD : w.heap.size ≤ D) : OwnFrom D (fun (_ : β) W => DfB w W p3 p4 p5 s b) := fun t X Y row h hg hr =>
  ⟨ownFrom_blk D p3 _ (fun _ => _) t X Y row h.b3 hg hr, ownFrom_blk D p4 _ (fun _ => _) t X Y row h.b4 hg hr, ownFrom_blk D p5 _ (fun _ => _) t X Y row h.b5 hg hr, h.l3, h.l4, h.l5, h.bel.grown hg h.bel.size (fun k e => Nat.le_trans hD (hr k e).1)⟩
def DfI (w : World) (p3 p4 p5 : Nat) (pre : List Unit) (W : World) : Prop := DfB w W p3 p4 p5 (.slice none 0 0) false ∧ pre = []
def DfX (w : World) (p3 p4 p5 : Nat) (ys : List Fi) (c : Code) (_ : List Unit) (W : World) : Prop := c = .ret ∧ ∃ (A' : Option Addr) (c' : Nat) (zs : List It), DfB w W p3 p4 p5 (.slice A' ys.length c') true ∧ Mk_ W w.heap.size A' ys.length c' zs ys
theorem DfX.own {w : World} {D p3 p4 p5 : Nat} {ys : List Fi} {c : Code} (hD : w.heap.size ≤ D) : OwnFrom D (DfX w p3 p4 p5 ys c) := fun t X Y row h hg hr => by
  obtain ⟨h1, A', c', zs, hB, hM⟩ := h
  exact ⟨h1, A', c', zs, DfB.own hD t X Y row hB hg hr, hM.others_ hg (fun r e => (hr r e).2)⟩
theorem results_df (tmps : Array Value) (w w0 : World) (p3 p4 p5 : Nat) (s : Value) (b : Bool) (h : DfB w0 w p3 p4 p5 s b) (h4 : tmps.getD 4 undef = .pointer (some ⟨p4, 0, none⟩)) (h5 : tmps.getD 5 undef = .pointer (some ⟨p5, 0, none⟩)) :
    (results Tryz.f86 tmps).run Tryz.prog w = .ok (.tuple #[s, .bool b]) w := by
  have q4 := h.b4.cell 0 rfl
  have q5 := h.b5.cell 0 rfl
  have h4' : tmps[4]?.getD undef = .pointer (some ⟨p4, 0, none⟩) := by simpa using h4
  have h5' : tmps[5]?.getD undef = .pointer (some ⟨p5, 0, none⟩) := by simpa using h5
  simp [results, h4', h5', asAddr, go_sem, q4, q5]
def DFlPost (w : World) (ys : List Fi) (e : Ending) (w' : World) : Prop := ∃ (A' : Option Addr) (c' : Nat) (zs : List It), e = .returned (.tuple #[.slice A' ys.length c', .bool true]) ∧ Mk_ w' w.heap.size A' ys.length c' zs ys ∧ Below w.heap.size w w'
set_option maxRecDepth 100000 in
set_option maxHeartbeats 8000000 in
theorem flow_any (A : Option Addr) (m c : Nat) (LA : Option Addr) (ln lc : Nat) (xs : List It) (ys : List Fi) (w : World) (ha : Fl w A m xs ys) (hy : FlOk ys) (hkd : ∀ k, k < m → (gIt xs k).kind = 1 ∨ (gIt xs k).kind = 2) (hm : m ≤ 1000000) :
    Calls Tryz.prog 86 #[.agg (docL A m c LA ln lc).toArray, .int .i64 0] w (DFlPost w ys) := by
  have hly := ha.ly
  subst hly
  have hLow := Lib.hid ha.i.lowW
  have HP := Lib.hid (show ∀ e w', (∃ (A' : Option Addr) (c' : Nat) (zs : List It), e = .returned (.tuple #[.slice A' ys.length c', .bool true]) ∧ Mk_ w' w.heap.size A' ys.length c' zs ys ∧ Below w.heap.size w w') → DFlPost w ys e w' from fun _ _ h => h)
  have cO := Lib.hid (fun W => dof_any A ys.length c LA ln lc W)
  have hd : (docL A ys.length c LA ln lc).toArray = #[.slice A ys.length c, .slice none 0 0, .int .i64 0, .int .i64 0, .slice none 0 0, .slice none 0 0, .slice none 0 0, .slice none 0 0, .slice LA ln lc, .slice none 0 0, .slice none 0 0] := rfl
  rw [hd] at *
  refine (callsIn_wide (n := 8)).1 ?_
  refine callsIn_of_wp_marks Tryz.func86 rfl trivial ?_ rfl
  simp only [Tryz.ntmps86, List.size_toArray, List.length_cons, List.length_nil, Nat.reduceAdd, Nat.reduceSub, Array.replicate_succ, Array.replicate_zero, List.push_toArray, List.append_toArray, List.nil_append, List.cons_append]
  gi_upto_region 0 with fail
  gi_cut [2, 3, 4, 5] from 18 (fun v2 v3 v4 v5 wx => ∃ p2 p3 p4 p5, v2 = .pointer (some ⟨p2, 0, none⟩) ∧ v3 = .pointer (some ⟨p3, 0, none⟩) ∧ v4 = .pointer (some ⟨p4, 0, none⟩) ∧ v5 = .pointer (some ⟨p5, 0, none⟩) ∧ Blk wx p2 63 #[.slice A ys.length c, .slice none 0 0, .int .i64 0, .int .i64 0, .slice none 0 0, .slice none 0 0, .slice none 0 0, .slice none 0 0, .slice LA ln lc, .slice none 0 0, .slice none 0 0] ∧ DfB w wx p3 p4 p5 (.slice none 0 0) false)
  case first =>
    have B2 := (((Blk.new w 63 #[.slice A ys.length c, .slice none 0 0, .int .i64 0, .int .i64 0, .slice none 0 0, .slice none 0 0, .slice none 0 0, .slice none 0 0, .slice LA ln lc, .slice none 0 0, .slice none 0 0]).alloc (.cells #[.int .i64 0] 3)).alloc (.cells #[.slice none 0 0] 54)).alloc (.cells #[.bool false] 4)
    have B3 := ((Blk.new (w.alloc (.cells #[.slice A ys.length c, .slice none 0 0, .int .i64 0, .int .i64 0, .slice none 0 0, .slice none 0 0, .slice none 0 0, .slice none 0 0, .slice LA ln lc, .slice none 0 0, .slice none 0 0] 63)) 3 #[.int .i64 0]).alloc (.cells #[.slice none 0 0] 54)).alloc (.cells #[.bool false] 4)
    have B4 := (Blk.new ((w.alloc (.cells #[.slice A ys.length c, .slice none 0 0, .int .i64 0, .int .i64 0, .slice none 0 0, .slice none 0 0, .slice none 0 0, .slice none 0 0, .slice LA ln lc, .slice none 0 0, .slice none 0 0] 63)).alloc (.cells #[.int .i64 0] 3)) 54 #[.slice none 0 0]).alloc (.cells #[.bool false] 4)
    have B5 := Blk.new (((w.alloc (.cells #[.slice A ys.length c, .slice none 0 0, .int .i64 0, .int .i64 0, .slice none 0 0, .slice none 0 0, .slice none 0 0, .slice none 0 0, .slice LA ln lc, .slice none 0 0, .slice none 0 0] 63)).alloc (.cells #[.int .i64 0] 3)).alloc (.cells #[.slice none 0 0] 54)) 4 #[.bool false]
    have hb := ((((Below.refl w.heap.size w).alloc (Nat.le_refl _) (.cells #[.slice A ys.length c, .slice none 0 0, .int .i64 0, .int .i64 0, .slice none 0 0, .slice none 0 0, .slice none 0 0, .slice none 0 0, .slice LA ln lc, .slice none 0 0, .slice none 0 0] 63)).alloc (by simp) (.cells #[.int .i64 0] 3)).alloc (by simp; omega) (.cells #[.slice none 0 0] 54)).alloc (by simp; omega) (.cells #[.bool false] 4)
    have HX : DfB w ((((w.alloc (.cells #[.slice A ys.length c, .slice none 0 0, .int .i64 0, .int .i64 0, .slice none 0 0, .slice none 0 0, .slice none 0 0, .slice none 0 0, .slice LA ln lc, .slice none 0 0, .slice none 0 0] 63)).alloc (.cells #[.int .i64 0] 3)).alloc (.cells #[.slice none 0 0] 54)).alloc (.cells #[.bool false] 4)) (w.heap.size + 1) (w.heap.size + 1 + 1) (w.heap.size + 1 + 1 + 1) (.slice none 0 0) false :=
      ⟨by simpa using B3, by simpa using B4, by simpa using B5, by omega, by omega, by omega, hb⟩
    have HX := Lib.hid (And.intro B2 HX)
    clear B2 B3 B4 B5 hb
    gi_wp2
    gi_meet
    case rel => exact ⟨_, _, _, _, rfl, rfl, rfl, rfl, HX.out.1, HX.out.2⟩
  case rest =>
  obtain ⟨p2, p3, p4, p5, rfl, rfl, rfl, rfl, B2, X0⟩ := hcut
  have q0 := B2.cell 0 rfl
  have q1 := B2.cell 1 rfl
  have q2 := B2.cell 2 rfl
  have q3 := B2.cell 3 rfl
  have q4 := B2.cell 4 rfl
  have q5 := B2.cell 5 rfl
  have q6 := B2.cell 6 rfl
  have q7 := B2.cell 7 rfl
  have q8 := B2.cell 8 rfl
  have q9 := B2.cell 9 rfl
  have q10 := B2.cell 10 rfl
  gi_wp2_with (refine ⟨trivial, ?_⟩; gi_at_call 116; refine (callsIn_wide.2 (cO.out _)).mono ?_; rintro e w4 HQ; obtain ⟨u1, u2, u3, rfl, N1, N2, N3, hb4⟩ := HQ)
  have X4 := X0.below hb4
  have ha4 := ha.below X4.bel
  have hsz4 := X4.bel.size
  clear q0 q1 q2 q3 q4 q5 q6 q7 q8 q9 q10 B2 X0
  refine wpIn_rangeFunc_ownH rfl (by omega) (gf := 168) (lb := #[.pointer (some ⟨u1, 0, none⟩), .pointer (some ⟨u2, 0, none⟩), .pointer (some ⟨u3, 0, none⟩)]) rfl trivial (enters_of Tryz.func168 (by kernel_rfl) rfl)
    (flows_stops _ u1 u2 u3 w.heap.size A ys.length c xs w4 hkd hm ha4.i hLow.out N1 N2 N3) KpL.trans_ (KpL.put_ hsz4) (Below.refl _ _) (fun _ => rfl)
    (DfI w p3 p4 p5) (DfX w p3 p4 p5 ys) ((DfB.own hsz4).and (ownFrom_pure _ _)) (fun _ => DfX.own hsz4)
    ⟨X4, rfl⟩
    (fun _ a' W => ∃ q, Blk W q 228 (flA A ys.length c) ∧ a' = { tmps := #[.agg #[.slice A ys.length c, .slice none 0 0, .int .i64 0, .int .i64 0, .slice none 0 0, .slice none 0 0, .slice none 0 0, .slice none 0 0, .slice LA ln lc, .slice none 0 0, .slice none 0 0], .int .i64 0, .pointer (some ⟨p2, 0, none⟩), .pointer (some ⟨p3, 0, none⟩), .pointer (some ⟨p4, 0, none⟩), .pointer (some ⟨p5, 0, none⟩), .int .i64 0, .pointer (some ⟨q, 0, none⟩), .agg #[.slice A ys.length c, .slice none 0 0, .int .i64 0, .int .i64 0, .slice none 0 0, .slice none 0 0, .slice none 0 0, .slice none 0 0, .slice LA ln lc, .slice none 0 0, .slice none 0 0], .func (.func 168) #[] #[.pointer (some ⟨u1, 0, none⟩), .pointer (some ⟨u2, 0, none⟩), .pointer (some ⟨u3, 0, none⟩)], .int .i64 0, .agg (flA A ys.length c), undef, undef, undef, undef, undef, undef], defers := [] })
    (fun y a' => fun _ X Y row h hg hr => by
      obtain ⟨q, h1, h2⟩ := h
      exact ⟨q, ownFrom_blk _ q _ (fun _ : Unit => _) () X Y row h1 hg hr, h2⟩) ?assign ?body ?done ?stop
  case assign =>
    intro l pre y W K hI hK
    unfold flA at hK ⊢
    have NZ := Blk.new W 228 #[.slice none 0 0, .bool false, .bool false, .int .i64 0]
    obtain ⟨BX, hBx⟩ := boxed_g W 228 #[.slice none 0 0, .bool false, .bool false, .int .i64 0] #[.slice A ys.length c, .bool true, .bool false, .int .i64 0]
    have hI2 : DfI w p3 p4 p5 pre ((W.alloc (.cells #[.slice none 0 0, .bool false, .bool false, .int .i64 0] 228)).setRow W.heap.size #[.slice A ys.length c, .bool true, .bool false, .int .i64 0]) := ⟨hI.1.below hBx, hI.2⟩
    have hk1 := (others_below hBx).from w4.heap.size
    have hk2 : KpL w.heap.size W _ := fun k hk => hBx.block k (Nat.lt_of_lt_of_le hk hI.1.bel.size)
    have HK := Lib.hid (fun a' => hK a' _ hk1 hk2 hI2)
    have ho : (#[.slice A ys.length c, .bool true, .bool false, .int .i64 0] : Array Value).all (·.oneCell') = true := by simp [Value.oneCell']
    clear hK hk1 hk2 hI2
    gi_wp2_with (refine wlF_store rfl 228 _ _ rfl W.heap.size #[.slice A ys.length c, .bool true, .bool false, .int .i64 0] rfl rfl 228 _ NZ (by kernel_rfl) rfl ho ?_)
    exact HK.out _ ⟨_, BX, rfl⟩
  case body =>
    rintro l pre y a' W hl _ ⟨X5, hpre⟩ ⟨q, Bq, rfl⟩ hlt
    subst hpre
    have b0 := Bq.cell 0 rfl
    have r3 := X5.b3.cell 0 rfl
    have hb0 : w.heap.size ≤ W.heap.size := X5.bel.size
    have cC := Lib.hid (clone_any A ys.length c xs ys W (ha.below X5.bel) hy)
    unfold flA at *
    gi_upto_region 5 with fail
    gi_upto_region 6 with (refine ⟨trivial, ?_⟩; gi_at_call 117; refine (CallsIn.inRound l (callsIn_wide.2 cC.out)).mono ?_; rintro e w5 HQ; obtain ⟨A', c', zs, rfl, hM, hb5⟩ := HQ; have X6 := X5.below hb5; have r4 := X6.b4.cell 0 rfl; have f4 := X6.b4.frozen 0; have g4 := X6.s4 (.slice A' ys.length c'); have r5 := g4.b5.cell 0 rfl; have f5 := g4.b5.frozen 0; have g5 := g4.s5 true)
    have hl4 : p4 < W.heap.size := X5.b4.lt
    have hl5 : p5 < W.heap.size := X5.b5.lt
    have M6 := ((hM.setc hl4 (.slice A' ys.length c')).setc hl5 (.bool true)).base hb0
    exact ⟨(((others_below hb5).trans (KeepsOthers.setCell _ _ _)).trans (KeepsOthers.setCell _ _ _)).from w4.heap.size, rfl, A', c', zs, g5, M6⟩
  case done =>
    rintro D zs W hD rfl ⟨_, h3⟩ _
    cases h3
  case stop =>
    rintro D c pre W hD rfl ⟨rfl, A', c', zs, hB, hM⟩ hK
    have hR : ∀ r, some D = some r → ∃ o : Obj, W.heap[r]? = some o ∧ o.isCells = false := fun r e => by cases e; exact ⟨_, hK, rfl⟩
    have hg := grownBy_putObj' W D (.deferred none)
    have X9 : DfB w (W.putObj D (.deferred none)) p3 p4 p5 (.slice A' ys.length c') true := DfB.own (β := Unit) hsz4 () W _ (some D) hB hg (fun r e => by cases e; exact ⟨hD, _, hK, rfl⟩)
    have M9 := hM.others_ hg hR
    gi_wp2
    refine ⟨by simp, .inl ⟨_, _, rfl, run_takeDeferred hK, ?_⟩⟩
    exact ⟨_, results_df _ _ _ _ _ _ _ _ X9 rfl rfl, HP.out _ _ ⟨A', c', zs, rfl, M9, X9.bel⟩⟩
end Go.Proofs.YthbodpjkckminaaGreatDoor
