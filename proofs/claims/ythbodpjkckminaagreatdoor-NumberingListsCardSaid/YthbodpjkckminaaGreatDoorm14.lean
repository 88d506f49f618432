/- run.Normal of flat items in normal form. run.Slice of flat items. a range over a function whose iterator stores into variables of its own, of types that the caller names. No program in sight. paragraph.size, blocks: the iterator over the blocks of a flat flow. -/
import Derived.Test.YthbodpjkckminaaGreatDoorm13
import Derived.Test.YthbodpjkckminaaGreatDoorm10
namespace Go.Proofs.YthbodpjkckminaaGreatDoor
open Go.RowKit

theorem hdA_lit (A : Option Addr) (n c : Nat) (i m : Int) : (hdF A n c i m).toArray = #[.slice A n c, .int .i64 i, .int .i64 m, .slice none 0 0, .slice none 0 0] := rfl
/-- texts that are not empty and not side by side, paragraphs' marks. -/
structure NfOk (ys : List Fi) : Prop where
  ok : FlOk ys
  k : ∀ k, k < ys.length → (gFi ys k).kind = 2 ∨ ((gFi ys k).kind = 1 ∧ (gFi ys k).text.size ≠ 0 ∧ (0 < k → (gFi ys (k - 1)).kind = 2))
/-- an item that a round brings into normal form, beside what the rounds before have made. -/
structure Hz (w v : World) (p : Nat) (cs : Array Value) (A : Option Addr) (i c : Nat) (zs : List It) (ys : List Fi) (A2 : Option Addr) (n2 c2 : Nat) (ps : List Pr) : Prop where
  b : Blk v p 102 cs
  m : Mk_ v w.heap.size A i c zs ys
  o : Own v w.heap.size 91 2 prC A2 n2 c2 ps
  bel : Below w.heap.size w v
  lo : w.heap.size ≤ p
  ne : blk A ≠ some p
theorem Hz.set {w v : World} {p : Nat} {cs : Array Value} {A : Option Addr} {i c : Nat} {zs : List It} {ys : List Fi} {A2 : Option Addr} {n2 c2 : Nat} {ps : List Pr} (h : Hz w v p cs A i c zs ys A2 n2 c2 ps) (j : Nat) (u : Value) : Hz w (v.setCell ⟨p, j, none⟩ u) p (cs.setIfInBounds j u) A i c zs ys A2 n2 c2 ps :=
  ⟨h.b.set_ j u, ⟨h.m.o.keep (gset v p j u) (fun k hk => by cases hk; exact h.ne), fun k hk => by
    obtain ⟨s, e, hs⟩ := h.m.f k hk
    exact ⟨s, e, hs.keep (gset v p j u) (fun k hk => by cases hk; exact hs.ne_blk h.b (by decide))⟩⟩, h.o.keep (gset v p j u) (fun k hk => by cases hk; exact h.o.ne_blk h.b (by decide)), h.bel.setCell (p := ⟨p, j, none⟩) h.lo u, h.lo, h.ne⟩
theorem Hz.below {w v v' : World} {p : Nat} {cs : Array Value} {A : Option Addr} {i c : Nat} {zs : List It} {ys : List Fi} {A2 : Option Addr} {n2 c2 : Nat} {ps : List Pr} (h : Hz w v p cs A i c zs ys A2 n2 c2 ps) (hb : Below v.heap.size v v') : Hz w v' p cs A i c zs ys A2 n2 c2 ps :=
  ⟨h.b.below hb, h.m.below hb, h.o.below hb, below_trans' h.bel h.bel.size hb, h.lo, h.ne⟩
set_option maxHeartbeats 8000000 in
set_option maxRecDepth 100000 in
theorem normal_any (A : Option Addr) (n c : Nat) (xs : List It) (ys : List Fi) (w : World) (ha : Fl w A n xs ys) (hy : NfOk ys) :
    Calls Tryz.prog 178 #[.slice A n c] w (FlPost w ys) := by
  have hly := ha.ly
  have hn : n ≤ 1000000 := by have := hy.ok.len; omega
  have hsz := size_it
  have HP := Lib.hid (show ∀ e w', (∃ (A' : Option Addr) (c' : Nat) (zs : List It), e = .returned (.slice A' n c') ∧ Mk_ w' w.heap.size A' n c' zs ys ∧ Below w.heap.size w w') → FlPost w ys e w' from fun e w' h => by unfold FlPost; rw [hly]; exact h)
  go_enter Tryz.func178, Tryz.ntmps178
  go_wp2_with fail
  go_loopw [3, 9] (fun vo vi wr => ∃ (i : Nat) (A' : Option Addr) (c' : Nat) (zs : List It), vo = .slice A' i c' ∧ vi = .int .i64 i ∧ i ≤ n ∧ Mk_ wr w.heap.size A' i c' zs ys ∧ Below w.heap.size w wr) (fun _ vi _ => n - (intOf vi).toNat)
  case atStart => exact ⟨0, none, 0, [], rfl, rfl, Nat.zero_le _, Mk_.nil _ _ _, Below.refl _ _⟩
  case round =>
    obtain ⟨i, A', c', zs, rfl, rfl, hi, hM, hbw⟩ := hrel
    by_cases hlt : i < n
    · obtain ⟨g, o, e, hg, hr⟩ := (ha.i.below hbw).at_ itZ hlt
      obtain ⟨s, e2, hs⟩ := ha.f i hlt
      rw [show xs.getD i itZ = gIt xs i from rfl, e2, fiL_it] at hr
      subst e
      have hsn : s.n ≤ 1000000 := by have := hs.len; have := hy.ok.ps i; omega
      have hkd := hy.k i (by omega)
      have hprev : 0 < i → ∃ s, gIt zs (i - 1) = itF (gFi ys (i - 1)) s := fun h => by
        obtain ⟨s, e, _⟩ := hM.f (i - 1) (by omega)
        exact ⟨s, e⟩
      have HPV := Lib.hid hprev
      obtain ⟨y, hyy⟩ : ∃ y, gFi ys i = y := ⟨_, rfl⟩
      rw [hyy] at hr hs hkd
      have HYY := Lib.hid hyy
      clear hyy e2 hprev
      obtain ⟨kd, tx, ps⟩ := y
      obtain ⟨sA, sn, sc⟩ := s
      simp only at hs hsn hkd
      have HKD := Lib.hid hkd
      clear hkd
      have cH := Lib.hid (fun W (hW : Below wr.heap.size wr W) => cloneHead_any sA sn sc 0 0 ps W (hs.below (below_trans' hbw hbw.size hW)) hsn)
      have NZ := newZ wr
      have hone : (fiL ⟨kd, tx, ps⟩ ⟨sA, sn, sc⟩).toArray.all (·.oneCell') = true := itA_one (itF ⟨kd, tx, ps⟩ ⟨sA, sn, sc⟩)
      have hb5 := below_setRow (alloc1 wr (.cells itZA 102)) (Nat.le_refl _) (fiL ⟨kd, tx, ps⟩ ⟨sA, sn, sc⟩).toArray
      have NX := setRow_heap _ _ _ (fiL ⟨kd, tx, ps⟩ ⟨sA, sn, sc⟩).toArray _ _ NZ
      go_upto_region 4 with fail
      go_cut [5] (fun v5 wx => ∃ p, v5 = .pointer (some ⟨p, 0, none⟩) ∧ Blk wx p 102 (fiL ⟨kd, tx, ps⟩ ⟨sA, sn, sc⟩).toArray ∧ wr.heap.size ≤ p ∧ Below wr.heap.size wr wx)
      case first =>
        have HX := Lib.hid (And.intro NX hb5)
        clear NX hb5
        go_wp2_with (first | (refine wpList_load_mid rfl 102 _ rfl g (o + i * 11) rfl (fiL ⟨kd, tx, ps⟩ ⟨sA, sn, sc⟩) _ hr Tryz.underlying102 rfl hsz ?_) | (refine wpList_store_row rfl 102 _ _ rfl wr.heap.size (fiL ⟨kd, tx, ps⟩ ⟨sA, sn, sc⟩).toArray rfl rfl 102 _ NZ (by kernel_rfl) rfl hone ?_))
        go_meet
        case rel => exact ⟨_, rfl, HX.out.1, Nat.le_refl _, HX.out.2⟩
      case rest =>
      obtain ⟨p, rfl, B7, hp7, hb7⟩ := hcut
      have M7 := hM.below hb7
      have hbc := below_trans' hbw hbw.size hb7
      have cH := cH.out wc hb7
      have hwp : w.heap.size ≤ p := Nat.le_trans hbw.size hp7
      have hpA : blk A' ≠ some p := fun e => by have := (hM.o.lt p e).2; omega
      clear hr NZ NX hb5 hM hbw hb7 hs hone hp7
      have B7 : Blk wc p 102 #[.int .i64 kd, .int .i64 0, .int .i64 0, .string tx, .slice sA sn sc, .int .i64 0, .int .i64 0, .slice none 0 0, .slice none 0 0, .slice none 0 0, .slice none 0 0] := B7
      have q4 := B7.cell 4 rfl
      have q5 := B7.cell 5 rfl
      have q6 := B7.cell 6 rfl
      have q7 := B7.cell 7 rfl
      have q8 := B7.cell 8 rfl
      go_upto_region 6 with (go_at_call 146; refine cH.mono ?_; rintro e w5 ⟨A2, c2, rfl, ho5, _, hb5⟩; rw [hdA_lit]; have B8 := B7.below hb5; have q4 := B8.cell 4 rfl; have q5 := B8.cell 5 rfl; have q6 := B8.cell 6 rfl; have q7 := B8.cell 7 rfl; have q8 := B8.cell 8 rfl; have f4 := B8.frozen 4; have f5 := B8.frozen 5; have f6 := B8.frozen 6; have f7 := B8.frozen 7; have f8 := B8.frozen 8)
      have Z0 : Hz w w5 p _ A' i c' zs ys A2 sn c2 ps := ⟨B7.below hb5, M7.below hb5, ho5.base hbc.size, below_trans' hbc hbc.size hb5, hwp, hpA⟩
      have Z1 : Hz w (((((w5.setCell ⟨p, 4, none⟩ (.slice A2 sn c2)).setCell ⟨p, 5, none⟩ (.int .i64 0)).setCell ⟨p, 6, none⟩ (.int .i64 0)).setCell ⟨p, 7, none⟩ (.slice none 0 0)).setCell ⟨p, 8, none⟩ (.slice none 0 0)) p #[.int .i64 kd, .int .i64 0, .int .i64 0, .string tx, .slice A2 sn c2, .int .i64 0, .int .i64 0, .slice none 0 0, .slice none 0 0, .slice none 0 0, .slice none 0 0] A' i c' zs ys A2 sn c2 ps := ((((Z0.set 4 _).set 5 _).set 6 _).set 7 _).set 8 _
      generalize ((((w5.setCell ⟨p, 4, none⟩ (.slice A2 sn c2)).setCell ⟨p, 5, none⟩ (.int .i64 0)).setCell ⟨p, 6, none⟩ (.int .i64 0)).setCell ⟨p, 7, none⟩ (.slice none 0 0)).setCell ⟨p, 8, none⟩ (.slice none 0 0) = w6 at *
      clear Z0 ho5 hb5 M7 hbc hpA hwp q4 q5 q6 q7 q8 f4 f5 f6 f7 f8 B8 B7 cH
      have q9 := Z1.b.cell 9 rfl
      have f9 := Z1.b.frozen 9
      go_upto_region 7 with (go_at_call 178; refine (normal_nil _).mono ?_; rintro e w7 ⟨rfl, rfl⟩)
      have Z2 : Hz w (w7.setCell ⟨p, 9, none⟩ (.slice none 0 0)) p #[.int .i64 kd, .int .i64 0, .int .i64 0, .string tx, .slice A2 sn c2, .int .i64 0, .int .i64 0, .slice none 0 0, .slice none 0 0, .slice none 0 0, .slice none 0 0] A' i c' zs ys A2 sn c2 ps := Z1.set 9 _
      generalize w7.setCell ⟨p, 9, none⟩ (.slice none 0 0) = w8 at *
      clear Z1 q9 f9
      have q10 := Z2.b.cell 10 rfl
      have f10 := Z2.b.frozen 10
      go_upto_region 8 with (first | (go_at_call 147; refine (eachR_nil _ _).mono ?_; rintro e w9 ⟨rfl, rfl⟩) | (go_at_call 189; refine (delR_nil _ _).mono ?_; rintro e w10 ⟨rfl, rfl⟩))
      have Z3 : Hz w (w10.setCell ⟨p, 10, none⟩ (.slice none 0 0)) p #[.int .i64 kd, .int .i64 0, .int .i64 0, .string tx, .slice A2 sn c2, .int .i64 0, .int .i64 0, .slice none 0 0, .slice none 0 0, .slice none 0 0, .slice none 0 0] A' i c' zs ys A2 sn c2 ps := Z2.set 10 _
      generalize w10.setCell ⟨p, 10, none⟩ (.slice none 0 0) = w11 at *
      clear Z2 q10 f10
      have k0 := Z3.b.cell 0 rfl
      have k3 := Z3.b.cell 3 rfl
      have k10 := Z3.b.cell 10 rfl
      have FIN := Lib.hid (show ∀ v A3 c3, Hz w v p #[.int .i64 kd, .int .i64 0, .int .i64 0, .string tx, .slice A2 sn c2, .int .i64 0, .int .i64 0, .slice none 0 0, .slice none 0 0, .slice none 0 0, .slice none 0 0] A' i c' zs ys A2 sn c2 ps → ∀ v', Own v' w.heap.size 102 11 itC A3 (i + 1) c3 (zs ++ [itF ⟨kd, tx, ps⟩ ⟨A2, sn, c2⟩]) → v.grownBy v' (blk A') → Mk_ v' w.heap.size A3 (i + 1) c3 (zs ++ [itF ⟨kd, tx, ps⟩ ⟨A2, sn, c2⟩]) ys ∧ Below w.heap.size w v' from fun v A3 c3 hz v' ho hg => ⟨hz.m.push (s := ⟨A2, sn, c2⟩) (y := ⟨kd, tx, ps⟩) hz.o HYY.out ho hg, hz.bel.grown hg hz.bel.size (fun k e => (hz.m.o.lt k e).1)⟩)
      by_cases hk2 : kd = 2
      · subst hk2
        go_upto_region 11 with fail
        go_region
        have Z4 := Z3.below (bDrew (Below.refl _ w11))
        clear Z3 k0 k3 k10
        generalize w11.drew = w12 at *
        have B9 := Z4.b
        unfold Blk at B9
        go_wp2_with (first | (at_builtin; refine wpList_push elemIt rfl (.tmp 28) (.tmp 30) rfl rfl _ rfl (Z4.m.o.alloc _) (itF ⟨2, tx, ps⟩ ⟨A2, sn, c2⟩) _ rfl rfl (itC_one _) rfl (by unfold maxLen; omega) (Nat.le_trans Z4.bel.size (by simp)) ?_; intro A3 c3 w13 ho3 hg3 ha3) | (refine wpList_load_row rfl 102 _ rfl p rfl 102 _ (0, 0) _ B9 Tryz.underlying102 rfl (by kernel_rfl) ?_))
        go_roundw
        case measure => rw [intOf, intOf]; omega
        case rel =>
          obtain ⟨m1, m2⟩ := FIN.out _ A3 c3 (Z4.below (alloc1 w12 (.cells (itC (itF ⟨2, tx, ps⟩ ⟨A2, sn, c2⟩)).toArray 102))) _ ho3 hg3
          exact ⟨i + 1, A3, c3, _, rfl, by simp, by omega, m1, m2⟩
      · have hk1 : kd = 1 := by rcases HKD.out with h | h; exact absurd h hk2; exact h.1
        subst hk1
        have htx : tx.toList.isEmpty = false := by
          rw [ByteArray.toList_eq, List.isEmpty_eq_false_iff]
          intro e
          have h0 : tx.size = 0 := by show tx.data.size = 0; rw [← Array.length_toList, e]; rfl
          rcases HKD.out with h | h
          · omega
          · exact h.2.1 h0
        by_cases h0 : i = 0
        · subst h0
          go_upto_region 11 with fail
          go_region
          have Z4 := Z3.below (bDrew (Below.refl _ w11))
          clear Z3 k0 k3 k10
          generalize w11.drew = w12 at *
          have B9 := Z4.b
          unfold Blk at B9
          go_wp2_with (first | (at_builtin; refine wpList_push elemIt rfl (.tmp 28) (.tmp 30) rfl rfl _ rfl (Z4.m.o.alloc _) (itF ⟨1, tx, ps⟩ ⟨A2, sn, c2⟩) _ rfl rfl (itC_one _) rfl (by unfold maxLen; omega) (Nat.le_trans Z4.bel.size (by simp)) ?_; intro A3 c3 w13 ho3 hg3 ha3) | (refine wpList_load_row rfl 102 _ rfl p rfl 102 _ (0, 0) _ B9 Tryz.underlying102 rfl (by kernel_rfl) ?_))
          go_roundw
          case measure => rw [intOf, intOf]; omega
          case rel =>
            obtain ⟨m1, m2⟩ := FIN.out _ A3 c3 (Z4.below (alloc1 w12 (.cells (itC (itF ⟨1, tx, ps⟩ ⟨A2, sn, c2⟩)).toArray 102))) _ ho3 hg3
            exact ⟨0 + 1, A3, c3, _, rfl, by simp, by omega, m1, m2⟩
        · obtain ⟨j, rfl⟩ : ∃ j, i = j + 1 := ⟨i - 1, by omega⟩
          have hpk : (gFi ys j).kind = 2 := by
            rcases HKD.out with h | h
            · omega
            · have := h.2.2 (by omega); rwa [Nat.add_sub_cancel] at this
          obtain ⟨g2, rfl, hg2, hg3⟩ := Z3.m.o.form (by omega)
          have kp : w11.cell? ⟨g2, j * 11, none⟩ = some (.int .i64 2) := by
            obtain ⟨g', o', e', _, hr'⟩ := (Z3.m.o.slb itC_len).at_ itZ (k := j) (by omega)
            injection e' with e'
            injection e' with e1 e2
            subst e1 e2
            obtain ⟨s', e3⟩ := HPV.out (by omega)
            rw [Nat.add_sub_cancel] at e3
            rw [show zs.getD j itZ = gIt zs j from rfl, e3] at hr'
            have := hr' 0 _ (show (itC (itF (gFi ys j) s'))[0]? = some (.int .i64 (gFi ys j).kind) from rfl)
            rw [hpk] at this
            simpa using this
          have hw1 : IntKind.i64.wrap ((j : Int) + 1 - 1) = (j : Int) := by rw [show (j : Int) + 1 - 1 = j by omega]; exact IntWalk.i64_in _ (by omega)
          have hj0 : (0 : Int) < (j : Int) + 1 := by omega
          have hj1 : (0 : Int) ≤ (j : Int) := by omega
          go_upto_region 11 with fail
          go_region
          have Z4 := Z3.below (bDrew (Below.refl _ w11))
          clear Z3 k0 k3 k10
          generalize w11.drew = w12 at *
          have B9 := Z4.b
          unfold Blk at B9
          go_wp2_with (first | (at_builtin; refine wpList_push elemIt rfl (.tmp 28) (.tmp 30) rfl rfl _ rfl (Z4.m.o.alloc _) (itF ⟨1, tx, ps⟩ ⟨A2, sn, c2⟩) _ rfl rfl (itC_one _) rfl (by unfold maxLen; omega) (Nat.le_trans Z4.bel.size (by simp)) ?_; intro A3 c3 w13 ho3 hg3 ha3) | (refine wpList_load_row rfl 102 _ rfl p rfl 102 _ (0, 0) _ B9 Tryz.underlying102 rfl (by kernel_rfl) ?_))
          go_roundw
          case measure => rw [intOf, intOf]; omega
          case rel =>
            obtain ⟨m1, m2⟩ := FIN.out _ A3 c3 (Z4.below (alloc1 w12 (.cells (itC (itF ⟨1, tx, ps⟩ ⟨A2, sn, c2⟩)).toArray 102))) _ ho3 hg3
            exact ⟨j + 1 + 1, A3, c3, _, rfl, by simp, by omega, m1, m2⟩
    · have : i = n := by omega
      subst this
      go_wp2_with fail
      go_ret
      exact HP.out _ _ ⟨_, _, _, rfl, hM, hbw⟩
end Go.Proofs.YthbodpjkckminaaGreatDoor

namespace Go.Proofs.YthbodpjkckminaaGreatDoor
open Go.RowKit

/-- a flat item has one unit. -/
def OneF (y : Fi) : Prop := y.text.size ≤ 1000000 ∧ (y.kind = 1 → okS y.text = true ∧ cntN y.text = 1)
theorem one_itF {y : Fi} (h : OneF y) (s : SV) : One (itF y s) := by
  refine ⟨h.1, ?_, ?_⟩
  · unfold unN
    by_cases hk : y.kind = 1
    · rw [if_pos (show (itF y s).kind = 1 from hk)]; exact (h.2 hk).2
    · rw [if_neg (show ¬ (itF y s).kind = 1 from hk)]
  · unfold unE
    by_cases hk : y.kind = 1
    · rw [if_pos (show (itF y s).kind = 1 from hk)]; show cntE y.text = 0; unfold cntE; rw [if_pos (h.2 hk).1]
    · rw [if_neg (show ¬ (itF y s).kind = 1 from hk)]
/-- a flow: in normal form, each item of one unit. -/
structure FwOk (ys : List Fi) : Prop where
  nf : NfOk ys
  one : ∀ k, k < ys.length → OneF (gFi ys k)
theorem Fl.one {w : World} {A : Option Addr} {n : Nat} {xs : List It} {ys : List Fi} (h : Fl w A n xs ys) (hy : FwOk ys) : ∀ x ∈ xs, One x := by
  intro x hx
  obtain ⟨i, hi, rfl⟩ := List.mem_iff_getElem.1 hx
  have hin : i < n := by have := h.i.len; omega
  obtain ⟨s, e, _⟩ := h.f i hin
  have hg : gIt xs i = xs[i] := by unfold gIt; rw [List.getD_eq_getElem?_getD, List.getElem?_eq_getElem hi]; rfl
  rw [← hg, e]
  exact one_itF (hy.one i (by rw [h.ly]; exact hin)) s
/-- a part of a flow. -/
def sub (ys : List Fi) (a b : Nat) : List Fi := (ys.take b).drop a
theorem sub_len {ys : List Fi} {a b : Nat} (h : b ≤ ys.length) : (sub ys a b).length = b - a := by unfold sub; rw [List.length_drop, List.length_take]; omega
theorem sub_at {ys : List Fi} {a b k : Nat} (_ : b ≤ ys.length) (hk : k < b - a) : gFi (sub ys a b) k = gFi ys (a + k) := by
  unfold gFi sub
  rw [List.getD_eq_getElem?_getD, List.getD_eq_getElem?_getD, List.getElem?_drop, List.getElem?_take, if_pos (by omega)]
theorem gFi_out {ys : List Fi} {k : Nat} (h : ys.length ≤ k) : gFi ys k = fiZ := by unfold gFi; rw [List.getD_eq_getElem?_getD, List.getElem?_eq_none h]; rfl
theorem sub_nf {ys : List Fi} {a b : Nat} (hy : NfOk ys) (hb : b ≤ ys.length) : NfOk (sub ys a b) := by
  refine ⟨⟨by rw [sub_len hb]; have := hy.ok.len; omega, fun k => ?_⟩, fun k hk => ?_⟩
  · by_cases h : k < b - a
    · rw [sub_at hb h]; exact hy.ok.ps _
    · rw [gFi_out (by rw [sub_len hb]; omega)]; exact Nat.zero_le _
  · rw [sub_len hb] at hk
    rw [sub_at hb hk]
    rcases hy.k (a + k) (by omega) with h | ⟨h1, h2, h3⟩
    · exact .inl h
    · refine .inr ⟨h1, h2, fun h0 => ?_⟩
      rw [sub_at hb (by omega)]
      have := h3 (by omega)
      rwa [show a + k - 1 = a + (k - 1) by omega] at this
theorem sub_ok {ys : List Fi} {a b : Nat} (hy : FwOk ys) (hb : b ≤ ys.length) : FwOk (sub ys a b) := ⟨sub_nf hy.nf hb, fun k hk => by
  rw [sub_len hb] at hk
  rw [sub_at hb hk]
  exact hy.one _ (by omega)⟩
theorem gIt_sub {xs : List It} {a b k : Nat} (hk : k < b - a) : gIt ((xs.take b).drop a) k = gIt xs (a + k) := by
  unfold gIt
  rw [List.getD_eq_getElem?_getD, List.getD_eq_getElem?_getD, List.getElem?_drop, List.getElem?_take, if_pos (by omega)]
/-- a part of a flow, whose items lie elsewhere. -/
theorem Fl.part {w w' : World} {A A' : Option Addr} {n a b : Nat} {xs : List It} {ys : List Fi} (h : Fl w A n xs ys) (hb : Below w.heap.size w w') (hbn : b ≤ n) (hI : Its w' A' (b - a) ((xs.take b).drop a)) : Fl w' A' (b - a) ((xs.take b).drop a) (sub ys a b) :=
  ⟨hI, sub_len (by rw [h.ly]; exact hbn), fun k hk => by
    obtain ⟨s, e, hs⟩ := h.f (a + k) (by omega)
    exact ⟨s, by rw [gIt_sub hk, sub_at (by rw [h.ly]; exact hbn) hk, e], by rw [sub_at (by rw [h.ly]; exact hbn) hk]; exact hs.below hb⟩⟩
def SlPost (w : World) (ys : List Fi) (e : Ending) (w' : World) : Prop := ∃ (A' : Option Addr) (c' : Nat) (zs : List It), e = .returned (.tuple #[.slice A' ys.length c', .int .i64 0]) ∧ Mk_ w' w.heap.size A' ys.length c' zs ys ∧ Below w.heap.size w w'
set_option maxHeartbeats 4000000 in
set_option maxRecDepth 100000 in
theorem rslice_any (A : Option Addr) (n c : Nat) (xs : List It) (ys : List Fi) (a b : Nat) (w : World) (ha : Fl w A n xs ys) (hy : FwOk ys) (hab : a ≤ b) (hbn : b ≤ n) :
    Calls Tryz.prog 151 #[.slice A n c, .int .i64 (a : Nat), .int .i64 (b : Nat)] w (SlPost w (sub ys a b)) := by
  have hn : n ≤ 1000000 := by have := hy.nf.ok.len; have := ha.ly; omega
  have hone := ha.one hy
  have hxl := ha.i.len
  have cK := rcheck_any A n c xs (a : Nat) (b : Nat) w ha.i hn hone
  rw [show rgE n (a : Nat) (b : Nat) = 0 from if_neg (by omega)] at cK
  have cD1 := Lib.hid (fun W (hW : Below w.heap.size w W) => divide_any A n c xs (b : Nat) W (ha.i.below hW) hn hone (by omega) (by omega))
  have cD2 := Lib.hid (fun W A' c' (hI : Its W A' b (xs.take b)) => divide_any A' b c' (xs.take b) (a : Nat) W hI (by omega) (fun x hx => hone x (List.mem_of_mem_take hx)) (by omega) (by omega))
  have cN := Lib.hid (fun W A' c' (hW : Below w.heap.size w W) (hI : Its W A' (b - a) ((xs.take b).drop a)) => normal_any A' (b - a) c' _ _ W (ha.part hW hbn hI) (sub_nf hy.nf (by rw [ha.ly]; exact hbn)))
  have hl1 : (xs.take b).length = b := by rw [List.length_take]; omega
  have hl2 : ((xs.take b).drop a).length = b - a := by rw [List.length_drop, hl1]
  have hsl : (sub ys a b).length = b - a := sub_len (by rw [ha.ly]; exact hbn)
  have HP := Lib.hid (show ∀ e w', (∃ (A' : Option Addr) (c' : Nat) (zs : List It), e = .returned (.tuple #[.slice A' (b - a) c', .int .i64 0]) ∧ Mk_ w' w.heap.size A' (b - a) c' zs (sub ys a b) ∧ Below w.heap.size w w') → SlPost w (sub ys a b) e w' from fun e w' h => by unfold SlPost; rw [hsl]; exact h)
  simp only [Int.toNat_natCast] at cD1 cD2
  generalize hL : xs.take b = L at *
  generalize hR : L.drop a = R at *
  generalize sub ys a b = zs at *
  clear hL hR hone
  go_enter Tryz.func151, Tryz.ntmps151
  go_upto_region 4 with (go_at_call 176; refine cK.mono ?_; rintro e w2 ⟨rfl, hb2⟩)
  have cD1 := cD1.out w2 hb2
  go_upto_region 5 with (go_at_call 177; refine cD1.mono ?_; rintro e w3 ⟨AL, cL, AR, cR, rfl, oL, _, hb3⟩; rw [hl1] at oL ⊢)
  have cD2 := cD2.out w3 AL cL (oL.slb itC_len)
  have hbw := below_trans' hb2 hb2.size hb3
  go_upto_region 6 with (go_at_call 177; refine cD2.mono ?_; rintro e w4 ⟨AL2, cL2, AR2, cR2, rfl, _, oR, hb4⟩; rw [hl2] at oR ⊢)
  have hbx := below_trans' hbw hbw.size hb4
  have cN := cN.out w4 AR2 cR2 hbx (oR.slb itC_len)
  go_wp2_with (go_at_call 178; refine cN.mono ?_; rintro e w5 ⟨A', c', zs', rfl, hM, hb5⟩; rw [hsl] at hM ⊢)
  go_ret2
  refine HP.out _ _ ⟨A', c', zs', rfl, ?_, below_trans' hbx hbx.size hb5⟩
  exact ⟨hM.o.base hbx.size, fun k hk => by obtain ⟨s, e, hs⟩ := hM.f k hk; exact ⟨s, e, hs.base hbx.size⟩⟩
end Go.Proofs.YthbodpjkckminaaGreatDoor

namespace Go.Proofs.YthbodpjkckminaaGreatDoor
open Go.RowKit

section
variable {F : Fence} {n : Nat} {P : Program} {α β : Type}
/-- what may turn in the iterator's hands: a walk's object, or cells of a type of T, from block B on. -/
def Turns (B : Nat) (T : TypeId → Bool) (W : World) (r : Nat) : Prop := B ≤ r ∧ ((∃ o : Obj, W.heap[r]? = some o ∧ o.isWalk = true) ∨ ∃ cs t fr, W.heap[r]? = some (.cells cs t fr) ∧ T t = true)
def AbidesT (B : Nat) (T : TypeId → Bool) (J : β → World → Prop) : Prop := ∀ s X Y row, J s X → X.grownBy Y row → (∀ r, row = some r → Turns B T X r) → J s Y
/-- what the caller's word must bear: that, and whatever is no cells. -/
def OwnFromT (B : Nat) (T : TypeId → Bool) (I : β → World → Prop) : Prop := ∀ s X Y row, I s X → X.grownBy Y row → (∀ r, row = some r → B ≤ r ∧ ((∃ o : Obj, X.heap[r]? = some o ∧ o.isCells = false) ∨ ∃ cs t fr, X.heap[r]? = some (.cells cs t fr) ∧ T t = true)) → I s Y
def SeqStopsT (F : Fence) (n : Nat) (P : Program) (g : Nat) (lb : Array Value) (encs : α → Array Value) (Kp : World → World → Prop) (S Sp : List α → Prop) (N : Nat) (T : TypeId → Bool) (w : World) : Prop :=
  ∀ (l : Nat) (J Jx : List α → World → Prop) (W : World), Below w.heap.size w W → AbidesT W.heap.size T J → AbidesT W.heap.size T Jx →
    (∀ pre x W1, J pre W1 → pre.length < N → YieldAt F (n - 1) P l (encs x) W1 fun e W' => (e = .returned (.bool true) ∧ J (pre ++ [x]) W' ∧ Kp W1 W') ∨ (e = .returned (.bool false) ∧ Jx (pre ++ [x]) W')) →
    J [] W → CallsIn F n P g (#[.func (.yield l) #[] #[]] ++ lb) W fun e W' => (∃ v, e = .returned v) ∧ ((∃ xs, S xs ∧ J xs W') ∨ (∃ pre, Sp pre ∧ Jx pre W'))
theorem OwnFromT.of {B : Nat} {T : TypeId → Bool} {I : β → World → Prop} (h : OwnFromT B T I) {s : β} {X : World} {l : Nat} {o : Obj} (o' : Obj) (hs : I s X) (hB : B ≤ l) (hl : X.heap[l]? = some o) (ho : o.isCells = false) : I s (X.putObj l o') :=
  h s X _ (some l) hs (grownBy_putObj' X l o') fun r e => by cases e; exact ⟨hB, .inl ⟨o, hl, ho⟩⟩
theorem OwnFromT.new {B : Nat} {T : TypeId → Bool} {I : β → World → Prop} (h : OwnFromT B T I) {s : β} {X : World} (o : Obj) (hs : I s X) : I s (X.alloc o) := h s X _ none hs (World.grownBy_alloc X o none) fun r e => by cases e
/-- the law's two blocks: the loop's record and the deferred calls' block. -/
structure Two (R : Loop) (d : Nat) (W : World) : Prop where
  rc : W.heap[d + 1]? = some (.loop R)
  dfr : W.heap[d]? = some (.deferred (some []))
theorem Two.turn {R : Loop} {d B : Nat} {T : TypeId → Bool} {X Y : World} {row : Option Nat} (h : Two R d X) (hg : X.grownBy Y row) (hr : ∀ r, row = some r → Turns B T X r) : Two R d Y := by
  have ne : ∀ k (o : Obj), X.heap[k]? = some o → o.isCells = false → o.isWalk = false → some k ≠ row := fun k o hk h1 h2 e => by
    rcases (hr k e.symm).2 with ⟨o', ho', hw⟩ | ⟨cs, t, fr, hc, _⟩
    · rw [hk] at ho'; cases ho'; rw [h2] at hw; cases hw
    · rw [hk] at hc; cases hc; cases h1
  exact ⟨(hg.block _ (Array.getElem?_eq_some_iff.1 h.rc).1 (ne _ _ h.rc rfl rfl)).trans h.rc, (hg.block _ (Array.getElem?_eq_some_iff.1 h.dfr).1 (ne _ _ h.dfr rfl rfl)).trans h.dfr⟩
theorem Two.put {R R' : Loop} {d : Nat} {W : World} (h : Two R d W) : Two R' d (W.putObj (d + 1) (.loop R')) :=
  ⟨World.putObj_heap_same (Array.getElem?_eq_some_iff.1 h.rc).1, (World.putObj_heap_other (by omega)).trans h.dfr⟩
theorem Two.kept {R : Loop} {d : Nat} {W W' : World} (h : Two R d W) (hk : KeepsFrom d W W') : Two R d W' := ⟨hk.same _ _ (by omega) h.rc rfl, hk.same _ _ (Nat.le_refl _) h.dfr rfl⟩
theorem turns_own {B B' : Nat} {T : TypeId → Bool} {X : World} {row : Option Nat} (hB : B ≤ B') (hr : ∀ r, row = some r → Turns B' T X r) : ∀ r, row = some r → B ≤ r ∧ ((∃ o : Obj, X.heap[r]? = some o ∧ o.isCells = false) ∨ ∃ cs t fr, X.heap[r]? = some (.cells cs t fr) ∧ T t = true) := fun r e => by
  obtain ⟨h1, h2 | h2⟩ := hr r e
  · obtain ⟨o, ho, hw⟩ := h2
    exact ⟨Nat.le_trans hB h1, .inl ⟨o, ho, Obj.not_cells_of_walk hw⟩⟩
  · exact ⟨Nat.le_trans hB h1, .inr h2⟩
theorem wpIn_rangeFunc_T {g : Operand} {ps : Array Tmp} {assign body : Code} {Q : Exit → Act → World → Prop} {a : Act} {w : World} {T : TypeId → Bool}
    (hro : F.round = none) (h1 : 1 ≤ n) {gf : Nat} {lb : Array Value} (hg : a.eval g = .func (.func gf) #[] lb) (hFg : F.fn gf) (eg : ∀ args w, (callFunc gf args).run P w = .ok (.enter gf args) w)
    {encs : α → Array Value} {Kp : World → World → Prop} {S Sp : List α → Prop} {N : Nat} {w0 : World} (hseq : SeqStopsT F (n - 1) P gf lb encs Kp S Sp N T w0)
    (hKt : ∀ {A B C : World}, Kp A B → Kp B C → Kp A C) (hKb : ∀ (W : World) (l : Nat) (o o' : Obj), w.heap.size ≤ l → W.heap[l]? = some o → o.isCells = false → o.isWalk = false → Kp W (W.putObj l o')) (hb0 : Below w0.heap.size w0 w) (hps : ∀ x, (encs x).size = ps.size)
    (I : List α → World → Prop) (Ix : Code → List α → World → Prop) (hI : OwnFromT w.heap.size T I) (hIx : ∀ c, OwnFromT w.heap.size T (Ix c)) (h0 : I [] w) (Ax : α → Act → World → Prop) (hAx : ∀ x a', OwnFromT w.heap.size T (fun (_ : Unit) W => Ax x a' W))
    (hassign : ∀ (l : Nat) (pre : List α) (x : α) (W : World) (K : Act → World → Prop), I pre W → (∀ a' W', KeepsFrom w.heap.size W W' → Kp W W' → I pre W' → Ax x a' W' → K a' W') →
      assign.wpIn (F.inRound l) (n - 1 - 1) P (Exit.then K (fun _ _ _ => False)) { tmps := (ps.zip (encs x)).foldl (fun t (p, v) => t.setIfInBounds p v) a.tmps, defers := [] } W)
    (hbody : ∀ (l : Nat) (pre : List α) (x : α) (a' : Act) (W : World), w.heap.size ≤ l → (∃ r, W.heap[l]? = some (.loop r)) → I pre W → Ax x a' W → pre.length < N → body.wpIn (F.inRound l) (n - 1 - 1) P (ownPostG w.heap.size Kp I Ix (pre ++ [x]) W) a' W)
    (hdone : ∀ (D : Nat) (xs : List α) (W : World), w.heap.size ≤ D → S xs → I xs W → W.heap[D]? = some (.deferred (some [])) → Q .normal { a with defers := { target := .collected D, args := #[] } :: a.defers } W)
    (hstop : ∀ (D : Nat) (c : Code) (pre : List α) (W : World), w.heap.size ≤ D → Sp pre → Ix c pre W → W.heap[D]? = some (.deferred (some [])) → c.wpIn F n P Q { a with defers := { target := .collected D, args := #[] } :: a.defers } W) :
    (Code.rangeFunc g ps assign body).wpIn F n P Q a w := by
  refine wpIn_rangeFunc fun fn hfn => ?_
  rw [hro]
  let R : LoopState → Option Code → Loop := fun st pe => { state := st, pending := pe, fn, tmps := a.tmps, params := ps, assign, body, defers := w.heap.size }
  have first : Two (R .ready none) w.heap.size ((w.alloc (.deferred (some []))).alloc (.loop (R .ready none))) := by
    constructor
    · have := World.alloc_heap_new (w.alloc (.deferred (some []))) (.loop (R .ready none))
      rwa [World.size_alloc] at this
    · exact (Below.heap_alloc _ _ _ (by simp)).trans (World.alloc_heap_new w _)
  have hb1 : Below w0.heap.size w0 ((w.alloc (.deferred (some []))).alloc (.loop (R .ready none))) := hb0.trans ((((Below.refl _ w).alloc (Nat.le_refl _) _).alloc (by simp) _).mono hb0.size)
  have hs1 : ((w.alloc (.deferred (some []))).alloc (.loop (R .ready none))).heap.size = w.heap.size + 2 := by simp
  have hi1 : I [] ((w.alloc (.deferred (some []))).alloc (.loop (R .ready none))) := hI.new _ (hI.new _ h0)
  have henter := run_enterLoop_outer (P := P) (w := w) fn a.tmps ps assign body
  refine ⟨w.heap.size + 1, [{ target := .collected w.heap.size, args := #[] }], (w.alloc (.deferred (some []))).alloc (.loop (R .ready none)), { target := .fn (.func gf) lb, args := #[.func (.yield (w.heap.size + 1)) #[] #[]] }, (w.alloc (.deferred (some []))).alloc (.loop (R .ready none)), gf, #[.func (.yield (w.heap.size + 1)) #[] #[]] ++ lb, (w.alloc (.deferred (some []))).alloc (.loop (R .ready none)), henter, ?_, ?_, ?_, fun _ => h1, ?_⟩
  · simp only [resolve, hg]; simp [go_sem]
  · intro f' hf'; simp [Target.leads] at hf'; subst hf'; exact hFg
  · simp [invoke, go_sem, eg]
  generalize (w.alloc (.deferred (some []))).alloc (.loop (R .ready none)) = W1 at *
  refine (hseq (w.heap.size + 1) (fun pre W => I pre W ∧ Two (R .ready none) w.heap.size W) (fun pre W => ∃ c, Ix c pre W ∧ Two (R .done (some c)) w.heap.size W) W1 hb1
    (fun s X Y row hs hg' hr => ⟨hI s X Y row hs.1 hg' (turns_own (by omega) hr), hs.2.turn hg' hr⟩)
    (fun s X Y row hs hg' hr => let ⟨c, hc, ht⟩ := hs; ⟨c, hIx c s X Y row hc hg' (turns_own (by omega) hr), ht.turn hg' hr⟩) ?_ ⟨hi1, first⟩).mono ?_
  · rintro pre x W ⟨hi, ht⟩ hlen
    refine ⟨fn, _, assign, body, run_yield (P := P) (args := encs x) ht.rc (hps x), roundIn_of_wpIn hfn (hassign _ pre x W _ hi ?_)⟩
    intro a' W2 hkf hkp hi2 hax
    have ht2 := ht.kept hkf
    refine ⟨_, run_beginRound ht2.rc rfl, ?_⟩
    have busy : Two (R .busy none) w.heap.size (W2.putObj (w.heap.size + 1) (.loop (R .busy none))) := ht2.put
    have hkb : Kp W2 (W2.putObj (w.heap.size + 1) (.loop (R .busy none))) := hKb _ _ _ _ (by omega) ht2.rc rfl rfl
    refine wpIn_mono (hbody _ pre x a' _ (by omega) ⟨_, busy.rc⟩ (hI.of _ hi2 (by omega) ht2.rc rfl) ((hAx x a').of (s := ()) _ hax (by omega) ht2.rc rfl) hlen) ?_
    have over : ∀ (jump : Option Code) (W3 : World), KeepsFrom w.heap.size (W2.putObj (w.heap.size + 1) (.loop (R .busy none))) W3 → Two (R .busy none) w.heap.size W3 ∧ (Instr.endRound (w.heap.size + 1) jump).run P W3 = .ok (.bool jump.isNone) (W3.putObj (w.heap.size + 1) (.loop (R (if jump.isNone then .ready else .done) jump))) := fun jump W3 hk3 => by
      have t3 := busy.kept hk3
      exact ⟨t3, run_endRound (P := P) jump t3.rc⟩
    have left : ∀ (c : Code) (W3 : World), KeepsFrom w.heap.size (W2.putObj (w.heap.size + 1) (.loop (R .busy none))) W3 → Ix c (pre ++ [x]) W3 → ∃ c', Ix c' (pre ++ [x]) (W3.putObj (w.heap.size + 1) (.loop (R .done (some c)))) ∧ Two (R .done (some c')) w.heap.size (W3.putObj (w.heap.size + 1) (.loop (R .done (some c)))) := fun c W3 hk3 hx => by
      obtain ⟨t3, _⟩ := over (some c) W3 hk3
      exact ⟨c, (hIx c).of _ hx (by omega) t3.rc rfl, t3.put⟩
    intro e a3 W3 hp
    cases e with
    | normal =>
      obtain ⟨t3, hr⟩ := over none W3 hp.1
      exact ⟨_, _, hr, .inl ⟨rfl, ⟨hI.of _ hp.2.2 (by omega) t3.rc rfl, t3.put⟩, hKt hkp (hKt hkb (hKt hp.2.1 (hKb _ _ _ _ (by omega) t3.rc rfl rfl)))⟩⟩
    | ret => exact ⟨_, _, (over (some .ret) W3 hp.1).2, .inr ⟨rfl, left .ret W3 hp.1 hp.2⟩⟩
    | exit id => exact ⟨_, _, (over (some (.exit id)) W3 hp.1).2, .inr ⟨rfl, left (.exit id) W3 hp.1 hp.2⟩⟩
    | goto t => exact ⟨_, _, (over (some (.goto t)) W3 hp.1).2, .inr ⟨rfl, left (.goto t) W3 hp.1 hp.2⟩⟩
    | panic ch => exact hp.elim
    | outgrown => exact hp.elim
  · rintro e W2 ⟨⟨v, rfl⟩, ⟨xs, hS, hi, ht⟩ | ⟨pre, hSp, c, hi, ht⟩⟩
    · exact ⟨none, _, run_endLoop (P := P) ht.rc (by simp [R]), hdone _ xs _ (Nat.le_refl _) hS (hI.of _ hi (by omega) ht.rc rfl) ((World.putObj_heap_other (by omega)).trans ht.dfr)⟩
    · exact ⟨some c, _, run_endLoop (P := P) ht.rc (by simp [R]), hstop _ c pre _ (Nat.le_refl _) hSp ((hIx c).of _ hi (by omega) ht.rc rfl) ((World.putObj_heap_other (by omega)).trans ht.dfr)⟩
end
end Go.Proofs.YthbodpjkckminaaGreatDoor

namespace Go.Proofs.YthbodpjkckminaaGreatDoor
open Go.RowKit
attribute [local go_sem] Oper.semAt_some

set_option maxRecDepth 100000 in
theorem size_any (y : Fi) (s : SV) (w : World) (h : OneF y) :
    Calls Tryz.prog 115 #[.agg (fiL y s).toArray] w fun e w' => e = .returned (.int .i64 1) ∧ Below w.heap.size w w' := by
  obtain ⟨sA, sn, sc⟩ := s
  have N1 := Blk.new w 102 (fiL y ⟨sA, sn, sc⟩).toArray
  have hb1 := alloc1 w (.cells (fiL y ⟨sA, sn, sc⟩).toArray 102)
  have N2 := Blk.new (w.alloc (.cells (fiL y ⟨sA, sn, sc⟩).toArray 102)) 102 (fiL y ⟨sA, sn, sc⟩).toArray
  have hI : Its _ (some ⟨_, 0, none⟩) 1 [itF y ⟨sA, sn, sc⟩] := N2.slb (xs := [itF y ⟨sA, sn, sc⟩]) (enc := itC) itC_len rfl
  have hb2 := hb1.alloc hb1.size (.cells (fiL y ⟨sA, sn, sc⟩).toArray 102)
  have cL := len_one _ 1 1 _ _ hI (by omega) (fun x hx => by rw [List.mem_singleton.1 hx]; exact one_itF h _)
  rw [fiA_lit] at N1 N2 hb1 hb2 cL ⊢
  rw [World.size_alloc] at cL
  unfold Blk at N1
  clear hI N2 hb1
  go_enter Tryz.func115, Tryz.ntmps115
  go_wp2_with (first | (go_at_call 142; refine cL.mono ?_; rintro e w3 ⟨rfl, hb3⟩) | (refine wpList_load_row rfl 102 _ rfl w.heap.size rfl 102 _ (0, 0) _ N1 Tryz.underlying102 rfl (by kernel_rfl) ?_))
  go_ret
  exact ⟨rfl, below_trans' hb2 hb2.size hb3⟩
/-- a block of a flow. -/
structure Bk where
  kind : Int
  lo : Int
  hi : Int
  mark : Bool
deriving DecidableEq
def bkC4 (b : Bk) : List Value := [.int .i64 b.kind, .int .i64 b.lo, .int .i64 b.hi, .bool b.mark]
def bkZ : Bk := ⟨0, 0, 0, false⟩
def gBk (bs : List Bk) (i : Nat) : Bk := bs.getD i bkZ
/-- where the paragraph that an item is in begins; the paragraphs that end before an item. -/
def frK (ys : List Fi) : Nat → Nat
  | 0 => 0
  | k + 1 => if (gFi ys k).kind = 2 then k + 1 else frK ys k
def bkL (ys : List Fi) : Nat → List Bk
  | 0 => []
  | k + 1 => if (gFi ys k).kind = 2 then bkL ys k ++ [⟨1, frK ys k, (k : Int) + 1, true⟩] else bkL ys k
theorem frK_le (ys : List Fi) : ∀ k, frK ys k ≤ k
  | 0 => Nat.le_refl _
  | k + 1 => by unfold frK; split; exact Nat.le_refl _; have := frK_le ys k; omega
theorem bkL_len (ys : List Fi) : ∀ k, (bkL ys k).length ≤ k
  | 0 => Nat.le_refl _
  | k + 1 => by
    unfold bkL
    have := bkL_len ys k
    split
    · rw [List.length_append, List.length_singleton]; omega
    · omega
theorem bkL_pre (ys : List Fi) {k n : Nat} (h : k ≤ n) : ∃ t, bkL ys n = bkL ys k ++ t := by
  induction n with
  | zero => exact ⟨[], by have e : k = 0 := (by omega); subst e; simp⟩
  | succ n ih =>
    by_cases e : k = n + 1
    · subst e; exact ⟨[], by simp⟩
    · obtain ⟨t, ht⟩ := ih (by omega)
      rw [bkL]
      split
      · exact ⟨t ++ [_], by rw [ht, List.append_assoc]⟩
      · exact ⟨t, ht⟩
theorem bkL_at (ys : List Fi) {k n : Nat} (h : k < n) (hk : (gFi ys k).kind = 2) : gBk (bkL ys n) (bkL ys k).length = ⟨1, frK ys k, (k : Int) + 1, true⟩ ∧ (bkL ys k).length < (bkL ys n).length := by
  obtain ⟨t, ht⟩ := bkL_pre ys (show k + 1 ≤ n by omega)
  rw [bkL, if_pos hk] at ht
  rw [ht]
  refine ⟨?_, by simp⟩
  unfold gBk
  rw [List.getD_eq_getElem?_getD, List.append_assoc, List.getElem?_append_right (Nat.le_refl _)]
  simp
/-- the flow ends with a paragraph's mark, if it is not empty. -/
def LastP (ys : List Fi) : Prop := ∀ k, ys.length = k + 1 → (gFi ys k).kind = 2
theorem frK_last {ys : List Fi} (h : LastP ys) : frK ys ys.length = ys.length := by
  rcases hl : ys.length with _ | k
  · rfl
  · rw [frK, if_pos (h k hl)]
def TB (t : TypeId) : Bool := t == 3 || t == 4
/-- what the iterator over blocks asks of a round: what lay below N0 lies, and whatever cells hold a number, a bool, an item or its yield function. -/
structure KpB (N0 : Nat) (W W' : World) : Prop where
  low : ∀ k, k < N0 → W'.heap[k]? = W.heap[k]?
  ty : ∀ (k : Nat) (cs : Array Value) (t : TypeId) (fr : Nat × Nat), W.heap[k]? = some (.cells cs t fr) → (t = 3 ∨ t = 4 ∨ t = 102 ∨ t = 254) → W'.heap[k]? = W.heap[k]?
theorem KpB.trans_ {N0 : Nat} {X Y Z : World} (h : KpB N0 X Y) (k : KpB N0 Y Z) : KpB N0 X Z :=
  ⟨fun i hi => (k.low i hi).trans (h.low i hi), fun i cs t fr hc ht => (k.ty i cs t fr ((h.ty i cs t fr hc ht).trans hc) ht).trans (h.ty i cs t fr hc ht)⟩
theorem KpB.put_ {N0 : Nat} {w : World} (h0 : N0 ≤ w.heap.size) (W : World) (l : Nat) (o o' : Obj) (hl : w.heap.size ≤ l) (ho : W.heap[l]? = some o) (hc : o.isCells = false) (_ : o.isWalk = false) : KpB N0 W (W.putObj l o') := by
  have hg := grownBy_putObj' W l o'
  have hlt : l < W.heap.size := (Array.getElem?_eq_some_iff.1 ho).1
  refine ⟨fun k hk => hg.block k (by omega) (by simp; omega), fun k cs t fr hk _ => ?_⟩
  refine hg.block k (Array.getElem?_eq_some_iff.1 hk).1 (fun e => ?_)
  cases e
  rw [ho] at hk
  cases hk
  cases hc
theorem KpB.of_below {N0 : Nat} {W W' : World} (h : Below W.heap.size W W') (h0 : N0 ≤ W.heap.size) : KpB N0 W W' :=
  ⟨fun k hk => h.block k (by omega), fun k cs t fr hk _ => h.block k (Array.getElem?_eq_some_iff.1 hk).1⟩
theorem KpB.blk {N0 : Nat} {W W' : World} (h : KpB N0 W W') {p : Nat} {t : TypeId} {cs : Array Value} (hB : Blk W p t cs) (ht : t = 3 ∨ t = 4 ∨ t = 102 ∨ t = 254) : Blk W' p t cs := (h.ty p cs t _ hB ht).trans hB
/-- the variables of the iterator over blocks. -/
structure BkV (B : Nat) (W : World) (p2 p3 p4 p5 l : Nat) (lo k : Nat) (b : Bool) : Prop where
  b2 : Blk W p2 254 #[.func (.yield l) #[] #[]]
  b3 : Blk W p3 3 #[.int .i64 (lo : Nat)]
  b4 : Blk W p4 3 #[.int .i64 (k : Nat)]
  b5 : Blk W p5 4 #[.bool b]
  n34 : p3 ≠ p4
  lo_ : B ≤ p3 ∧ B ≤ p4 ∧ B ≤ p5
theorem BkV.below {B : Nat} {W W' : World} {p2 p3 p4 p5 l lo k : Nat} {b : Bool} (h : BkV B W p2 p3 p4 p5 l lo k b) (hb : Below W.heap.size W W') : BkV B W' p2 p3 p4 p5 l lo k b := ⟨h.b2.below hb, h.b3.below hb, h.b4.below hb, h.b5.below hb, h.n34, h.lo_⟩
theorem BkV.kp {B N0 : Nat} {W W' : World} {p2 p3 p4 p5 l lo k : Nat} {b : Bool} (h : BkV B W p2 p3 p4 p5 l lo k b) (hk : KpB N0 W W') : BkV B W' p2 p3 p4 p5 l lo k b :=
  ⟨hk.blk h.b2 (by simp), hk.blk h.b3 (by simp), hk.blk h.b4 (by simp), hk.blk h.b5 (by simp), h.n34, h.lo_⟩
theorem Blk.ne_ty {W : World} {p q : Nat} {t u : TypeId} {cs ds : Array Value} (h : Blk W p t cs) (k : Blk W q u ds) (hn : t ≠ u) : some p ≠ some q := fun e => by
  cases e
  unfold Blk at h k
  rw [h] at k
  cases k
  exact hn rfl
theorem BkV.s3 {B : Nat} {W : World} {p2 p3 p4 p5 l lo k : Nat} {b : Bool} (h : BkV B W p2 p3 p4 p5 l lo k b) (x : Nat) : BkV B (W.setCell ⟨p3, 0, none⟩ (.int .i64 (x : Nat))) p2 p3 p4 p5 l x k b :=
  ⟨h.b2.keep (gset _ _ _ _) (h.b3.ne_ty h.b2 (by decide)), h.b3.set_ 0 _, h.b4.keep (gset _ _ _ _) (by have := h.n34; simpa using this), h.b5.keep (gset _ _ _ _) (h.b3.ne_ty h.b5 (by decide)), h.n34, h.lo_⟩
theorem BkV.s4 {B : Nat} {W : World} {p2 p3 p4 p5 l lo k : Nat} {b : Bool} (h : BkV B W p2 p3 p4 p5 l lo k b) (x : Nat) : BkV B (W.setCell ⟨p4, 0, none⟩ (.int .i64 (x : Nat))) p2 p3 p4 p5 l lo x b :=
  ⟨h.b2.keep (gset _ _ _ _) (h.b4.ne_ty h.b2 (by decide)), h.b3.keep (gset _ _ _ _) (by have := h.n34.symm; simpa using this), h.b4.set_ 0 _, h.b5.keep (gset _ _ _ _) (h.b4.ne_ty h.b5 (by decide)), h.n34, h.lo_⟩
theorem BkV.s5 {B : Nat} {W : World} {p2 p3 p4 p5 l lo k : Nat} {b : Bool} (h : BkV B W p2 p3 p4 p5 l lo k b) (x : Bool) : BkV B (W.setCell ⟨p5, 0, none⟩ (.bool x)) p2 p3 p4 p5 l lo k x :=
  ⟨h.b2.keep (gset _ _ _ _) (h.b5.ne_ty h.b2 (by decide)), h.b3.keep (gset _ _ _ _) (h.b5.ne_ty h.b3 (by decide)), h.b4.keep (gset _ _ _ _) (h.b5.ne_ty h.b4 (by decide)), h.b5.set_ 0 _, h.n34, h.lo_⟩
/-- what rest does where no items are left over. -/
theorem rest_any (p3 p4 p5 p2 : Nat) (x : Nat) (w : World) (h3 : w.cell? ⟨p3, 0, none⟩ = some (.int .i64 (x : Nat))) (h4 : w.cell? ⟨p4, 0, none⟩ = some (.int .i64 (x : Nat))) :
    Calls Tryz.prog 141 #[.pointer (some ⟨p3, 0, none⟩), .pointer (some ⟨p4, 0, none⟩), .pointer (some ⟨p5, 0, none⟩), .pointer (some ⟨p2, 0, none⟩)] w fun e w' => e = .returned (.bool true) ∧ w' = w := by
  go_enter Tryz.func141, Tryz.ntmps141
  go_wp2_with fail
  go_ret
  exact ⟨by first | rfl | trivial, by trivial⟩
theorem setJ {J : List Nat → World → Prop} {B p : Nat} {X : World} {t : TypeId} {cs : Array Value} {pre : List Nat} (hAb : AbidesT B TB J) (hJ : J pre X) (hB : Blk X p t cs) (ht : TB t = true) (hp : B ≤ p) (v : Value) : J pre (X.setCell ⟨p, 0, none⟩ v) :=
  hAb pre X _ (some p) hJ (gset X p 0 v) (fun r e => by cases e; exact ⟨hp, .inr ⟨cs, t, (0, 0), hB, ht⟩⟩)
theorem belowJ {J : List Nat → World → Prop} {B : Nat} {X Y : World} {pre : List Nat} (hAb : AbidesT B TB J) (hJ : J pre X) (hb : Below X.heap.size X Y) : J pre Y := hAb pre X Y none hJ ⟨hb.os, hb.tape, hb.output, hb.size, fun k hk _ => hb.block k hk⟩ (fun r e => by cases e)
end Go.Proofs.YthbodpjkckminaaGreatDoor
