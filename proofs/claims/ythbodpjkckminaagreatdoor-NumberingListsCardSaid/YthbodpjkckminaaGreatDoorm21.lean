/- numbering.All of a flat document. the law's first example. the law's next and shown. -/
import Derived.Test.YthbodpjkckminaaGreatDoorV36m
import Derived.Test.YthbodpjkckminaaGreatDoorm20
namespace Go.Proofs.YthbodpjkckminaaGreatDoor
open Go.RowKit

def EnPost (w : World) (es : List En) (e : Ending) (w' : World) : Prop := ∃ (A' : Option Addr) (c' : Nat), e = .returned (.slice A' es.length c') ∧ Own w' w.heap.size 73 6 enC A' es.length c' es ∧ Below w.heap.size w w'
theorem fldOut (b : Nat) (AP : Option Addr) (np cp : Nat) (AE : Option Addr) (ne ce : Nat) (w : World) : (Instr.field 118 (.agg #[.map (some b), .slice AP np cp, .slice AE ne ce]) 2).run Tryz.prog w = .ok (.slice AE ne ce) w := by kernel_rfl
set_option maxRecDepth 100000 in
set_option maxHeartbeats 4000000 in
theorem nall_any (A : Option Addr) (m c : Nat) (LA : Option Addr) (ln lc : Nat) (xs : List It) (ys : List Fi) (es : List LsE) (vs : List (List Lv)) (w : World) (hg : Gl w) (hD : DocR w A m xs ys LA ln es vs) :
    Calls Tryz.prog 20 #[.agg (docL A m c LA ln lc).toArray] w (EnPost w (runL es vs ys (pmL ys m)).es) := by
  have N1 := Blk.new w 63 (docL A m c LA ln lc).toArray
  have hb := alloc1 w (.cells (docL A m c LA ln lc).toArray 63)
  have cR := run_any A m c LA ln lc xs ys es vs _ (hg.below hb) (hD.below hb)
  have HP := Lib.hid (show ∀ e w', (∃ (A' : Option Addr) (c' : Nat), e = .returned (.slice A' (runL es vs ys (pmL ys m)).es.length c') ∧ Own w' w.heap.size 73 6 enC A' (runL es vs ys (pmL ys m)).es.length c' (runL es vs ys (pmL ys m)).es ∧ Below w.heap.size w w') → EnPost w (runL es vs ys (pmL ys m)).es e w' from fun _ _ h => h)
  generalize runL es vs ys (pmL ys m) = st at *
  unfold RunPost at cR
  rw [show (docL A m c LA ln lc).toArray = #[.slice A m c, .slice none 0 0, .int .i64 0, .int .i64 0, .slice none 0 0, .slice none 0 0, .slice none 0 0, .slice none 0 0, .slice LA ln lc, .slice none 0 0, .slice none 0 0] from rfl] at *
  clear hg hD
  go_enter Tryz.func20, Tryz.ntmps20
  go_upto_region 1 with fail
  have q0 := N1.cell 0 rfl
  have q1 := N1.cell 1 rfl
  have q2 := N1.cell 2 rfl
  have q3 := N1.cell 3 rfl
  have q4 := N1.cell 4 rfl
  have q5 := N1.cell 5 rfl
  have q6 := N1.cell 6 rfl
  have q7 := N1.cell 7 rfl
  have q8 := N1.cell 8 rfl
  have q9 := N1.cell 9 rfl
  have q10 := N1.cell 10 rfl
  generalize w.alloc (.cells #[.slice A m c, .slice none 0 0, .int .i64 0, .int .i64 0, .slice none 0 0, .slice none 0 0, .slice none 0 0, .slice none 0 0, .slice LA ln lc, .slice none 0 0, .slice none 0 0] 63) = w1 at *
  go_wp2_with (go_at_call 46; refine cR.mono ?_; rintro e w2 ⟨b, AP, cp, AE, ce, rfl, _, oe, hb2⟩; have hf := fldOut b AP st.ps.length cp AE st.es.length ce w2; have HE := Lib.hid (And.intro (oe.base hb.size) (below_trans' hb hb.size hb2)); clear oe hb2)
  go_ret
  exact HP.out _ _ ⟨AE, ce, rfl, HE.out.1, HE.out.2⟩
end Go.Proofs.YthbodpjkckminaaGreatDoor

namespace Go.Proofs.YthbodpjkckminaaGreatDoor
open Go.RowKit

def ofK : List Int := [1, 2, 2, 1, 2]
def enKn : List En := [⟨0, 1, 1, 1, ⟨#[49, 46]⟩⟩, ⟨2, 1, 2, 1, ⟨#[49, 97, 41]⟩⟩, ⟨4, 1, 2, 2, ⟨#[49, 98, 41]⟩⟩, ⟨6, 1, 1, 2, ⟨#[50, 46]⟩⟩, ⟨8, 1, 2, 1, ⟨#[50, 97, 41]⟩⟩]
theorem pm_kn : pmL (ysK ofK) 10 = [1, 3, 5, 7, 9] := by decide
theorem cl_kn : clE knL = 0 := by kernel_rfl
theorem es_kn (AL : Option Addr) : (runL [⟨1, AL, 2, 2⟩] [knL] (ysK ofK) [1, 3, 5, 7, 9]).es = enKn := by kernel_rfl
theorem k10 {P : Nat → Prop} (h0 : P 0) (h1 : P 1) (h2 : P 2) (h3 : P 3) (h4 : P 4) (h5 : P 5) (h6 : P 6) (h7 : P 7) (h8 : P 8) (h9 : P 9) (k : Nat) (hk : k < 10) : P k := by
  rcases (show k = 0 ∨ k = 1 ∨ k = 2 ∨ k = 3 ∨ k = 4 ∨ k = 5 ∨ k = 6 ∨ k = 7 ∨ k = 8 ∨ k = 9 by omega) with rfl | rfl | rfl | rfl | rfl | rfl | rfl | rfl | rfl | rfl <;> assumption
theorem ysK10 : (ysK ofK).length = 10 := rfl
theorem psK (k : Nat) : (gFi (ysK ofK) k).ps.length ≤ 2 := by
  by_cases h : k < 10
  · exact k10 (P := fun k => (gFi (ysK ofK) k).ps.length ≤ 2) (by decide) (by decide) (by decide) (by decide) (by decide) (by decide) (by decide) (by decide) (by decide) (by decide) k h
  · rw [gFi_out (by rw [ysK10]; omega)]; decide
theorem oneX : OneF txtX := ⟨by decide, fun _ => ⟨by kernel_rfl, by kernel_rfl⟩⟩
theorem oneV (v : Int) : OneF (parV v) := ⟨by show 0 ≤ 1000000; omega, fun h => by cases h⟩
theorem dyK : DocFl (ysK ofK) := by
  refine ⟨⟨⟨⟨by rw [ysK10]; omega, fun k => Nat.le_trans (psK k) (by omega)⟩, fun k hk => ?_⟩, fun k hk => ?_⟩, fun k hk => ?_⟩
  · rw [ysK10] at hk
    exact k10 (P := fun k => (gFi (ysK ofK) k).kind = 2 ∨ ((gFi (ysK ofK) k).kind = 1 ∧ (gFi (ysK ofK) k).text.size ≠ 0 ∧ (0 < k → (gFi (ysK ofK) (k - 1)).kind = 2)))
      (.inr ⟨rfl, by decide, fun h => absurd h (by omega)⟩) (.inl rfl) (.inr ⟨rfl, by decide, fun _ => rfl⟩) (.inl rfl) (.inr ⟨rfl, by decide, fun _ => rfl⟩) (.inl rfl) (.inr ⟨rfl, by decide, fun _ => rfl⟩) (.inl rfl) (.inr ⟨rfl, by decide, fun _ => rfl⟩) (.inl rfl) k hk
  · rw [ysK10] at hk
    exact k10 (P := fun k => OneF (gFi (ysK ofK) k)) oneX (oneV _) oneX (oneV _) oneX (oneV _) oneX (oneV _) oneX (oneV _) k hk
  · rw [ysK10] at hk
    obtain rfl : k = 9 := by omega
    rfl
theorem prK (v : Int) (h : v = 1 ∨ v = 2) : PrOk (parV v).ps := by
  refine ⟨?_, ?_, fun k hk => ?_, by show 2 ≤ 1000000; omega⟩
  · rcases h with rfl | rfl <;> kernel_rfl
  · rcases h with rfl | rfl <;> kernel_rfl
  · have hk2 : k < 2 := hk
    rcases (show k = 0 ∨ k = 1 by omega) with rfl | rfl
    · exact (show (kyF 33).grp = 2 by kernel_rfl)
    · exact (show (kyF 34).grp = 2 by kernel_rfl)
theorem drK {w : World} {AI : Option Addr} {c gl : Nat} {zs : List It} {AL : Option Addr} {B : Nat} (hM : Mk_ w B AI 10 c zs (ysK ofK)) (hb : Blk w gl 96 #[.int .i64 1, .slice AL 2 2]) (hl : Sl w 4 lvC AL 2 knL) :
    DocR w AI 10 zs (ysK ofK) (some ⟨gl, 0, none⟩) 1 [⟨1, AL, 2, 2⟩] [knL] := by
  refine ⟨hM.fl rfl, dyK, ⟨Blk.slq (xs := [(⟨1, AL, 2, 2⟩ : LsE)]) hb lsC_len rfl, fun k hk => ?_, fun k hk => ?_, rfl⟩, by omega, fun k hk => ?_, fun k hk hk2 => ?_⟩
  · obtain rfl : k = 0 := by omega
    exact hl
  · obtain rfl : k = 0 := by omega
    exact Nat.le_refl _
  · obtain rfl : k = 0 := by omega
    exact cl_kn
  · revert hk2
    exact k10 (P := fun k => (gFi (ysK ofK) k).kind = 2 → PrOk (gFi (ysK ofK) k).ps) (fun h => by cases h) (fun _ => prK 1 (.inl rfl)) (fun h => by cases h) (fun _ => prK 2 (.inr rfl)) (fun h => by cases h) (fun _ => prK 2 (.inr rfl)) (fun h => by cases h) (fun _ => prK 1 (.inl rfl)) (fun h => by cases h) (fun _ => prK 2 (.inr rfl)) k hk
def enZ : En := ⟨0, 0, 0, 0, ⟨#[]⟩⟩
def gEn (es : List En) (k : Nat) : En := es.getD k enZ
theorem Sl.en {w : World} {A : Option Addr} {n : Nat} {es : List En} (h : Sl w 6 enC A n es) {k : Nat} (hk : k < n) :
    ∃ ad, A = some ad ∧ ad.block < w.heap.size ∧ w.cell? (ad.add (k * 6)) = some (.int .i64 0) ∧ w.cell? ⟨(ad.add (k * 6)).block, (ad.add (k * 6)).off + 1, none⟩ = some (.int .i64 (gEn es k).at_) ∧ w.cell? ⟨(ad.add (k * 6)).block, (ad.add (k * 6)).off + 2, none⟩ = some (.int .i64 (gEn es k).list) ∧ w.cell? ⟨(ad.add (k * 6)).block, (ad.add (k * 6)).off + 3, none⟩ = some (.int .i64 (gEn es k).level)
      ∧ w.cell? ⟨(ad.add (k * 6)).block, (ad.add (k * 6)).off + 4, none⟩ = some (.int .i64 (gEn es k).num) ∧ w.cell? ⟨(ad.add (k * 6)).block, (ad.add (k * 6)).off + 5, none⟩ = some (.string (gEn es k).lab) := by
  obtain ⟨ad, e, hl, h0, hj⟩ := h.fld enZ hk
  exact ⟨ad, e, hl, h0 _ rfl, hj 1 _ (by omega) rfl, hj 2 _ (by omega) rfl, hj 3 _ (by omega) rfl, hj 4 _ (by omega) rfl, hj 5 _ (by omega) rfl⟩
theorem cells_kn {w : World} {B g c : Nat} (oE : Own w B 73 6 enC (some ⟨g, 0, none⟩) 5 c enKn) :
    w.cell? ⟨g, 5, none⟩ = some (.string ⟨#[49, 46]⟩) ∧ w.cell? ⟨g, 11, none⟩ = some (.string ⟨#[49, 97, 41]⟩) ∧ w.cell? ⟨g, 17, none⟩ = some (.string ⟨#[49, 98, 41]⟩) ∧ w.cell? ⟨g, 23, none⟩ = some (.string ⟨#[50, 46]⟩) ∧ w.cell? ⟨g, 29, none⟩ = some (.string ⟨#[50, 97, 41]⟩) ∧ w.cell? ⟨g, 25, none⟩ = some (.int .i64 8) := by
  have rE := fun k hk => (oE.field enC_len (k := k) hk)
  refine ⟨?_, ?_, ?_, ?_, ?_, ?_⟩
  · obtain ⟨g', x, e1, _, _, hx, hc⟩ := rE 0 (by omega); cases e1; cases hx; exact hc 5 _ rfl
  · obtain ⟨g', x, e1, _, _, hx, hc⟩ := rE 1 (by omega); cases e1; cases hx; exact hc 5 _ rfl
  · obtain ⟨g', x, e1, _, _, hx, hc⟩ := rE 2 (by omega); cases e1; cases hx; exact hc 5 _ rfl
  · obtain ⟨g', x, e1, _, _, hx, hc⟩ := rE 3 (by omega); cases e1; cases hx; exact hc 5 _ rfl
  · obtain ⟨g', x, e1, _, _, hx, hc⟩ := rE 4 (by omega); cases e1; cases hx; exact hc 5 _ rfl
  · obtain ⟨g', x, e1, _, _, hx, hc⟩ := rE 4 (by omega); cases e1; cases hx; exact hc 1 _ rfl
set_option maxRecDepth 100000 in
set_option maxHeartbeats 8000000 in
theorem known_any (w : World) (hg : Gl w) : Calls Tryz.prog 8 #[] w fun e w' => e = .returned (.bool true) ∧ Below w.heap.size w w' := by
  have cL := levels_any w
  have cK := Lib.hid (fun W AL O (ho : Sl W 1 intC O 5 ofK) => llist_any AL 2 2 O 5 5 ofK W ho (by omega))
  unfold LkPost at cK
  rw [show 2 * ofK.length = 10 from rfl] at cK
  have cA := Lib.hid (fun W AI cI gl zs AL (hb : Below w.heap.size w W) (h : DocR W AI 10 zs (ysK ofK) (some ⟨gl, 0, none⟩) 1 [⟨1, AL, 2, 2⟩] [knL]) => nall_any AI 10 cI (some ⟨gl, 0, none⟩) 1 1 zs (ysK ofK) [⟨1, AL, 2, 2⟩] [knL] W (hg.below hb) h)
  unfold EnPost at cA
  rw [pm_kn] at cA
  go_enter Tryz.func8, Tryz.ntmps8
  go_wp2_with (go_at_call 26; refine cL.mono ?_; rintro e w2 ⟨AL, rfl, oL, hb2⟩; have oo := Own.lit (w := w2) (B := w.heap.size) (s := 1) (e := 3) (enc := intC) (xs := ofK) hb2.size rfl (show (5 : Nat) ≤ maxLen by unfold maxLen; omega); rw [show (ofK.flatMap intC).toArray = #[.int .i64 1, .int .i64 2, .int .i64 2, .int .i64 1, .int .i64 2] from rfl] at oo; have hal := alloc1 w2 (.cells #[.int .i64 1, .int .i64 2, .int .i64 2, .int .i64 1, .int .i64 2] 3))
  have oL := oL.below hal
  have hbw := below_trans' hb2 hb2.size hal
  have cK := cK.out _ AL _ (oo.sl intC_len)
  generalize w2.alloc (.cells #[.int .i64 1, .int .i64 2, .int .i64 2, .int .i64 1, .int .i64 2] 3) = w3 at *
  clear oo hal hb2 cL
  go_wp2_with (go_at_call 25; refine cK.mono ?_; rintro e w4 ⟨AI, cI, zs, gl, rfl, hM, hbl, hb4⟩; have cA := cA.out w4 AI cI gl zs AL (below_trans' hbw hbw.size hb4) (drK hM hbl ((oL.sl lvC_len).below hb4)))
  go_wp2_with (go_at_call 20; refine cA.mono ?_; rintro e w5 ⟨AE, cE, rfl, oE, hb5⟩; rw [show (runL [⟨1, AL, 2, 2⟩] [knL] (ysK ofK) [1, 3, 5, 7, 9]).es = enKn from es_kn AL, show enKn.length = 5 from rfl] at oE ⊢; have HB := Lib.hid (below_trans' (below_trans' hbw hbw.size hb4) (below_trans' hbw hbw.size hb4).size hb5); obtain ⟨g5, rfl, _, _⟩ := oE.form (by omega); obtain ⟨f0, f1, f2, f3, f4, f5⟩ := cells_kn oE; clear oE)
  go_ret
  exact ⟨rfl, HB.out⟩
end Go.Proofs.YthbodpjkckminaaGreatDoor

namespace Go.Proofs.YthbodpjkckminaaGreatDoor
open Go.RowKit

set_option maxHeartbeats 8000000 in
set_option maxRecDepth 100000 in
theorem lnext_any (A : Option Addr) (n cA : Nat) (ls : List Lv) (c : Cn) (M : Int) (L : Nat) (r : Int) (w : World) (ha : Sl w 4 lvC A n ls) (hn : n ≤ 9) (hL : L < n) (hcL : 0 ≤ (c L).1 ∧ (c L).1 ≤ M) (hM : M ≤ 1099511627776) :
    Calls Tryz.prog 13 #[.slice A n cA, .agg (cnA c), .int .i64 ((L : Int) + 1), .int .i64 r] w fun e w' => e = .returned (.agg (cnA (nextC ls n c L r))) ∧ Below w.heap.size w w' := by
  have T0 := CW.new w c
  have hb0 := ((Below.refl w.heap.size w).alloc (Nat.le_refl _) (.cells (cnA c) 26)).alloc (by simp) (.cells (cnA cnZ) 26)
  have L9 : L < 9 := by omega
  have L9' : (L : Int) < 9 := by omega
  go_enter Tryz.func13, Tryz.ntmps13
  go_upto_region 0 with fail
  go_cut [5, 8] (fun v5 v8 wx => ∃ p5 p8, v5 = .pointer (some ⟨p5, 0, none⟩) ∧ v8 = .pointer (some ⟨p8, 0, none⟩) ∧ CW wx w.heap.size p5 p8 c ∧ Below w.heap.size w wx)
  case first =>
    go_wp2_with fail
    go_meet
    case rel => exact ⟨_, _, rfl, rfl, T0, hb0⟩
  case rest =>
  obtain ⟨p5, p8, rfl, rfl, T1, hb1⟩ := hcut
  clear T0 hb0
  obtain ⟨z0, z1⟩ := T1.b5.cn L9
  have f0 := T1.b5.frozen L
  have f1 := T1.b5.frozen (9 + L)
  have hN : ∀ x, (x = if r ≠ 0 then (r, true) else if (c L).2 = true then ((c L).1 + 1, true) else ((gL ls L).start, true)) → nextP ls c L x n = nextC ls n c L r := by
    intro x hx
    subst hx
    funext i
    rw [nextP_at]
    unfold nextC
    by_cases h : i = L
    · subst h; rw [if_pos rfl]
    · rw [if_neg h]
      exact (if_neg h).symm
  have HN := Lib.hid hN
  clear hN
  by_cases hr : r ≠ 0
  · have hr' : (r != 0) = true := bne_iff_ne.2 hr
    have HX := Lib.hid (HN.out (r, true) (by rw [if_pos hr]))
    have T3 : CW ((wc.setCell ⟨p5, L, none⟩ (.int .i64 r)).setCell ⟨p5, 9 + L, none⟩ (.bool true)) w.heap.size p5 p8 (nextP ls c L (r, true) (L + 1)) := by rw [nextP_start]; exact T1.setns L9 _ _
    have hb3 := below_set2 hb1 T1.m5 L (9 + L) (.int .i64 r) (.bool true)
    clear T1 hb1 HN
    go_wp2_with fail
    go_loopw [10] (fun vj wr => ∃ j : Nat, vj = .int .i64 j ∧ L < j ∧ j ≤ n ∧ CW wr w.heap.size p5 p8 (nextP ls c L (r, true) j) ∧ Below w.heap.size w wr) (fun vj _ => n - (intOf vj).toNat)
    case atStart => exact ⟨L + 1, by simp, by omega, by omega, T3, hb3⟩
    case round =>
      obtain ⟨j, rfl, hLj, hj, T4, hbw⟩ := hrel
      clear T3 hb3 z0 z1 f0 f1
      by_cases hlt : j < n
      · obtain ⟨ad, e, hl2, k0, k1, k2, k3⟩ := (ha.below hbw).lv hlt
        cases e
        have j9 : j < 9 := by omega
        have j9' : (j : Int) < 9 := by omega
        have HI := Lib.hid (nextP_in ls c L (r, true) hLj)
        have HO := Lib.hid (nextP_out ls c L (r, true) (j := j))
        generalize gL ls j = lv at *
        obtain ⟨xf, xs, xt, xr⟩ := lv
        simp only at k0 k1 k2 k3 HI HO
        obtain ⟨z0, z1⟩ := T4.b5.cn j9
        have f0 := T4.b5.frozen j
        have f1 := T4.b5.frozen (9 + j)
        by_cases hxr : (L : Int) + 1 ≤ xr
        · go_wp2_with fail
          go_roundw
          case measure => rw [intOf, intOf]; omega
          case rel => exact ⟨j + 1, by simp, by omega, by omega, by rw [HI.out hxr]; exact T4.setns j9 _ _, below_set2 hbw T4.m5 _ _ _ _⟩
        · go_wp2_with fail
          go_roundw
          case measure => rw [intOf, intOf]; omega
          case rel => exact ⟨j + 1, by simp, by omega, by omega, by rw [HO.out hxr]; exact T4, hbw⟩
      · have : j = n := by omega
        subst this
        rw [HX.out] at T4
        go_upto_region 13 with fail
        have B5 := T4.b5
        have B8 := T4.b8
        unfold Blk at B5 B8
        go_wp2_with (first | (refine wpList_load_row rfl 26 _ rfl p5 rfl 26 _ (0, 0) _ B5 Tryz.underlying26 rfl (by kernel_rfl) ?_) | (refine wpList_store_row rfl 26 _ _ rfl p8 _ rfl rfl 26 _ B8 (by kernel_rfl) rfl (cnA_one _) ?_))
        refine bodyPost_ret (results_cell_row rfl _ _ p8 26 _ (0, 0) _ rfl (setRow_heap wr p8 _ _ _ _ B8) Tryz.underlying26 rfl (by kernel_rfl)) rfl ?_
        exact ⟨rfl, below_setRow hbw T4.m8 _⟩
  obtain rfl : r = 0 := by omega
  obtain ⟨ad, e, hl2, _, k1, _, _⟩ := (ha.below hb1).lv hL
  subst e
  by_cases hs : (c L).2 = true
  · have HX := Lib.hid (HN.out ((c L).1 + 1, true) (by rw [if_neg (by simp), if_pos hs]))
    have hcn : 0 ≤ (c L).1 ∧ (c L).1 + 1 ≤ 1099511627777 := by omega
    have T3 : CW ((wc.setCell ⟨p5, L, none⟩ (.int .i64 ((c L).1 + 1))).setCell ⟨p5, 9 + L, none⟩ (.bool true)) w.heap.size p5 p8 (nextP ls c L ((c L).1 + 1, true) (L + 1)) := by rw [nextP_start]; exact T1.setns L9 _ _
    have hb3 := below_set2 hb1 T1.m5 L (9 + L) (.int .i64 ((c L).1 + 1)) (.bool true)
    rw [hs] at z1
    clear T1 hb1 HN hs
    clear k1
    go_wp2_with fail
    go_loopw [10] (fun vj wr => ∃ j : Nat, vj = .int .i64 j ∧ L < j ∧ j ≤ n ∧ CW wr w.heap.size p5 p8 (nextP ls c L ((c L).1 + 1, true) j) ∧ Below w.heap.size w wr) (fun vj _ => n - (intOf vj).toNat)
    case atStart => exact ⟨L + 1, by simp, by omega, by omega, T3, hb3⟩
    case round =>
      obtain ⟨j, rfl, hLj, hj, T4, hbw⟩ := hrel
      clear T3 hb3 z0 z1 f0 f1
      by_cases hlt : j < n
      · obtain ⟨ad, e, hl2, k0, k1, k2, k3⟩ := (ha.below hbw).lv hlt
        cases e
        have j9 : j < 9 := by omega
        have j9' : (j : Int) < 9 := by omega
        have HI := Lib.hid (nextP_in ls c L ((c L).1 + 1, true) hLj)
        have HO := Lib.hid (nextP_out ls c L ((c L).1 + 1, true) (j := j))
        generalize gL ls j = lv at *
        obtain ⟨xf, xs, xt, xr⟩ := lv
        simp only at k0 k1 k2 k3 HI HO
        obtain ⟨z0, z1⟩ := T4.b5.cn j9
        have f0 := T4.b5.frozen j
        have f1 := T4.b5.frozen (9 + j)
        by_cases hxr : (L : Int) + 1 ≤ xr
        · go_wp2_with fail
          go_roundw
          case measure => rw [intOf, intOf]; omega
          case rel => exact ⟨j + 1, by simp, by omega, by omega, by rw [HI.out hxr]; exact T4.setns j9 _ _, below_set2 hbw T4.m5 _ _ _ _⟩
        · go_wp2_with fail
          go_roundw
          case measure => rw [intOf, intOf]; omega
          case rel => exact ⟨j + 1, by simp, by omega, by omega, by rw [HO.out hxr]; exact T4, hbw⟩
      · have : j = n := by omega
        subst this
        rw [HX.out] at T4
        go_upto_region 13 with fail
        have B5 := T4.b5
        have B8 := T4.b8
        unfold Blk at B5 B8
        go_wp2_with (first | (refine wpList_load_row rfl 26 _ rfl p5 rfl 26 _ (0, 0) _ B5 Tryz.underlying26 rfl (by kernel_rfl) ?_) | (refine wpList_store_row rfl 26 _ _ rfl p8 _ rfl rfl 26 _ B8 (by kernel_rfl) rfl (cnA_one _) ?_))
        refine bodyPost_ret (results_cell_row rfl _ _ p8 26 _ (0, 0) _ rfl (setRow_heap wr p8 _ _ _ _ B8) Tryz.underlying26 rfl (by kernel_rfl)) rfl ?_
        exact ⟨rfl, below_setRow hbw T4.m8 _⟩
  · have HX := Lib.hid (HN.out ((gL ls L).start, true) (by rw [if_neg (by simp), if_neg hs]))
    have T3 : CW ((wc.setCell ⟨p5, L, none⟩ (.int .i64 (gL ls L).start)).setCell ⟨p5, 9 + L, none⟩ (.bool true)) w.heap.size p5 p8 (nextP ls c L ((gL ls L).start, true) (L + 1)) := by rw [nextP_start]; exact T1.setns L9 _ _
    have hb3 := below_set2 hb1 T1.m5 L (9 + L) (.int .i64 (gL ls L).start) (.bool true)
    rw [Bool.eq_false_iff.2 hs] at z1
    clear T1 hb1 HN hs
    go_wp2_with fail
    go_loopw [10] (fun vj wr => ∃ j : Nat, vj = .int .i64 j ∧ L < j ∧ j ≤ n ∧ CW wr w.heap.size p5 p8 (nextP ls c L ((gL ls L).start, true) j) ∧ Below w.heap.size w wr) (fun vj _ => n - (intOf vj).toNat)
    case atStart => exact ⟨L + 1, by simp, by omega, by omega, T3, hb3⟩
    case round =>
      obtain ⟨j, rfl, hLj, hj, T4, hbw⟩ := hrel
      clear T3 hb3 z0 z1 f0 f1
      by_cases hlt : j < n
      · obtain ⟨ad, e, hl2, k0, k1, k2, k3⟩ := (ha.below hbw).lv hlt
        cases e
        have j9 : j < 9 := by omega
        have j9' : (j : Int) < 9 := by omega
        have HI := Lib.hid (nextP_in ls c L ((gL ls L).start, true) hLj)
        have HO := Lib.hid (nextP_out ls c L ((gL ls L).start, true) (j := j))
        generalize gL ls j = lv at *
        obtain ⟨xf, xs, xt, xr⟩ := lv
        simp only at k0 k1 k2 k3 HI HO
        obtain ⟨z0, z1⟩ := T4.b5.cn j9
        have f0 := T4.b5.frozen j
        have f1 := T4.b5.frozen (9 + j)
        by_cases hxr : (L : Int) + 1 ≤ xr
        · go_wp2_with fail
          go_roundw
          case measure => rw [intOf, intOf]; omega
          case rel => exact ⟨j + 1, by simp, by omega, by omega, by rw [HI.out hxr]; exact T4.setns j9 _ _, below_set2 hbw T4.m5 _ _ _ _⟩
        · go_wp2_with fail
          go_roundw
          case measure => rw [intOf, intOf]; omega
          case rel => exact ⟨j + 1, by simp, by omega, by omega, by rw [HO.out hxr]; exact T4, hbw⟩
      · have : j = n := by omega
        subst this
        rw [HX.out] at T4
        go_upto_region 13 with fail
        have B5 := T4.b5
        have B8 := T4.b8
        unfold Blk at B5 B8
        go_wp2_with (first | (refine wpList_load_row rfl 26 _ rfl p5 rfl 26 _ (0, 0) _ B5 Tryz.underlying26 rfl (by kernel_rfl) ?_) | (refine wpList_store_row rfl 26 _ _ rfl p8 _ rfl rfl 26 _ B8 (by kernel_rfl) rfl (cnA_one _) ?_))
        refine bodyPost_ret (results_cell_row rfl _ _ p8 26 _ (0, 0) _ rfl (setRow_heap wr p8 _ _ _ _ B8) Tryz.underlying26 rfl (by kernel_rfl)) rfl ?_
        exact ⟨rfl, below_setRow hbw T4.m8 _⟩
set_option maxHeartbeats 8000000 in
set_option maxRecDepth 100000 in
theorem lshown_any (A : Option Addr) (n cA : Nat) (ls : List Lv) (c : Cn) (L : Nat) (w : World) (ha : Sl w 4 lvC A n ls) (hn : n ≤ 9) (hL : L ≤ n) :
    Calls Tryz.prog 12 #[.slice A n cA, .agg (cnA c), .int .i64 L] w fun e w' => ∃ B cB, e = .returned (.slice B L cB) ∧ Own w' w.heap.size 3 1 intC B L cB (numsF ls c L) ∧ Below w.heap.size w w' := by
  have N0 := Blk.new w 26 (cnA c)
  have hb0 := (Below.refl w.heap.size w).alloc (Nat.le_refl _) (.cells (cnA c) 26)
  go_enter Tryz.func12, Tryz.ntmps12
  go_upto_region 0 with fail
  go_cut [4] (fun v4 wx => ∃ p4, v4 = .pointer (some ⟨p4, 0, none⟩) ∧ Blk wx p4 26 (cnA c) ∧ w.heap.size ≤ p4 ∧ Below w.heap.size w wx)
  case first =>
    go_wp2_with fail
    go_meet
    case rel => exact ⟨_, rfl, N0, Nat.le_refl _, hb0⟩
  case rest =>
  obtain ⟨p4, rfl, B4, hp4, hb1⟩ := hcut
  go_wp2_with fail
  go_loopw [7, 8] (fun vo vi wr => ∃ (i : Nat) (B : Option Addr) (cB : Nat), vo = .slice B i cB ∧ vi = .int .i64 i ∧ i ≤ L ∧ Own wr w.heap.size 3 1 intC B i cB (numsF ls c i) ∧ Blk wr p4 26 (cnA c) ∧ blk B ≠ some p4 ∧ Below w.heap.size w wr) (fun _ vi _ => L - (intOf vi).toNat)
  case atStart => exact ⟨0, none, 0, rfl, rfl, Nat.zero_le _, Own.nil_ _ _ _ _ _, B4, by simp [blk], hb1⟩
  case round =>
    obtain ⟨i, B, cB, rfl, rfl, hi, ho, B4', hne, hbw⟩ := hrel
    clear B4 hb1
    by_cases hlt : i < L
    · obtain ⟨ad, e, hl2, _, k1, _, _⟩ := (ha.below hbw).lv (show i < n by omega)
      have HS := numsF_succ ls c i
      rw [show numF ls c i = if (c i).2 = true then (c i).1 else (gL ls i).start from rfl] at HS
      have i9 : i < 9 := by omega
      have i9' : (i : Int) < 9 := by omega
      have hin : (i : Int) < n := by omega
      subst e
      generalize (gL ls i).start = xs at *
      have hne4 : blk B ≠ some p4 := hne
      obtain ⟨z0, z1⟩ := B4'.cn i9
      generalize c i = ci at z0 z1 HS
      obtain ⟨cn, cs⟩ := ci
      simp only at z0 z1 HS
      have HS := Lib.hid HS
      by_cases hcs : cs = true
      · subst hcs
        have HS := Lib.hid (show numsF ls c (i + 1) = numsF ls c i ++ [cn] by rw [HS.out]; rfl)
        go_wp2_with (at_builtin; refine wpList_push elemN rfl (.tmp 28) (.tmp 30) rfl rfl _ rfl (ho.alloc _) (cn) _ rfl rfl (intC_oneN _) rfl (by unfold maxLen; omega) (Nat.le_trans hbw.size (by simp)) ?_; intro A3 c3 w3 ho3 hg3 ha3)
        go_roundw
        case measure => rw [intOf, intOf]; omega
        case rel =>
          refine ⟨i + 1, A3, c3, rfl, by simp, by omega, by rw [HS.out]; exact ho3, (B4'.alloc _).keep hg3 (fun e => hne4 e), ?_, (hbw.alloc hbw.size _).grown hg3 (Nat.le_trans hbw.size (by simp)) (fun k hk => (ho.lt k hk).1)⟩
          rcases ha3 with h | h
          · rw [h]; exact hne4
          · rw [h]; intro e; injection e with e; have := B4'.lt; simp at e; omega
      · have hcs : cs = false := by simpa using hcs
        subst hcs
        have HS := Lib.hid (show numsF ls c (i + 1) = numsF ls c i ++ [xs] by rw [HS.out]; rfl)
        go_wp2_with (at_builtin; refine wpList_push elemN rfl (.tmp 28) (.tmp 30) rfl rfl _ rfl (ho.alloc _) (xs) _ rfl rfl (intC_oneN _) rfl (by unfold maxLen; omega) (Nat.le_trans hbw.size (by simp)) ?_; intro A3 c3 w3 ho3 hg3 ha3)
        go_roundw
        case measure => rw [intOf, intOf]; omega
        case rel =>
          refine ⟨i + 1, A3, c3, rfl, by simp, by omega, by rw [HS.out]; exact ho3, (B4'.alloc _).keep hg3 (fun e => hne4 e), ?_, (hbw.alloc hbw.size _).grown hg3 (Nat.le_trans hbw.size (by simp)) (fun k hk => (ho.lt k hk).1)⟩
          rcases ha3 with h | h
          · rw [h]; exact hne4
          · rw [h]; intro e; injection e with e; have := B4'.lt; simp at e; omega
    · have : i = L := by omega
      subst this
      go_wp2_with fail
      go_ret
      exact ⟨_, _, rfl, ho, hbw⟩
end Go.Proofs.YthbodpjkckminaaGreatDoor
