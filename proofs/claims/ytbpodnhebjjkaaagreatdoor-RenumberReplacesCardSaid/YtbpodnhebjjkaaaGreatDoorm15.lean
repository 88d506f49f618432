/- renumber: (*Seq).Labels. renumber: (*Seq).Labels, the walk. -/
import Derived.Test.YtbpodnhebjjkaaaGreatDoorm14
namespace Go.Proofs.YtbpodnhebjjkaaaGreatDoor
open Go.RowKit

section
variable {P : Program} {ops : Array Oper} {Q : Exit → Act → World → Prop} {md : Region.Mode} {S : World → Prop} {fuel : Nat} {listed : Array Bool} {a : Act} {w : World} {o : Oper} {α : Type} {s : Nat} {enc : α → List Value} {A : Option Addr} {n c : Nat} {xs : List α} {B : Nat} {e : TypeId} {t : TypeId} {b : Nat}
/-- 's = append(s, x)' in a region that draws its order. -/
theorem hx_push (i : Nat) (d : Option Tmp) (T : Elem P t e s b) (sx ox : Operand) (hi : ops[i]? = some o) (hwt : Region.wanted o (yielded ops a.tmps) = true) (hd : o.dst = d)
    (ho : o.op = .call { callee := .builtin .append, args := #[sx, ox], argTypes := #[t, t] })
    (hs : a.eval sx = .slice A n c) (g : Nat) (hx : a.eval ox = .slice (some ⟨g, 0, none⟩) 1 1) (hown : Own w B e s enc A n c xs) (x : α) (ws : World)
    (hw : w = ws.alloc (.cells (enc x).toArray e)) (hg : g = ws.heap.size) (h1 : ∀ u ∈ enc x, u.oneCell' = true) (hl : (enc x).length = s)
    (hn : (n + 1) * b ≤ 140737488355328 ∧ n + 1 ≤ maxLen) (hB : B ≤ w.heap.size)
    (h : ∀ A' c' w', Own w' B e s enc A' (n + 1) c' (xs ++ [x]) → w.grownBy w' (blk A) → S w' ∧ wpAnyH P md ops Q S fuel (listed.setIfInBounds i true) (a.put d (.slice A' (n + 1) c')) w') : StepH P md ops Q S fuel listed a w i := by
  refine hx_wp i hi hwt ?_
  obtain ⟨ht, ti, z, hti, hz, hsz, hb, hzs, hs0⟩ := T
  subst hg
  obtain ⟨v', w', hr, h2, h3, _, _⟩ := run_append_own_at (P := P) w B t o.type e ti z s b ht hti hz hsz hb hzs hs0 (.slice A n c) n (xs.flatMap enc) hown.row ⟨ws.heap.size, 0, none⟩ 1 1 (enc x) (by omega) (fun j u hu => by
    subst hw
    exact World.news_of_block (w := ws.alloc (.cells (enc x).toArray e)) (B := ws.heap.size) (cs := (enc x).toArray) (t := e) (fr := (0, 0)) (heap_alloc_new ws _) j u (by simpa using hu)) h1 hn.2 hn.1 hB
  unfold Oper.wp execOp
  simp only [ho, resolve, invoke, builtin, Sem.run_bind, Sem.run_pure, Result.andThen_ok, List.map_toArray, List.map_cons, List.map_nil, hs, hx, hr]
  obtain ⟨g', cap, hv, _, _⟩ := h2.form (by omega)
  subst hv
  rw [blk_own] at h3
  subst hd
  exact h (some ⟨g', 0, none⟩) cap w' ⟨by rw [List.length_append, hown.len]; rfl, by rw [List.flatMap_append]; simpa using h2⟩ h3
end

def strC (s : ByteArray) : List Value := [.string s]
theorem strC_len (s : ByteArray) : (strC s).length = 1 := rfl
theorem strC_one (s : ByteArray) : ∀ u ∈ strC s, u.oneCell' = true := by intro u hu; simp [strC] at hu; subst hu; rfl
theorem elemS : Elem Tryz.prog 44 9 1 16 := Elem.mk Tryz.underlying44 (z := .string ⟨#[]⟩) (by kernel_rfl) rfl (by omega)
theorem infoCn : (Tryz.prog.info? 87).map (fun i => (i.zero, i.size, i.bytes)) = some (some (.agg (cnA cnZ)), 18, 88) := by kernel_rfl
/-- make([]Counter, n). -/
theorem makeCn (n : Nat) (w : World) (hn : n ≤ 1000000) : ∃ w', (Instr.makeSlice 79 (.int .i64 n) (.int .i64 n)).run Tryz.prog w = .ok (.slice (some ⟨w.heap.size, 0, none⟩) n n) w' ∧
    Own w' w.heap.size 87 18 cnL (some ⟨w.heap.size, 0, none⟩) n n (List.replicate n cnZ) ∧ Below w.heap.size w w' := by
  obtain ⟨i, hi, hz, hs, hb⟩ := info_parts infoCn
  obtain ⟨w', h1, h2, h3⟩ := run_make_full w w.heap.size 79 87 i (.agg (cnA cnZ)) 18 Tryz.underlying79 hi hz hs .i64 .i64 n (by rw [hb]; omega) (by unfold maxLen; omega) (Nat.le_refl _)
  refine ⟨w', h1, ⟨List.length_replicate, ?_⟩, (Below.refl _ _).grown h3 (Nat.le_refl _) (fun k e => by cases e)⟩
  rw [← flat_replicate cnL cnL_len (by omega) cnZ (cnA cnZ) (by simp [cnA]) n]
  exact h2
/-- the states of all lists behind the first marks. -/
def stS (es : List LsE) (vs : List (List Lv)) (n : Nat) (ms : List Mk) (i : Nat) : List Cn := (List.range n).map (fun k => cntS (vs.getD k []) (gE es k).n (ms.take i) (gE es k).id)
theorem stS_zero (es : List LsE) (vs : List (List Lv)) (n : Nat) (ms : List Mk) : stS es vs n ms 0 = List.replicate n cnZ := by
  unfold stS
  rw [List.take_zero]
  apply List.ext_getElem?
  intro j
  rw [List.getElem?_map, List.getElem?_replicate]
  by_cases h : j < n
  · rw [List.getElem?_range h, if_pos h]; rfl
  · rw [if_neg h, List.getElem?_eq_none (by rw [List.length_range]; omega)]; rfl
theorem stS_at (es : List LsE) (vs : List (List Lv)) {n : Nat} (ms : List Mk) (i : Nat) {k : Nat} (hk : k < n) : (stS es vs n ms i)[k]? = some (cntS (vs.getD k []) (gE es k).n (ms.take i) (gE es k).id) := by
  unfold stS
  rw [List.getElem?_map, List.getElem?_range hk]; rfl
theorem stS_in {es : List LsE} {vs : List (List Lv)} {n : Nat} (he : es.length = n) (hu : Up (idsL es)) {ms : List Mk} {i li : Nat} (hi : i < ms.length) (hli : li < n) (hx : (gM ms i).list = (gE es li).id) : stS es vs n ms (i + 1) = (stS es vs n ms i).set li (cntS (vs.getD li []) (gE es li).n (ms.take (i + 1)) (gE es li).id) := by
  have hll : (stS es vs n ms i).length = n := by unfold stS; rw [List.length_map, List.length_range]
  apply List.ext_getElem?
  intro j
  rw [List.getElem?_set]
  by_cases hj : j < n
  · rw [stS_at es vs ms (i + 1) hj]
    by_cases hlj : li = j
    · subst hlj
      rw [if_pos rfl, if_pos (by rw [hll]; exact hli)]
    · rw [if_neg hlj, stS_at es vs ms i hj, cntS_take _ _ _ hi, if_neg]
      intro e
      have h1 : li < (idsL es).length := by rw [idsL_len]; omega
      have h2 : j < (idsL es).length := by rw [idsL_len]; omega
      have a1 := (hu.inj (gM ms i).list h1).2 (by rw [idsL_at]; exact hx)
      have a2 := (hu.inj (gM ms i).list h2).2 (by rw [idsL_at]; exact e)
      omega
  · have l1 : (stS es vs n ms (i + 1)).length ≤ j := by unfold stS; rw [List.length_map, List.length_range]; omega
    rw [List.getElem?_eq_none l1]
    rw [if_neg (by omega), List.getElem?_eq_none (by rw [hll]; omega)]
theorem stS_out {es : List LsE} {vs : List (List Lv)} {n : Nat} (he : es.length = n) {ms : List Mk} {i : Nat} (hi : i < ms.length) (hx : (gM ms i).list ∉ idsL es) : stS es vs n ms (i + 1) = stS es vs n ms i := by
  unfold stS
  apply List.map_congr_left
  intro k hk
  have hk := List.mem_range.1 hk
  rw [cntS_take _ _ _ hi, if_neg]
  intro e
  apply hx
  have hl : k < (idsL es).length := by rw [idsL_len]; omega
  rw [e, ← idsL_at, List.getD_eq_getElem?_getD, List.getElem?_eq_getElem hl]
  exact List.getElem_mem hl
def labsL (es : List LsE) (vs : List (List Lv)) (ms : List Mk) (i : Nat) : List ByteArray := (List.range i).map (labM es vs ms)
theorem labsL_succ (es : List LsE) (vs : List (List Lv)) (ms : List Mk) (i : Nat) : labsL es vs ms (i + 1) = labsL es vs ms i ++ [labM es vs ms i] := by simp [labsL, List.range_succ]
end Go.Proofs.YtbpodnhebjjkaaaGreatDoor

namespace Go.Proofs.YtbpodnhebjjkaaaGreatDoor
open Go.RowKit

set_option maxHeartbeats 8000000 in
set_option maxRecDepth 100000 in
theorem labels_any (p : Nat) (A : Option Addr) (n c : Nat) (es : List LsE) (vs : List (List Lv)) (Bv : Option Addr) (k ck : Nat) (ms : List Mk) (w : World) (hg : Gl w) (h : SqR w p A n c es vs Bv k ck ms) (hbig : n ≤ 1000000) (hu : Up (idsL es)) (hC : LvsOk es vs n) (hk : ∀ x ∈ ms, MkIn es x) (hm : ms.length ≤ 1000) :
    Calls Tryz.prog 10 #[.pointer (some ⟨p, 0, none⟩)] w fun e w' => ∃ A' c', e = .returned (.slice A' ms.length c') ∧ Own w' w.heap.size 9 1 strC A' ms.length c' (labsL es vs ms ms.length) ∧ Below w.heap.size w w' := by
  have he := h.ha.l.len
  have q0 := h.hp.cell 0 rfl
  obtain ⟨w1, hmk, oS, hb1⟩ := makeCn n w hbig
  have cM := seqMarks_any p A n c es vs Bv k ck ms w1 (h.below hb1) hm
  generalize hmm : ms.length = m at *
  go_enter Tryz.func10, Tryz.ntmps10
  go_wp2_with (first | (go_at_call 21; refine cM.mono ?_; rintro e w2 ⟨AM, cAM, rfl, oM, hb2⟩))
  have hb2w := below_trans' hb1 hb1.size hb2
  have oS := oS.below hb2
  have oM := oM.base hb1.size
  rw [← stS_zero es vs n ms] at oS
  generalize hgs : w.heap.size = gs at oS ⊢
  have oS := oS.base (show w.heap.size ≤ gs by omega)
  clear hmk cM hb1 hb2
  go_loopw [3, 21] (fun v3 v21 wr => ∃ (i : Nat) (A' : Option Addr) (c' : Nat), v21 = .int .i64 i ∧ i ≤ m ∧ v3 = .slice A' i c' ∧ Own wr w.heap.size 9 1 strC A' i c' (labsL es vs ms i) ∧ Own wr w.heap.size 87 18 cnL (some ⟨gs, 0, none⟩) n n (stS es vs n ms i) ∧ Own wr w.heap.size 81 3 mkC AM m cAM ms ∧ Below w.heap.size w wr) (fun _ v21 _ => m - (intOf v21).toNat)
  case atStart => exact ⟨0, none, 0, rfl, Nat.zero_le _, rfl, Own.nil_ _ _ _ _ _, oS, oM, hb2w⟩
  case round =>
    obtain ⟨i, A', c', rfl, hi, rfl, oA, oS, oM, hbw⟩ := hrel
    clear hb2w
    by_cases hlt : i < m
    · have hil : i < ms.length := by omega
      have hgl := (oS.lt gs rfl).2
      obtain ⟨am, rfl, hl2, m0, m1, m2⟩ := (oM.sl mkC_len).mk_ hlt
      have hmi := hk _ (gM_mem hil)
      have HLS := Lib.hid (labsL_succ es vs ms i)
      have HLM := Lib.hid (show labM es vs ms i = if (gM ms i).list ∈ idsL es then labF (vs.getD ((idsL es).idxOf (gM ms i).list) []) (cntS (vs.getD ((idsL es).idxOf (gM ms i).list) []) (gE es ((idsL es).idxOf (gM ms i).list)).n (ms.take (i + 1)) (gM ms i).list) ((gM ms i).level - 1).toNat else ⟨#[]⟩ from rfl)
      have HSI := Lib.hid (fun li hli hx => stS_in (vs := vs) he hu hil (li := li) hli hx)
      have HSO := Lib.hid (fun hx => stS_out (vs := vs) he hil hx)
      have HCT := Lib.hid (fun ls n' id => cntS_take ls n' id hil)
      have hbM := below_trans' hbw hbw.size (Below.refl _ _)
      have cF := fun W (hb : Below w.heap.size w W) => find_any p A n c es (.slice Bv k ck) (gM ms i).list W (h.hp.below hb) (h.ha.l.below hb) hbig hu.le
      rw [contains_mem] at cF
      generalize labM es vs ms i = lab at *
      generalize gM ms i = x at *
      obtain ⟨x0, x1, x2⟩ := x
      simp only at m0 m1 m2 HLM HSI HSO HCT
      go_upto_region 7 with fail
      go_cut [6] (fun v wx => ∃ q, v = .pointer (some ⟨q, 0, none⟩) ∧ Blk wx q 81 #[.int .i64 x0, .int .i64 x1, .int .i64 x2] ∧ wr.heap.size ≤ q ∧ Below wr.heap.size wr wx)
      case first =>
        go_wp2_with fail
        go_meet
        case rel => exact ⟨_, rfl, Blk.new _ _ _, Nat.le_refl _, (Below.refl _ _).alloc (Nat.le_refl _) _⟩
      case rest =>
      obtain ⟨q, rfl, Bm, hq, hb4⟩ := hcut
      have hbc := below_trans' hbw hbw.size hb4
      have oA := oA.below hb4
      have oS := oS.below hb4
      have oM := oM.below hb4
      have hqg : q ≠ gs := by omega
      clear m0 m1 m2 hb4 hbM
      have m0 : wc.cell? ⟨q, 0, none⟩ = some (.int .i64 x0) := Bm.cell 0 rfl
      have cF2 := cF wc hbc
      clear cF
      by_cases hin : x0 ∈ idsL es
      · have HLM := Lib.hid (HLM.out.trans (if_pos hin))
        have hmk := mkE_zero_iff (hmi hin)
        rw [hu.ix hin, decide_eq_true hin] at cF2
        have hik : (idsL es).idxOf x0 < n := by
          have := List.idxOf_lt_length_iff.2 hin
          rw [idsL_len] at this
          omega
        have hid : x0 = (gE es ((idsL es).idxOf x0)).id := by rw [← idsL_at, List.getD_eq_getElem?_getD, List.getElem?_eq_getElem (by rw [idsL_len]; omega)]; simp
        simp only at hmk
        generalize (idsL es).idxOf x0 = li at *
        obtain ⟨L, hL⟩ : ∃ L : Nat, x1 = (L : Int) + 1 := ⟨(x1 - 1).toNat, by omega⟩
        subst hL
        have hLn : L < (gE es li).n := by omega
        have hsi := HSI.out li hik hid
        rw [← hid] at hsi
        have hct := HCT.out (vs.getD li []) (gE es li).n x0
        rw [if_pos rfl, show ((L : Int) + 1 - 1).toNat = L by omega] at hct
        rw [show ((L : Int) + 1 - 1).toNat = L by omega] at HLM
        have hrow := stS_at es vs ms i hik
        rw [← hid] at hrow
        have hcl := hC.c li hik
        have hln := hC.l li hik
        have h9 := clE_len hcl
        have hLk := lvok_of hln hcl
        have hn9 : (gE es li).n ≤ 9 := by omega
        have hok := cntS_ok (ms := ms.take i) (id := (gE es li).id) hLk (sel_ok he hu hik (fun y hy => hk y (List.mem_of_mem_take hy)))
        rw [← hid] at hok
        have hjlen : ((ms.take i).length : Int) ≤ 1000 := by rw [List.length_take]; omega
        have cB := Lib.hid (fun W (hb : Below w.heap.size w W) Z => label_any p A n c es vs (.slice Bv k ck) li L Z W (hg.below hb) (h.hp.below hb) (h.ha.below hb) hik hcl hLn)
        generalize cntS (vs.getD li []) (gE es li).n (ms.take (i + 1)) x0 = Z2 at *
        generalize cntS (vs.getD li []) (gE es li).n (ms.take i) x0 = Z1 at *
        have cB2 := Lib.hid (fun W hb => cB.out W hb Z2)
        rw [← HLM.out] at cB2
        clear cB
        obtain ⟨al, eA, hal, _, g1⟩ := h.ha.l.ls hik
        have hls := h.ha.v li hik
        have li0 : (0 : Int) ≤ li := by omega
        have li1 : (li : Int) < n := by omega
        generalize vs.getD li [] = ls at *
        generalize (gE es li).n = nk at *
        generalize (gE es li).A = Ak at *
        generalize (gE es li).c = cK at *
        have cE := Lib.hid (fun W (hb : Below w.heap.size w W) => effect_any Ak nk cK ls L x2 W (hls.below hb) hn9 hLn)
        have cA := Lib.hid (fun W (hb : Below w.heap.size w W) => apply_any Ak nk cK ls (effF ls nk L x2) Z1 1 (32767 + (ms.take i).length) W (hls.below hb) hn9 hLk (effF_ok ls nk L hmk.2.2.1 hmk.2.2.2) hok (by omega) (by omega))
        rw [apply_next ls nk Z1 L x2 hLn hmk.2.2.1, ← hct, cnA_L Z1] at cA
        generalize effF ls nk L x2 = EF at *
        subst eA
        have hsi := Lib.hid hsi
        have hrow := Lib.hid hrow
        clear hid hct hok hjlen hmk hcl hln h9 hLk hn9 hls
        go_upto_region 11 with (first | (go_at_call 24; refine cF2.mono ?_; rintro e w6 ⟨rfl, hb6⟩))
        have hbd := below_trans' hbc hbc.size hb6
        have q6 : w6.cell? ⟨p, 0, none⟩ = some (.slice (some al) n c) := keep1 hbd q0
        have g1 := keep1 hbd g1
        have oA := oA.below hb6
        have oS := oS.below hb6
        have oM := oM.below hb6
        have Bm := Bm.below hb6
        have hqA : blk A' ≠ some q := oA.ne_blk Bm (by decide)
        have m1 : w6.cell? ⟨q, 1, none⟩ = some (.int .i64 ((L : Int) + 1)) := Bm.cell 1 rfl
        have m2 : w6.cell? ⟨q, 2, none⟩ = some (.int .i64 x2) := Bm.cell 2 rfl
        have gR := oS.range cnL_len hik hrow.out
        have lR := cnL_len Z2
        have zR : (Tryz.prog.info? 87).map (·.size) = some (cnL Z2).length := size48
        have zR1 : (Tryz.prog.info? 87).map (·.size) = some (cnL Z1).length := size48
        have oR := cnL_one Z2
        have hth := Lib.hid (fun W (hb : Below w6.heap.size w6 W) => (oS.below hb).thereQ cnL_len hik)
        have FIN := Lib.hid (fun W (hb : Below w6.heap.size w6 W) (hc : W.cell? ⟨q, 1, none⟩ = some (.int .i64 ((L : Int) + 1))) => show Own (W.setCells gs (li * 18) (cnL Z2)) w.heap.size 87 18 cnL (some ⟨gs, 0, none⟩) n n (stS es vs n ms (i + 1)) ∧ Own (W.setCells gs (li * 18) (cnL Z2)) w.heap.size 9 1 strC A' i c' (labsL es vs ms i) ∧ Own (W.setCells gs (li * 18) (cnL Z2)) w.heap.size 81 3 mkC (some am) m cAM ms ∧ Below w.heap.size w (W.setCells gs (li * 18) (cnL Z2)) ∧ (W.setCells gs (li * 18) (cnL Z2)).cell? ⟨q, 1, none⟩ = some (.int .i64 ((L : Int) + 1)) from ⟨by rw [hsi.out]; exact (oS.below hb).setAll cnL_len hik Z2, (oA.below hb).keep (only_setCells gs _ _ W) (fun j hj => by injection hj with hj; subst hj; exact (oA.below hb).apart_ty (oS.below hb) (by decide) _ rfl), (oM.below hb).keep (only_setCells gs _ _ W) (fun j hj => by injection hj with hj; subst hj; exact (oM.below hb).apart_ty (oS.below hb) (by decide) _ rfl), (below_trans' hbd hbd.size hb).grown (only_setCells gs _ _ W) (Nat.le_trans hbd.size hb.size) (fun j hj => by injection hj with hj; omega), (World.cell?_setCells_out _ _ _ _ _ (fun e => absurd e hqg)).trans hc⟩)
        go_upto_region 12 with fail
        go_cut [7] (fun v7 wx => v7 = .int .i64 li ∧ Own wx w.heap.size 87 18 cnL (some ⟨gs, 0, none⟩) n n (stS es vs n ms (i + 1)) ∧ Own wx w.heap.size 9 1 strC A' i c' (labsL es vs ms i) ∧ Own wx w.heap.size 81 3 mkC (some am) m cAM ms ∧ Below w.heap.size w wx ∧ wx.cell? ⟨q, 1, none⟩ = some (.int .i64 ((L : Int) + 1)))
        case first =>
          refine wp_region_held_drew (S := fun w' => w'.cell? ⟨q, 1, none⟩ = some (.int .i64 ((L : Int) + 1)) ∧ w'.cell? ⟨q, 2, none⟩ = some (.int .i64 x2)) (by kernel_rfl) ⟨m1, m2⟩ (fun hHeld => ?_)
          refine hx_take 0 (some 45) _ rfl (by kernel_rfl) (by kernel_rfl) (by kernel_rfl) (fun _ _ _ h => h) rfl (Or.inl ⟨by rfl, fun w hSw => by first | (go_simp; done) | (go_simp; with_reducible rfl)⟩) (by assumption) ?_
          try simp only [Act.put, List.setIfInBounds_toArray, List.set_cons_zero, List.set_cons_succ]
          refine hx_take 1 (some 46) _ rfl (by kernel_rfl) (by kernel_rfl) (by kernel_rfl) (fun _ _ _ h => h) rfl (Or.inl ⟨by rfl, fun w hSw => by first | (go_simp; done) | (go_simp; with_reducible rfl)⟩) (by assumption) ?_
          try simp only [Act.put, List.setIfInBounds_toArray, List.set_cons_zero, List.set_cons_succ]
          refine hx_take 2 (some 47) _ rfl (by kernel_rfl) (by kernel_rfl) (by kernel_rfl) (fun _ _ _ h => h) rfl (Or.inl ⟨by rfl, fun w hSw => by first | (go_simp; done) | (go_simp; with_reducible rfl)⟩) (by assumption) ?_
          try simp only [Act.put, List.setIfInBounds_toArray, List.set_cons_zero, List.set_cons_succ]
          refine hx_take 3 (some 48) _ rfl (by kernel_rfl) (by kernel_rfl) (by kernel_rfl) (fun _ _ _ h => h) rfl (Or.inl ⟨by rfl, fun w hSw => by first | (go_simp; done) | (go_simp; with_reducible rfl)⟩) (by assumption) ?_
          try simp only [Act.put, List.setIfInBounds_toArray, List.set_cons_zero, List.set_cons_succ]
          refine hx_take 4 (some 49) _ rfl (by kernel_rfl) (by kernel_rfl) (by kernel_rfl) (fun _ _ _ h => h) rfl (Or.inl ⟨by rfl, fun w hSw => by first | (go_simp; done) | (go_simp; with_reducible rfl)⟩) (by assumption) ?_
          try simp only [Act.put, List.setIfInBounds_toArray, List.set_cons_zero, List.set_cons_succ]
          refine hx_take 6 (some 51) _ rfl (by kernel_rfl) (by kernel_rfl) (by kernel_rfl) (fun _ _ _ h => h) rfl (Or.inl ⟨by rfl, fun w hSw => by first | (go_simp; done) | (go_simp; with_reducible rfl)⟩) (by assumption) ?_
          try simp only [Act.put, List.setIfInBounds_toArray, List.set_cons_zero, List.set_cons_succ]
          refine hx_take 9 (some 54) _ rfl (by kernel_rfl) (by kernel_rfl) (by kernel_rfl) (fun _ _ _ h => h) rfl (Or.inl ⟨by rfl, fun w hSw => by first | (go_simp; done) | (go_simp; with_reducible rfl)⟩) (by assumption) ?_
          try simp only [Act.put, List.setIfInBounds_toArray, List.set_cons_zero, List.set_cons_succ]
          refine hx_take 10 (some 55) _ rfl (by kernel_rfl) (by kernel_rfl) (by kernel_rfl) (fun _ _ _ h => h) rfl (Or.inl ⟨by rfl, fun w hSw => by first | (go_simp; done) | (go_simp; with_reducible rfl)⟩) (by assumption) ?_
          try simp only [Act.put, List.setIfInBounds_toArray, List.set_cons_zero, List.set_cons_succ]
          refine hx_take 5 (some 50) _ rfl (by kernel_rfl) (by kernel_rfl) (by kernel_rfl) (fun _ _ _ h => h) rfl (Or.inl ⟨by rfl, fun w hSw => by first | (go_simp; done) | (go_simp; with_reducible rfl)⟩) (by assumption) ?_
          try simp only [Act.put, List.setIfInBounds_toArray, List.set_cons_zero, List.set_cons_succ]
          refine hx_take 7 (some 52) _ rfl (by kernel_rfl) (by kernel_rfl) (by kernel_rfl) (fun _ _ _ h => h) rfl (Or.inl ⟨by rfl, fun w hSw => by first | (go_simp; done) | (go_simp; with_reducible rfl)⟩) (by assumption) ?_
          try simp only [Act.put, List.setIfInBounds_toArray, List.set_cons_zero, List.set_cons_succ]
          refine hx_take 11 (some 56) (.pointer (some ⟨gs, li * 18, none⟩)) rfl (by kernel_rfl) (by kernel_rfl) (by kernel_rfl) (fun _ _ _ h => h) rfl (Or.inl ⟨by rfl, fun w hSw => by first | (go_simp; done) | (go_simp; with_reducible rfl)⟩) (by assumption) ?_
          try simp only [Act.put, List.setIfInBounds_toArray, List.set_cons_zero, List.set_cons_succ]
          refine hx2 8 12 (by kernel_rfl) ?_ ?_
          · refine hx_call 8 (some 53) _ _ _ _ rfl (by rfl) rfl (by go_simp) (cE.out w6.drew (bDrew hbd)) ?_
            rintro w9 hb9
            have hb9 : Below w6.heap.size w6 w9 := (bDrew (Below.refl _ _)).trans hb9
            refine ⟨⟨keep1 hb9 m1, keep1 hb9 m2⟩, ?_⟩
            try simp only [Act.put, List.setIfInBounds_toArray, List.set_cons_zero, List.set_cons_succ]
            refine hx1 12 (by kernel_rfl) ?_
            refine hx_loadQ 12 (some 57) _ _ gs (li * 18) (cnL Z1) _ rfl (by rfl) rfl rfl rfl (fun j v hv => keep1 hb9 (gR j v hv)) Tryz.underlying87 rfl zR1 ⟨keep1 hb9 m1, keep1 hb9 m2⟩ ?_
            try simp only [Act.put, List.setIfInBounds_toArray, List.set_cons_zero, List.set_cons_succ]
            refine hx1 13 (by kernel_rfl) ?_
            refine hx_call 13 (some 58) _ _ _ _ rfl (by rfl) rfl (by go_simp) (cA.out w9 (below_trans' hbd hbd.size hb9)) ?_
            rintro w8 hb8
            have hb8 := below_trans' hb9 hb9.size hb8
            have S8 : w8.cell? ⟨q, 1, none⟩ = some (.int .i64 ((L : Int) + 1)) ∧ w8.cell? ⟨q, 2, none⟩ = some (.int .i64 x2) := ⟨keep1 hb8 m1, keep1 hb8 m2⟩
            refine ⟨S8, ?_⟩
            try simp only [Act.put, List.setIfInBounds_toArray, List.set_cons_zero, List.set_cons_succ]
            refine hx_take 14 (some 59) (.pointer (some ⟨gs, li * 18, none⟩)) rfl (by kernel_rfl) (by kernel_rfl) (by kernel_rfl) (fun _ _ _ h => h) rfl (Or.inl ⟨by rfl, fun w hSw => by first | (go_simp; done) | (go_simp; with_reducible rfl)⟩) (by assumption) ?_
            try simp only [Act.put, List.setIfInBounds_toArray, List.set_cons_zero, List.set_cons_succ]
            obtain ⟨oS9, oA9, oM9, hb20, m1n⟩ := FIN.out w8 hb8 S8.1
            refine hx1 15 (by kernel_rfl) ?_
            refine hx_storeQ 15 _ _ _ gs (li * 18) (cnL Z2) rfl (by rfl) rfl rfl rfl rfl (by rw [lR]; exact hth.out w8 hb8) zR oR ⟨m1n, (World.cell?_setCells_out _ _ _ _ _ (fun e => absurd e hqg)).trans S8.2⟩ ?_
            try simp only [Act.put, List.setIfInBounds_toArray, List.set_cons_zero, List.set_cons_succ]
            refine wpAnyH_done (by kernel_rfl) ?_ _
            generalize w8.setCells gs (li * 18) (cnL Z2) = w10 at *
            go_wp2_with fail
            go_meet
            case rel => exact ⟨rfl, oS9, oA9, oM9, hb20, m1n⟩
          · refine hx_loadQ 12 (some 57) _ _ gs (li * 18) (cnL Z1) _ rfl (by rfl) rfl rfl rfl gR Tryz.underlying87 rfl zR1 hHeld ?_
            try simp only [Act.put, List.setIfInBounds_toArray, List.set_cons_zero, List.set_cons_succ]
            refine hx1 8 (by kernel_rfl) ?_
            refine hx_call 8 (some 53) _ _ _ _ rfl (by rfl) rfl (by go_simp) (cE.out w6.drew (bDrew hbd)) ?_
            rintro w9 hb9
            have hb9 : Below w6.heap.size w6 w9 := (bDrew (Below.refl _ _)).trans hb9
            refine ⟨⟨keep1 hb9 m1, keep1 hb9 m2⟩, ?_⟩
            try simp only [Act.put, List.setIfInBounds_toArray, List.set_cons_zero, List.set_cons_succ]
            refine hx1 13 (by kernel_rfl) ?_
            refine hx_call 13 (some 58) _ _ _ _ rfl (by rfl) rfl (by go_simp) (cA.out w9 (below_trans' hbd hbd.size hb9)) ?_
            rintro w8 hb8
            have hb8 := below_trans' hb9 hb9.size hb8
            have S8 : w8.cell? ⟨q, 1, none⟩ = some (.int .i64 ((L : Int) + 1)) ∧ w8.cell? ⟨q, 2, none⟩ = some (.int .i64 x2) := ⟨keep1 hb8 m1, keep1 hb8 m2⟩
            refine ⟨S8, ?_⟩
            try simp only [Act.put, List.setIfInBounds_toArray, List.set_cons_zero, List.set_cons_succ]
            refine hx_take 14 (some 59) (.pointer (some ⟨gs, li * 18, none⟩)) rfl (by kernel_rfl) (by kernel_rfl) (by kernel_rfl) (fun _ _ _ h => h) rfl (Or.inl ⟨by rfl, fun w hSw => by first | (go_simp; done) | (go_simp; with_reducible rfl)⟩) (by assumption) ?_
            try simp only [Act.put, List.setIfInBounds_toArray, List.set_cons_zero, List.set_cons_succ]
            obtain ⟨oS9, oA9, oM9, hb20, m1n⟩ := FIN.out w8 hb8 S8.1
            refine hx1 15 (by kernel_rfl) ?_
            refine hx_storeQ 15 _ _ _ gs (li * 18) (cnL Z2) rfl (by rfl) rfl rfl rfl rfl (by rw [lR]; exact hth.out w8 hb8) zR oR ⟨m1n, (World.cell?_setCells_out _ _ _ _ _ (fun e => absurd e hqg)).trans S8.2⟩ ?_
            try simp only [Act.put, List.setIfInBounds_toArray, List.set_cons_zero, List.set_cons_succ]
            refine wpAnyH_done (by kernel_rfl) ?_ _
            generalize w8.setCells gs (li * 18) (cnL Z2) = w10 at *
            go_wp2_with fail
            go_meet
            case rel => exact ⟨rfl, oS9, oA9, oM9, hb20, m1n⟩
        case rest =>
        clear FIN hth gR oA oS oM Bm m1 m2 q6 g1
        obtain ⟨rfl, oS, oA, oM, hbx, m1⟩ := hcut
        have hrow2 : (stS es vs n ms (i + 1))[li]? = some Z2 := by rw [hsi.out, List.getElem?_set, if_pos rfl, if_pos (by have := oS.len; rw [hsi.out, List.length_set] at this; omega)]
        have gR := oS.range cnL_len hik hrow2
        clear hrow2
        rw [cnA_L Z2] at cB2
        have hsl : q < wc.heap.size := World.block_lt_of_cell? _ _ m1
        go_upto_region 13 with fail
        refine wp_region_held_drew (S := fun w' => w'.cell? ⟨q, 1, none⟩ = some (.int .i64 ((L : Int) + 1))) (by kernel_rfl) m1 (fun hHeld => ?_)
        refine hx_take 0 (some 60) _ rfl (by kernel_rfl) (by kernel_rfl) (by kernel_rfl) (fun _ _ _ h => h) rfl (Or.inl ⟨by rfl, fun w hSw => by first | (go_simp; done) | (go_simp; with_reducible rfl)⟩) (by assumption) ?_
        try simp only [Act.put, List.setIfInBounds_toArray, List.set_cons_zero, List.set_cons_succ]
        refine hx_take 1 (some 61) _ rfl (by kernel_rfl) (by kernel_rfl) (by kernel_rfl) (fun _ _ _ h => h) rfl (Or.inl ⟨by rfl, fun w hSw => by first | (go_simp; done) | (go_simp; with_reducible rfl)⟩) (by assumption) ?_
        try simp only [Act.put, List.setIfInBounds_toArray, List.set_cons_zero, List.set_cons_succ]
        refine hx_take 2 (some 62) _ rfl (by kernel_rfl) (by kernel_rfl) (by kernel_rfl) (fun _ _ _ h => h) rfl (Or.inl ⟨by rfl, fun w hSw => by first | (go_simp; done) | (go_simp; with_reducible rfl)⟩) (by assumption) ?_
        try simp only [Act.put, List.setIfInBounds_toArray, List.set_cons_zero, List.set_cons_succ]
        refine hx_take 3 (some 63) _ rfl (by kernel_rfl) (by kernel_rfl) (by kernel_rfl) (fun _ _ _ h => h) rfl (Or.inl ⟨by rfl, fun w hSw => by first | (go_simp; done) | (go_simp; with_reducible rfl)⟩) (by assumption) ?_
        try simp only [Act.put, List.setIfInBounds_toArray, List.set_cons_zero, List.set_cons_succ]
        refine hx_take 5 (some 65) _ rfl (by kernel_rfl) (by kernel_rfl) (by kernel_rfl) (fun _ _ _ h => h) rfl (Or.inl ⟨by rfl, fun w hSw => by first | (go_simp; done) | (go_simp; with_reducible rfl)⟩) (by assumption) ?_
        try simp only [Act.put, List.setIfInBounds_toArray, List.set_cons_zero, List.set_cons_succ]
        refine hx_take 6 (some 66) _ rfl (by kernel_rfl) (by kernel_rfl) (by kernel_rfl) (fun _ _ _ h => h) rfl (Or.inl ⟨by rfl, fun w hSw => by first | (go_simp; done) | (go_simp; with_reducible rfl)⟩) (by assumption) ?_
        try simp only [Act.put, List.setIfInBounds_toArray, List.set_cons_zero, List.set_cons_succ]
        refine hx_take 4 (some 64) _ rfl (by kernel_rfl) (by kernel_rfl) (by kernel_rfl) (fun _ _ _ h => h) rfl (Or.inl ⟨by rfl, fun w hSw => by first | (go_simp; done) | (go_simp; with_reducible rfl)⟩) (by assumption) ?_
        try simp only [Act.put, List.setIfInBounds_toArray, List.set_cons_zero, List.set_cons_succ]
        refine hx_take 7 (some 67) (.pointer (some ⟨gs, li * 18, none⟩)) rfl (by kernel_rfl) (by kernel_rfl) (by kernel_rfl) (fun _ _ _ h => h) rfl (Or.inl ⟨by rfl, fun w hSw => by first | (go_simp; done) | (go_simp; with_reducible rfl)⟩) (by assumption) ?_
        try simp only [Act.put, List.setIfInBounds_toArray, List.set_cons_zero, List.set_cons_succ]
        refine hx1 8 (by kernel_rfl) ?_
        refine hx_loadQ 8 (some 68) _ _ gs (li * 18) (cnL Z2) _ rfl (by rfl) rfl rfl rfl gR Tryz.underlying87 rfl zR hHeld ?_
        try simp only [Act.put, List.setIfInBounds_toArray, List.set_cons_zero, List.set_cons_succ]
        refine hx1 9 (by kernel_rfl) ?_
        refine hx_call 9 (some 69) _ _ _ _ rfl (by rfl) rfl (by go_simp) (cB2.out wc.drew (bDrew hbx)) ?_
        rintro w9 hb9
        have hb9 : Below wc.heap.size wc w9 := (bDrew (Below.refl _ _)).trans hb9
        have hS9 := keep1 hb9 m1
        refine ⟨hS9, ?_⟩
        try simp only [Act.put, List.setIfInBounds_toArray, List.set_cons_zero, List.set_cons_succ]
        have hbA := (Below.refl w9.heap.size w9).alloc (Nat.le_refl _) (.cells #[.string lab] 9)
        have hSA := keep1 hbA hS9
        refine hx1 10 (by kernel_rfl) ?_
        refine hx_val 10 (some 70) (.slice (some ⟨w9.heap.size, 0, none⟩) 1 1) (w9.alloc (.cells #[.string lab] 9)) rfl (by rfl) rfl (by first | (go_simp; done) | (go_simp; with_reducible rfl)) hSA ?_
        try simp only [Act.put, List.setIfInBounds_toArray, List.set_cons_zero, List.set_cons_succ]
        have oA := oA.below hb9
        have oS := oS.below hb9
        have oM := oM.below hb9
        have hbx := below_trans' hbx hbx.size hb9
        refine hx1 11 (by kernel_rfl) ?_
        refine hx_push 11 (some 71) elemS (.tmp 60) (.tmp 70) rfl (by rfl) rfl rfl rfl _ rfl (oA.alloc _) lab w9 rfl rfl (strC_one _) rfl (by unfold maxLen; omega) (Nat.le_trans hbx.size (by simp)) ?_
        intro A2 c2 w7 ho7 hg7
        have hS7 : w7.cell? ⟨q, 1, none⟩ = some (.int .i64 ((L : Int) + 1)) := (World.cell?_of_block (a := ⟨q, 1, none⟩) (hg7.block q (by have := hb9.size; simp; omega) (fun e => hqA e.symm))).trans hSA
        refine ⟨hS7, ?_⟩
        try simp only [Act.put, List.setIfInBounds_toArray, List.set_cons_zero, List.set_cons_succ]
        refine hx_take 12 (some 3) _ rfl (by kernel_rfl) (by kernel_rfl) (by kernel_rfl) (fun _ _ _ h => h) rfl (Or.inl ⟨by rfl, fun w hSw => by first | (go_simp; done) | (go_simp; with_reducible rfl)⟩) (by assumption) ?_
        try simp only [Act.put, List.setIfInBounds_toArray, List.set_cons_zero, List.set_cons_succ]
        refine wpAnyH_done (by kernel_rfl) ?_ _
        go_wp2_with fail
        go_roundw
        case rel => exact ⟨i + 1, A2, c2, by simp, hlt, rfl, by rw [HLS.out]; exact ho7, (oS.alloc _).keep hg7 (oS.apart_ty oA (by decide)), (oM.alloc _).keep hg7 (oM.apart_ty oA (by decide)), (hbx.alloc hbx.size _).grown hg7 (Nat.le_trans hbx.size (by simp)) (fun g hg => (oA.lt g hg).1)⟩
        case measure => rw [intOf, intOf]; omega
      · have HLM := Lib.hid (HLM.out.trans (if_neg hin))
        have hso := HSO.out hin
        rw [decide_eq_false hin] at cF2
        generalize ixF (idsL es) x0 = ix at *
        go_upto_region 10 with (first | (go_at_call 24; refine cF2.mono ?_; rintro e w6 ⟨rfl, hb6⟩))
        have hbe := below_trans' hbc hbc.size hb6
        have oA := oA.below hb6
        have oS := oS.below hb6
        have oM := oM.below hb6
        go_wp2_with (at_builtin; refine wpList_push elemS rfl (.tmp 34) (.tmp 35) rfl rfl _ rfl (oA.alloc _) (⟨#[]⟩ : ByteArray) _ rfl rfl (strC_one _) rfl (by unfold maxLen; omega) (Nat.le_trans hbe.size (by simp)) ?_; intro A2 c2 w7 ho7 hg7 ha7)
        go_roundw
        case rel => exact ⟨i + 1, A2, c2, by simp, hlt, rfl, by rw [HLS.out, HLM.out]; exact ho7, by rw [hso]; exact (oS.alloc _).keep hg7 (oS.apart_ty oA (by decide)), (oM.alloc _).keep hg7 (oM.apart_ty oA (by decide)), (hbe.alloc hbe.size _).grown hg7 (Nat.le_trans hbe.size (by simp)) (fun g hg => (oA.lt g hg).1)⟩
        case measure => rw [intOf, intOf]; omega
    · have him : i = m := by omega
      subst him
      go_wp2_with fail
      go_ret
      exact ⟨A', c', rfl, oA, hbw⟩
end Go.Proofs.YtbpodnhebjjkaaaGreatDoor
