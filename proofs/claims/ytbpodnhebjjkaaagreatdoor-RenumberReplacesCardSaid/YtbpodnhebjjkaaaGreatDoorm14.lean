/- renumber: (*Seq).state. renumber: (*Seq).label, (*Seq).Label. -/
import Derived.Test.YtbpodnhebjjkaaaGreatDoorm13
import Derived.Test.YtbpodnhebjjkaaaGreatDoorG22m
namespace Go.Proofs.YtbpodnhebjjkaaaGreatDoor
open Go.RowKit

theorem CW.put {w : World} {B p5 p8 : Nat} {Z : Cn} (h : CW w B p5 p8 Z) (X : Cn) : CW (w.setCells p5 0 (cnL X)) B p5 p8 X :=
  ⟨Blk.setCells_ (cnL X) [] (cnL Z) w h.b5 rfl, h.b8.keep (only_setCells p5 _ 0 w) (fun e => h.n (by injection e)), h.n, h.m5, h.m8⟩
theorem cnL_len (c : Cn) : (cnL c).length = 18 := rfl
theorem there_cn {w : World} {g : Nat} {t : TypeId} {c : Cn} (h : Blk w g t (cnA c)) : w.there g 0 (cnL c).length := h.thereN
theorem mkIn_at {es : List LsE} {n li : Nat} (he : es.length = n) (hu : Up (idsL es)) (hli : li < n) {m : Mk} (h : MkIn es m) (e : m.list = (gE es li).id) : 1 ≤ m.level ∧ m.level ≤ (gE es li).n ∧ 0 ≤ m.restart ∧ m.restart ≤ 32767 := by
  have hl : li < (idsL es).length := by rw [idsL_len]; omega
  have hin : m.list ∈ idsL es := by
    rw [e, ← idsL_at, List.getD_eq_getElem?_getD, List.getElem?_eq_getElem hl]
    exact List.getElem_mem hl
  have := h hin
  rw [(hu.inj m.list hl).2 (by rw [idsL_at]; exact e)] at this
  exact mkE_zero_iff this
theorem gM_mem {ms : List Mk} {i : Nat} (h : i < ms.length) : gM ms i ∈ ms := by
  unfold gM
  rw [List.getD_eq_getElem?_getD, List.getElem?_eq_getElem h]
  exact List.getElem_mem h

set_option maxHeartbeats 8000000 in
set_option maxRecDepth 100000 in
theorem state_any (p : Nat) (A : Option Addr) (n c : Nat) (es : List LsE) (vs : List (List Lv)) (Bv : Option Addr) (k ck : Nat) (ms : List Mk) (at_ li : Nat) (w : World) (h : SqR w p A n c es vs Bv k ck ms) (hli : li < n) (hbig : n ≤ 1000000) (hu : Up (idsL es)) (hC : LvsOk es vs n) (hk : ∀ x ∈ ms, MkIn es x) (hm : ms.length ≤ 1000) (hat : at_ ≤ ms.length) :
    Calls Tryz.prog 39 #[.pointer (some ⟨p, 0, none⟩), .int .i64 at_, .int .i64 li] w fun e w' => e = .returned (.agg (cnA (cntS (vs.getD li []) (gE es li).n (ms.take at_) (gE es li).id))) ∧ Below w.heap.size w w' := by
  have he := h.ha.l.len
  have q0 := h.hp.cell 0 rfl
  have q1 := h.hp.cell 1 rfl
  obtain ⟨al, rfl, hal, i0, i1⟩ := h.ha.l.ls hli
  have hls := h.ha.v li hli
  have hcl := hC.c li hli
  have hln := hC.l li hli
  have h9 := clE_len hcl
  have hLk := lvok_of hln hcl
  have hn9 : (gE es li).n ≤ 9 := by omega
  have li0 : (0 : Int) ≤ li := by omega
  have li1 : (li : Int) < n := by omega
  have HFull := Lib.hid (cntS_effs (vs := vs) he hu hli hk)
  have HFok := Lib.hid (effsF_ok he hC hk ms.length (Nat.le_refl _) li)
  rw [List.take_length] at HFok
  have HMk := Lib.hid (fun i hi e => mkIn_at he hu hli (hk _ (gM_mem (ms := ms) (i := i) hi)) e)
  have HSok := Lib.hid (fun i (hi : i ≤ ms.length) => cntS_ok (ms := ms.take i) (id := (gE es li).id) hLk (sel_ok he hu hli (fun x hx => hk x (List.mem_of_mem_take hx))))
  have HT := Lib.hid (fun i (hi : i < ms.length) => cntS_take (vs.getD li []) (gE es li).n (gE es li).id hi)
  have HZ := Lib.hid (show cntS (vs.getD li []) (gE es li).n (ms.take 0) (gE es li).id = cnZ by rw [List.take_zero]; rfl)
  have H1 := h.one
  have H0 := h.none_
  have hXl := effsF_len es vs n ms
  clear h hC hcl hln h9 hk
  generalize vs.getD li [] = ls at *
  generalize (gE es li).id = id at *
  generalize (gE es li).A = Ak at *
  generalize (gE es li).n = nk at *
  generalize (gE es li).c = cK at *
  have C1 := Blk.new w 87 (cnA cnZ)
  have hb0 := ((Below.refl w.heap.size w).alloc (Nat.le_refl _) (.cells (cnA cnZ) 87))
  go_enter Tryz.func39, Tryz.ntmps39
  go_upto_region 0 with fail
  go_cut [6] (fun v6 wx => ∃ p6, v6 = .pointer (some ⟨p6, 0, none⟩) ∧ Blk wx p6 87 (cnA cnZ) ∧ w.heap.size ≤ p6 ∧ Below w.heap.size w wx)
  case first =>
    go_wp2_with fail
    go_meet
    case rel => exact ⟨_, rfl, C1, Nat.le_refl _, hb0⟩
  case rest =>
  obtain ⟨p6, rfl, B6, h6, hb1⟩ := hcut
  clear C1 hb0
  have q0 := keep1 hb1 q0
  have i1 := keep1 hb1 i1
  have C2 := Blk.new wc 87 (cnA cnZ)
  have hb2 := hb1.alloc hb1.size (.cells (cnA cnZ) 87)
  have T0 : CW (wc.alloc (.cells (cnA cnZ) 87)) w.heap.size wc.heap.size p6 cnZ := ⟨C2, B6.alloc _, by have := B6.lt; omega, hb1.size, h6⟩
  go_upto_region 2 with fail
  go_cut [8] (fun v8 wx => ∃ p8, v8 = .pointer (some ⟨p8, 0, none⟩) ∧ CW wx w.heap.size p8 p6 cnZ ∧ Below w.heap.size w wx)
  case first =>
    go_wp2_with fail
    go_meet
    case rel => exact ⟨_, rfl, T0, hb2⟩
  case rest =>
  clear T0 hb2 C2 hb1 B6 h6 q0 i1
  obtain ⟨p8, rfl, T1, hb1⟩ := hcut
  have HEND : ∀ (wr : World) (X : Cn), CW wr w.heap.size p8 p6 X → Below w.heap.size w wr → (wr.setRow p6 (cnA X)).heap[p6]? = some (.cells (cnA X) 87 (0, 0)) ∧ Below w.heap.size w (wr.setRow p6 (cnA X)) := fun wr X T hb => ⟨setRow_heap wr p6 _ _ _ _ T.b8, below_setRow hb T.m8 _⟩
  have HEND := Lib.hid HEND
  by_cases hk0 : k = 0
  · have hms := H0 hk0
    subst hk0 hms
    have hat0 : at_ = 0 := by simpa using hat
    subst hat0
    have q1 := keep1 hb1 q1
    clear q0 i1 H1 HFull HFok HMk HSok HT
    go_wp2_with fail
    go_loopw [1, 26] (fun v1 v26 wr => v26 = .int .i64 0 ∧ v1 = .int .i64 ((0 : Nat) : Int) ∧ CW wr w.heap.size p8 p6 cnZ ∧ Below w.heap.size w wr) (fun _ _ _ => 0)
    case atStart => exact ⟨rfl, rfl, T1, hb1⟩
    case round =>
      obtain ⟨rfl, rfl, T2, hbw⟩ := hrel
      have B5 := T2.b5
      have B6 := T2.b8
      unfold Blk at B5 B6
      go_wp2_with (first | (refine wpList_load_row rfl 87 _ rfl p8 rfl 87 _ (0, 0) _ B5 Tryz.underlying87 rfl (by kernel_rfl) ?_) | (refine wpList_store_row rfl 87 _ _ rfl p6 _ rfl rfl 87 _ B6 (by kernel_rfl) rfl (cnA_one _) ?_))
      obtain ⟨e1, e2⟩ := HEND.out wr cnZ T2 hbw
      refine bodyPost_ret (results_cell_row rfl _ _ p6 87 _ (0, 0) _ rfl e1 Tryz.underlying87 rfl (by kernel_rfl)) rfl ?_
      exact ⟨by rw [HZ.out], e2⟩
  · obtain ⟨rfl, _, g, M, mc, E, cE, B, rfl, j0, j1, hM, hE, hmc⟩ := H1 hk0
    clear H1 H0 hk0
    have hml : ms.length = ms.length := rfl
    obtain ⟨gE, rfl, _, hgE⟩ := hE.form (by omega)
    have hgne : ∀ {W : World}, Below w.heap.size w W → w.heap.size ≤ p8 → gE ≠ p8 := fun _ h => by omega
    have gx := fun W (hb : Below w.heap.size w W) => (hE.below hb).range effL_len hli (gF_get (by rw [hXl]; exact hli))
    generalize gF (effsF es vs n ms) li = X at *
    generalize hmm : ms.length = m at *
    have q1 := keep1 hb1 q1
    have zE : (Tryz.prog.info? 51).map (·.size) = some (effL X).length := size33
    have eX : effA X = (effL X).toArray := rfl
    have zC : ∀ Z : Cn, (Tryz.prog.info? 87).map (·.size) = some (cnL Z).length := fun _ => size48
    have hml0 : (m : Int) ≤ 1000 := by omega
    go_wp2_with fail
    go_loopw [1, 26] (fun v1 v26 wr => ∃ (i : Nat) (a : Int), v26 = .int .i64 i ∧ v1 = .int .i64 a ∧ ((i = 0 ∧ a = at_ ∧ CW wr w.heap.size p8 p6 cnZ) ∨ (i = 1 ∧ m = at_ ∧ CW wr w.heap.size p8 p6 (cntS ls nk ms id))) ∧ Below w.heap.size w wr) (fun _ v26 _ => 1 - (intOf v26).toNat)
    case atStart => exact ⟨0, _, rfl, rfl, .inl ⟨rfl, rfl, T1⟩, hb1⟩
    case round =>
      obtain ⟨i, a, rfl, rfl, hia, hbw⟩ := hrel
      clear T1 hb1
      rcases hia with ⟨rfl, rfl, T2⟩ | ⟨rfl, hma, T2⟩
      · have j0 := keep1 hbw j0
        have j1 := keep1 hbw j1
        go_upto_region 5 with fail
        go_cut [10] (fun v wx => ∃ q, v = .pointer (some ⟨q, 0, none⟩) ∧ Blk wx q 103 #[.slice M m mc, .slice (some ⟨gE, 0, none⟩) n cE] ∧ wr.heap.size ≤ q ∧ Below wr.heap.size wr wx)
        case first =>
          go_wp2_with fail
          go_meet
          case rel => exact ⟨_, rfl, Blk.new _ _ _, Nat.le_refl _, (Below.refl _ _).alloc (Nat.le_refl _) _⟩
        case rest =>
        obtain ⟨q, rfl, Bx, hq, hb4⟩ := hcut
        have T3 := T2.below hb4
        have hbc := below_trans' hbw hbw.size hb4
        have hq8 : q ≠ p8 := by have := T2.b5.lt; omega
        clear j0 j1 T2 hb4
        have k0 : wc.cell? ⟨q, 0, none⟩ = some (.slice M m mc) := Bx.cell 0 rfl
        have k1 : wc.cell? ⟨q, 1, none⟩ = some (.slice (some ⟨gE, 0, none⟩) n cE) := Bx.cell 1 rfl
        by_cases hge : at_ = m
        · have hgi : ¬ (at_ : Int) < m := by omega
          have hgi2 : (m : Int) ≤ at_ := by omega
          have gx := gx wc hbc
          have cA := Lib.hid (fun W (hb : Below w.heap.size w W) => apply_any Ak nk cK ls X cnZ m 0 W (hls.below hb) hn9 hLk HFok.out (cnZ_ok (by omega)) (by omega) (by omega))
          rw [HFull.out, eX, cnA_L cnZ] at cA
          generalize effL X = lx at *
          have eR : cnA (cntS ls nk ms id) = (cnL (cntS ls nk ms id)).toArray := rfl
          have lR := cnL_len (cntS ls nk ms id)
          have zR := zC (cntS ls nk ms id)
          have oR := cnL_one (cntS ls nk ms id)
          have PR := fun (W : World) (T : CW W w.heap.size p8 p6 cnZ) => T.put (cntS ls nk ms id)
          go_upto_region 7 with fail
          refine wp_region_held_drew (S := fun w' => w'.cell? ⟨q, 1, none⟩ = some (.slice (some ⟨gE, 0, none⟩) n cE) ∧ w'.rangeAt gE (li * 36) lx) (by kernel_rfl) ⟨k1, gx⟩ (fun hHeld => ?_)
          refine hx_take 0 (some 35) _ rfl (by kernel_rfl) (by kernel_rfl) (by kernel_rfl) (fun _ _ _ h => h) rfl (Or.inl ⟨by rfl, fun w hSw => by first | (go_simp; done) | (go_simp; with_reducible rfl)⟩) (by assumption) ?_
          try simp only [Act.put, List.setIfInBounds_toArray, List.set_cons_zero, List.set_cons_succ]
          refine hx_take 1 (some 36) _ rfl (by kernel_rfl) (by kernel_rfl) (by kernel_rfl) (fun _ _ _ h => h) rfl (Or.inl ⟨by rfl, fun w hSw => by first | (go_simp; done) | (go_simp; with_reducible rfl)⟩) (by assumption) ?_
          try simp only [Act.put, List.setIfInBounds_toArray, List.set_cons_zero, List.set_cons_succ]
          refine hx_take 3 (some 38) _ rfl (by kernel_rfl) (by kernel_rfl) (by kernel_rfl) (fun _ _ _ h => h) rfl (Or.inl ⟨by rfl, fun w hSw => by first | (go_simp; done) | (go_simp; with_reducible rfl)⟩) (by assumption) ?_
          try simp only [Act.put, List.setIfInBounds_toArray, List.set_cons_zero, List.set_cons_succ]
          refine hx_take 2 (some 37) _ rfl (by kernel_rfl) (by kernel_rfl) (by kernel_rfl) (fun _ _ _ h => h) rfl (Or.inl ⟨by rfl, fun w hSw => by first | (go_simp; done) | (go_simp; with_reducible rfl)⟩) (by assumption) ?_
          try simp only [Act.put, List.setIfInBounds_toArray, List.set_cons_zero, List.set_cons_succ]
          refine hx_take 4 (some 39) (.pointer (some ⟨gE, li * 36, none⟩)) rfl (by kernel_rfl) (by kernel_rfl) (by kernel_rfl) (fun _ _ _ h => h) rfl (Or.inl ⟨by rfl, fun w hSw => by first | (go_simp; done) | (go_simp; with_reducible rfl)⟩) (by assumption) ?_
          try simp only [Act.put, List.setIfInBounds_toArray, List.set_cons_zero, List.set_cons_succ]
          refine hx_take 5 (some 40) (.agg lx.toArray) rfl (by kernel_rfl) (by kernel_rfl) (by kernel_rfl) (fun _ _ _ h => h) rfl (yieldsIf_load_mid (by rfl) _ _ rfl gE (li * 36) rfl lx _ (fun w hSw => hSw.2) Tryz.underlying51 rfl (by assumption)) (by assumption) ?_
          try simp only [Act.put, List.setIfInBounds_toArray, List.set_cons_zero, List.set_cons_succ]
          refine hx1 6 (by kernel_rfl) ?_
          refine hx_loadQ 6 (some 41) _ _ p8 0 (cnL cnZ) _ rfl (by rfl) rfl rfl rfl (T3.b5.rangeN rfl) Tryz.underlying87 rfl (zC _) hHeld ?_
          try simp only [Act.put, List.setIfInBounds_toArray, List.set_cons_zero, List.set_cons_succ]
          refine hx1 7 (by kernel_rfl) ?_
          refine hx_call 7 (some 42) _ _ _ _ rfl (by rfl) rfl (by go_simp) (cA.out wc.drew (bDrew hbc)) ?_
          rintro w9 hb9
          have hb9 : Below wc.heap.size wc w9 := (bDrew (Below.refl _ _)).trans hb9
          have S9 : w9.cell? ⟨q, 1, none⟩ = some (.slice (some ⟨gE, 0, none⟩) n cE) ∧ w9.rangeAt gE (li * 36) lx := ⟨keep1 hb9 k1, fun j v hv => keep1 hb9 (gx j v hv)⟩
          refine ⟨S9, ?_⟩
          try simp only [Act.put, List.setIfInBounds_toArray, List.set_cons_zero, List.set_cons_succ]
          have T9 := T3.below hb9
          have hb19 := below_trans' hbc hbc.size hb9
          have hg8 : gE ≠ p8 := hgne hbc T3.m5
          have B9 := (Bx.below hb9).keep (only_setCells p8 (cnL (cntS ls nk ms id)) 0 w9) (fun e => hq8 (by injection e with e; exact e.symm))
          have m0 := B9.cell 0 rfl
          have T10 := PR w9 T9
          have hb20 := below_setC hb19 (Nat.le_refl _) T3.m5 (cnL (cntS ls nk ms id))
          refine hx1 8 (by kernel_rfl) ?_
          refine hx_store 8 _ _ _ p8 (cnL (cntS ls nk ms id)) rfl (by rfl) rfl rfl rfl rfl (by rw [lR]; exact T9.b5.thereN) zR oR ⟨cell_setCells S9.1 hq8, fun j v hv => cell_setCells (S9.2 j v hv) hg8⟩ ?_
          try simp only [Act.put, List.setIfInBounds_toArray, List.set_cons_zero, List.set_cons_succ]
          refine wpAnyH_done (by kernel_rfl) ?_ _
          generalize w9.setCells p8 0 (cnL (cntS ls nk ms id)) = w10 at *
          go_wp2_with fail
          go_roundw
          case rel => exact ⟨1, _, by simp, rfl, .inr ⟨rfl, hge.symm, T10⟩, hb20⟩
          case measure => rw [intOf, intOf]; omega
        · have hlt0 : at_ < m := by omega
          have hgi : (at_ : Int) < m := by omega
          have u0 := Tryz.underlying23
          have c3 := fun w => run_cut_h u0 sizeMk M (n := m) (c := mc) (k := at_) (by omega) hmc w
          go_wp2_with fail
          go_loopw [53] (fun vj wr2 => ∃ j : Nat, vj = .int .i64 j ∧ j ≤ at_ ∧ CW wr2 w.heap.size p8 p6 (cntS ls nk (ms.take j) id) ∧ Below w.heap.size w wr2) (fun vj _ => at_ - (intOf vj).toNat)
          case atStart => exact ⟨0, rfl, Nat.zero_le _, by rw [HZ.out]; exact T3, hbc⟩
          case round =>
            obtain ⟨j, rfl, hj, T4, hbj⟩ := hrel
            clear T3
            by_cases hjl : j < at_
            · obtain ⟨am, eM, hl2, g0, g1, g2⟩ := (hM.below hbj).mk_ (k := j) (by omega)
              subst eM
              have ht := Lib.hid (HT.out j (by omega))
              have hmk := HMk.out j (by omega)
              have hok := HSok.out j (by omega)
              have hjlen : ((ms.take j).length : Int) ≤ 1000 := by rw [List.length_take]; omega
              obtain ⟨Z2, hZ2⟩ : ∃ Z, cntS ls nk (ms.take (j + 1)) id = Z := ⟨_, rfl⟩
              rw [hZ2] at ht
              generalize cntS ls nk (ms.take j) id = Z1 at *
              generalize gM ms j = x at *
              obtain ⟨x0, x1, x2⟩ := x
              simp only at g0 g1 g2 hmk ht
              go_upto_region 11 with fail
              go_cut [12] (fun v wx => ∃ q2, v = .pointer (some ⟨q2, 0, none⟩) ∧ Blk wx q2 81 #[.int .i64 x0, .int .i64 x1, .int .i64 x2] ∧ wr.heap.size ≤ q2 ∧ Below wr.heap.size wr wx)
              case first =>
                go_wp2_with fail
                go_meet
                case rel => exact ⟨_, rfl, Blk.new _ _ _, Nat.le_refl _, (Below.refl _ _).alloc (Nat.le_refl _) _⟩
              case rest =>
              obtain ⟨q2, rfl, Bm, hq2, hb5⟩ := hcut
              have hbd := below_trans' hbj hbj.size hb5
              have T5 := T4.below hb5
              have hq28 : q2 ≠ p8 := by have := T4.b5.lt; omega
              clear g0 g1 g2 T4 hb5
              have m0 : wc.cell? ⟨q2, 0, none⟩ = some (.int .i64 x0) := Bm.cell 0 rfl
              have m1 : wc.cell? ⟨q2, 1, none⟩ = some (.int .i64 x1) := Bm.cell 1 rfl
              have m2 : wc.cell? ⟨q2, 2, none⟩ = some (.int .i64 x2) := Bm.cell 2 rfl
              have q0 : wc.cell? ⟨p, 0, none⟩ = some (.slice (some al) n c) := keep1 hbd q0
              have i0 := keep1 hbd i0
              by_cases hx : x0 = id
              · subst hx
                have ht := Lib.hid (ht.out.trans (if_pos rfl))
                obtain ⟨L, hL⟩ : ∃ L : Nat, x1 = (L : Int) + 1 := ⟨(x1 - 1).toNat, by have := (hmk rfl).1; omega⟩
                subst hL
                have hmk := hmk rfl
                have hLn : L < nk := by omega
                rw [show ((L : Int) + 1 - 1).toNat = L by omega] at ht
                have cE := Lib.hid (fun W (hb : Below w.heap.size w W) => effect_any Ak nk cK ls L x2 W (hls.below hb) hn9 hLn)
                have cA := Lib.hid (fun W (hb : Below w.heap.size w W) => apply_any Ak nk cK ls (effF ls nk L x2) Z1 1 (32767 + (ms.take j).length) W (hls.below hb) hn9 hLk (effF_ok ls nk L hmk.2.2.1 hmk.2.2.2) hok (by omega) (by omega))
                rw [apply_next ls nk Z1 L x2 hLn hmk.2.2.1, ← ht.out, cnA_L Z1] at cA
                generalize effF ls nk L x2 = EF at *
                have lR := cnL_len Z2
                have zR := zC Z2
                have oR := cnL_one Z2
                have PR := fun (W : World) (T : CW W w.heap.size p8 p6 Z1) => T.put Z2
                go_upto_region 12 with fail
                go_region
                have T5 := T5.drewN 1
                have hbd := below_drewN hbd 1
                have m1 : (wc.drewN 1).cell? ⟨q2, 1, none⟩ = some (.int .i64 ((L : Int) + 1)) := m1
                have m2 : (wc.drewN 1).cell? ⟨q2, 2, none⟩ = some (.int .i64 x2) := m2
                clear m0 q0 i0 Bm
                rw [show wc.drew = wc.drewN 1 from rfl]
                generalize wc.drewN 1 = wd at *
                go_upto_region 13 with fail
                refine wp_region_held_drew (S := fun w' => w'.cell? ⟨q2, 1, none⟩ = some (.int .i64 ((L : Int) + 1)) ∧ w'.cell? ⟨q2, 2, none⟩ = some (.int .i64 x2)) (by kernel_rfl) ⟨m1, m2⟩ (fun hHeld => ?_)
                refine hx_take 0 (some 68) _ rfl (by kernel_rfl) (by kernel_rfl) (by kernel_rfl) (fun _ _ _ h => h) rfl (Or.inl ⟨by rfl, fun w hSw => by first | (go_simp; done) | (go_simp; with_reducible rfl)⟩) (by assumption) ?_
                try simp only [Act.put, List.setIfInBounds_toArray, List.set_cons_zero, List.set_cons_succ]
                refine hx_take 1 (some 69) _ rfl (by kernel_rfl) (by kernel_rfl) (by kernel_rfl) (fun _ _ _ h => h) rfl (Or.inl ⟨by rfl, fun w hSw => by first | (go_simp; done) | (go_simp; with_reducible rfl)⟩) (by assumption) ?_
                try simp only [Act.put, List.setIfInBounds_toArray, List.set_cons_zero, List.set_cons_succ]
                refine hx_take 2 (some 70) _ rfl (by kernel_rfl) (by kernel_rfl) (by kernel_rfl) (fun _ _ _ h => h) rfl (Or.inl ⟨by rfl, fun w hSw => by first | (go_simp; done) | (go_simp; with_reducible rfl)⟩) (by assumption) ?_
                try simp only [Act.put, List.setIfInBounds_toArray, List.set_cons_zero, List.set_cons_succ]
                refine hx_take 4 (some 72) _ rfl (by kernel_rfl) (by kernel_rfl) (by kernel_rfl) (fun _ _ _ h => h) rfl (Or.inl ⟨by rfl, fun w hSw => by first | (go_simp; done) | (go_simp; with_reducible rfl)⟩) (by assumption) ?_
                try simp only [Act.put, List.setIfInBounds_toArray, List.set_cons_zero, List.set_cons_succ]
                refine hx_take 3 (some 71) _ rfl (by kernel_rfl) (by kernel_rfl) (by kernel_rfl) (fun _ _ _ h => h) rfl (Or.inl ⟨by rfl, fun w hSw => by first | (go_simp; done) | (go_simp; with_reducible rfl)⟩) (by assumption) ?_
                try simp only [Act.put, List.setIfInBounds_toArray, List.set_cons_zero, List.set_cons_succ]
                refine hx_take 5 (some 73) _ rfl (by kernel_rfl) (by kernel_rfl) (by kernel_rfl) (fun _ _ _ h => h) rfl (Or.inl ⟨by rfl, fun w hSw => by first | (go_simp; done) | (go_simp; with_reducible rfl)⟩) (by assumption) ?_
                try simp only [Act.put, List.setIfInBounds_toArray, List.set_cons_zero, List.set_cons_succ]
                refine hx2 6 7 (by kernel_rfl) ?_ ?_
                · refine hx_call 6 (some 74) _ _ _ _ rfl (by rfl) rfl (by go_simp) (cE.out wd.drew (bDrew hbd)) ?_
                  rintro w9 hb9
                  have hb9 : Below wd.heap.size wd w9 := (bDrew (Below.refl _ _)).trans hb9
                  refine ⟨⟨keep1 hb9 m1, keep1 hb9 m2⟩, ?_⟩
                  try simp only [Act.put, List.setIfInBounds_toArray, List.set_cons_zero, List.set_cons_succ]
                  refine hx1 7 (by kernel_rfl) ?_
                  refine hx_loadQ 7 (some 75) _ _ p8 0 (cnL Z1) _ rfl (by rfl) rfl rfl rfl ((T5.below hb9).b5.rangeN rfl) Tryz.underlying87 rfl (zC _) ⟨keep1 hb9 m1, keep1 hb9 m2⟩ ?_
                  try simp only [Act.put, List.setIfInBounds_toArray, List.set_cons_zero, List.set_cons_succ]
                  refine hx1 8 (by kernel_rfl) ?_
                  refine hx_call 8 (some 76) _ _ _ _ rfl (by rfl) rfl (by go_simp) (cA.out w9 (below_trans' hbd hbd.size hb9)) ?_
                  rintro w8 hb8
                  have hb8 := below_trans' hb9 hb9.size hb8
                  have S8 : w8.cell? ⟨q2, 1, none⟩ = some (.int .i64 ((L : Int) + 1)) ∧ w8.cell? ⟨q2, 2, none⟩ = some (.int .i64 x2) := ⟨keep1 hb8 m1, keep1 hb8 m2⟩
                  refine ⟨S8, ?_⟩
                  try simp only [Act.put, List.setIfInBounds_toArray, List.set_cons_zero, List.set_cons_succ]
                  have T9 := T5.below hb8
                  have hb19 := below_trans' hbd hbd.size hb8
                  have T10 := PR w8 T9
                  have hb20 := below_setC hb19 (Nat.le_refl _) T5.m5 (cnL Z2)
                  refine hx1 9 (by kernel_rfl) ?_
                  refine hx_store 9 _ _ _ p8 (cnL Z2) rfl (by rfl) rfl rfl rfl rfl (by rw [lR]; exact T9.b5.thereN) zR oR ⟨cell_setCells S8.1 hq28, cell_setCells S8.2 hq28⟩ ?_
                  try simp only [Act.put, List.setIfInBounds_toArray, List.set_cons_zero, List.set_cons_succ]
                  refine wpAnyH_done (by kernel_rfl) ?_ _
                  generalize w8.setCells p8 0 (cnL Z2) = w10 at *
                  go_wp2_with fail
                  go_roundw
                  case rel => exact ⟨j + 1, by simp, hjl, by rw [hZ2]; exact T10, hb20⟩
                  case measure => rw [intOf, intOf]; omega
                · refine hx_loadQ 7 (some 75) _ _ p8 0 (cnL Z1) _ rfl (by rfl) rfl rfl rfl (T5.b5.rangeN rfl) Tryz.underlying87 rfl (zC _) hHeld ?_
                  try simp only [Act.put, List.setIfInBounds_toArray, List.set_cons_zero, List.set_cons_succ]
                  refine hx1 6 (by kernel_rfl) ?_
                  refine hx_call 6 (some 74) _ _ _ _ rfl (by rfl) rfl (by go_simp) (cE.out wd.drew (bDrew hbd)) ?_
                  rintro w9 hb9
                  have hb9 : Below wd.heap.size wd w9 := (bDrew (Below.refl _ _)).trans hb9
                  refine ⟨⟨keep1 hb9 m1, keep1 hb9 m2⟩, ?_⟩
                  try simp only [Act.put, List.setIfInBounds_toArray, List.set_cons_zero, List.set_cons_succ]
                  refine hx1 8 (by kernel_rfl) ?_
                  refine hx_call 8 (some 76) _ _ _ _ rfl (by rfl) rfl (by go_simp) (cA.out w9 (below_trans' hbd hbd.size hb9)) ?_
                  rintro w8 hb8
                  have hb8 := below_trans' hb9 hb9.size hb8
                  have S8 : w8.cell? ⟨q2, 1, none⟩ = some (.int .i64 ((L : Int) + 1)) ∧ w8.cell? ⟨q2, 2, none⟩ = some (.int .i64 x2) := ⟨keep1 hb8 m1, keep1 hb8 m2⟩
                  refine ⟨S8, ?_⟩
                  try simp only [Act.put, List.setIfInBounds_toArray, List.set_cons_zero, List.set_cons_succ]
                  have T9 := T5.below hb8
                  have hb19 := below_trans' hbd hbd.size hb8
                  have T10 := PR w8 T9
                  have hb20 := below_setC hb19 (Nat.le_refl _) T5.m5 (cnL Z2)
                  refine hx1 9 (by kernel_rfl) ?_
                  refine hx_store 9 _ _ _ p8 (cnL Z2) rfl (by rfl) rfl rfl rfl rfl (by rw [lR]; exact T9.b5.thereN) zR oR ⟨cell_setCells S8.1 hq28, cell_setCells S8.2 hq28⟩ ?_
                  try simp only [Act.put, List.setIfInBounds_toArray, List.set_cons_zero, List.set_cons_succ]
                  refine wpAnyH_done (by kernel_rfl) ?_ _
                  generalize w8.setCells p8 0 (cnL Z2) = w10 at *
                  go_wp2_with fail
                  go_roundw
                  case rel => exact ⟨j + 1, by simp, hjl, by rw [hZ2]; exact T10, hb20⟩
                  case measure => rw [intOf, intOf]; omega
              · have ht := Lib.hid (ht.out.trans (if_neg hx))
                have bx : (x0 == id) = false := beq_eq_false_iff_ne.2 hx
                go_upto_region 12 with fail
                go_region
                go_wp2_with fail
                go_roundw
                case rel => exact ⟨j + 1, by simp, hjl, by rw [hZ2, ht.out]; exact T5.drewN 1, bDrew hbd⟩
                case measure => rw [intOf, intOf]; omega
            · have hja : j = at_ := by omega
              subst hja
              have B5 := T4.b5
              have B6 := T4.b8
              unfold Blk at B5 B6
              go_wp2_with (first | (refine wpList_load_row rfl 87 _ rfl p8 rfl 87 _ (0, 0) _ B5 Tryz.underlying87 rfl (by kernel_rfl) ?_) | (refine wpList_store_row rfl 87 _ _ rfl p6 _ rfl rfl 87 _ B6 (by kernel_rfl) rfl (cnA_one _) ?_))
              obtain ⟨e1, e2⟩ := HEND.out wr _ T4 hbj
              refine bodyPost_ret (results_cell_row rfl _ _ p6 87 _ (0, 0) _ rfl e1 Tryz.underlying87 rfl (by kernel_rfl)) rfl ?_
              exact ⟨rfl, e2⟩
      · have B5 := T2.b5
        have B6 := T2.b8
        unfold Blk at B5 B6
        go_wp2_with (first | (refine wpList_load_row rfl 87 _ rfl p8 rfl 87 _ (0, 0) _ B5 Tryz.underlying87 rfl (by kernel_rfl) ?_) | (refine wpList_store_row rfl 87 _ _ rfl p6 _ rfl rfl 87 _ B6 (by kernel_rfl) rfl (cnA_one _) ?_))
        obtain ⟨e1, e2⟩ := HEND.out wr _ T2 hbw
        refine bodyPost_ret (results_cell_row rfl _ _ p6 87 _ (0, 0) _ rfl e1 Tryz.underlying87 rfl (by kernel_rfl)) rfl ?_
        exact ⟨by rw [← hma, ← hmm, List.take_length], e2⟩
end Go.Proofs.YtbpodnhebjjkaaaGreatDoor

namespace Go.Proofs.YtbpodnhebjjkaaaGreatDoor
open Go.RowKit

theorem ckE_zero {ls : List Lv} {n : Nat} {level : Int} (h1 : clE ls = 0) (h2 : 1 ≤ level) (h3 : level ≤ n) : ckE ls n level = 0 := by
  unfold ckE
  rw [if_neg (by omega), if_neg (by omega)]
set_option maxHeartbeats 4000000 in
set_option maxRecDepth 100000 in
theorem label_any (p : Nat) (A : Option Addr) (n c : Nat) (es : List LsE) (vs : List (List Lv)) (vB : Value) (li L : Nat) (Z : Cn) (w : World) (hg : Gl w) (hp : Blk w p 59 #[.slice A n c, vB]) (ha : LsT w A n es vs) (hli : li < n) (hcl : clE (vs.getD li []) = 0) (hL : L < (gE es li).n) :
    Calls Tryz.prog 27 #[.pointer (some ⟨p, 0, none⟩), .int .i64 li, .int .i64 ((L : Int) + 1), .agg (cnA Z)] w fun e w' => e = .returned (.string (labF (vs.getD li []) Z L)) ∧ Below w.heap.size w w' := by
  have hls := ha.v li hli
  have hcc := ha.c li hli
  obtain ⟨al, rfl, hal, i0, i1⟩ := ha.l.ls hli
  have q0 := hp.cell 0 rfl
  have li0 : (0 : Int) ≤ li := by omega
  have li1 : (li : Int) < n := by omega
  have hk : ckE (vs.getD li []) (gE es li).n ((L : Int) + 1) = 0 := ckE_zero hcl (by omega) (by omega)
  have HL := Lib.hid (show labF (vs.getD li []) Z L = fillB (vs.getD li []) L (numsF (vs.getD li []) Z (L + 1)) from rfl)
  generalize labF (vs.getD li []) Z L = R at *
  generalize vs.getD li [] = ls at *
  generalize (gE es li).A = Ak at *
  generalize (gE es li).n = nk at *
  generalize (gE es li).c = cK at *
  have cS := Lib.hid (fun W (hb : Below w.heap.size w W) => (shown_any Ak nk cK ls Z ((L : Int) + 1) W (hls.below hb) hcc).mono (R' := fun e w' => ∃ (B : Option Addr) (cB : Nat), e = .returned (.tuple #[.slice B (L + 1) cB, .int .i64 0]) ∧ Own w' W.heap.size 3 1 intC B (L + 1) cB (numsF ls Z (L + 1)) ∧ Below W.heap.size W w') (fun e w' h => by
    unfold ShownPost at h
    rw [hk] at h
    obtain ⟨B, k, cB, he, h1, _, h3⟩ := h
    obtain ⟨hk2, ho⟩ := h1 rfl
    have : k = L + 1 := by omega
    subst this
    exact ⟨B, cB, he, ho, h3⟩))
  have cF := Lib.hid (fun W (hb : Below w.heap.size w W) B cB (ho : Sl W 1 intC B (L + 1) (numsF ls Z (L + 1))) => fill_any Ak nk cK ls L B (L + 1) cB (numsF ls Z (L + 1)) W (hg.below hb) (hls.below hb) ho hk (Nat.le_refl _))
  generalize numsF ls Z (L + 1) = ns at *
  have N0 := Blk.new w 87 (cnA Z)
  have hb0 := (Below.refl w.heap.size w).alloc (Nat.le_refl _) (.cells (cnA Z) 87)
  go_enter Tryz.func27, Tryz.ntmps27
  go_upto_region 0 with fail
  go_cut [7] (fun v7 wx => ∃ p7, v7 = .pointer (some ⟨p7, 0, none⟩) ∧ Blk wx p7 87 (cnA Z) ∧ Below w.heap.size w wx)
  case first =>
    go_wp2_with fail
    go_meet
    case rel => exact ⟨_, rfl, N0, hb0⟩
  case rest =>
  clear N0 hb0
  obtain ⟨p7, rfl, B7, hb1⟩ := hcut
  have q0 := keep1 hb1 q0
  have i1 := keep1 hb1 i1
  have cS := cS.out wc hb1
  unfold Blk at B7
  go_upto_region 3 with (first | (refine wpList_load_row rfl 87 _ rfl p7 rfl 87 _ (0, 0) _ B7 Tryz.underlying87 rfl (by kernel_rfl) ?_) | (go_at_call 41; refine cS.mono ?_; rintro e w3 ⟨B, cB, rfl, ho, hb3⟩))
  have hb4 := below_trans' hb1 hb1.size hb3
  have cF := cF.out w3 hb4 B cB (ho.sl intC_len)
  go_wp2_with (first | (go_at_call 42; refine cF.mono ?_; rintro e w5 ⟨rfl, hb5⟩))
  go_ret
  exact ⟨by rw [HL.out]; rfl, below_trans' hb4 hb4.size hb5⟩
theorem SqR.gl {w : World} {p : Nat} {A : Option Addr} {n c : Nat} {es : List LsE} {vs : List (List Lv)} {Bv : Option Addr} {k ck : Nat} {ms : List Mk} (h : SqR w p A n c es vs Bv k ck ms) : Blk w p 59 #[.slice A n c, .slice Bv k ck] ∧ LsT w A n es vs := ⟨h.hp, h.ha⟩
set_option maxHeartbeats 8000000 in
set_option maxRecDepth 100000 in
theorem lbl_any (p : Nat) (A : Option Addr) (n c : Nat) (es : List LsE) (vs : List (List Lv)) (Bv : Option Addr) (k ck : Nat) (ms : List Mk) (i : Nat) (w : World) (hg : Gl w) (h : SqR w p A n c es vs Bv k ck ms) (hbig : n ≤ 1000000) (hu : Up (idsL es)) (hC : LvsOk es vs n) (hk : ∀ x ∈ ms, MkIn es x) (hm : ms.length ≤ 1000) (hi : i < ms.length) :
    Calls Tryz.prog 22 #[.pointer (some ⟨p, 0, none⟩), .int .i64 i] w fun e w' => e = .returned (.tuple #[.string (labM es vs ms i), .int .i64 0]) ∧ Below w.heap.size w w' := by
  have he := h.ha.l.len
  have q1 := h.hp.cell 1 rfl
  have hne : k ≠ 0 := fun e => by have := h.none_ e; subst this; simp at hi
  obtain ⟨rfl, _, g, M, mc, E, cE, B, rfl, j0, j1, hM, hE, hmc⟩ := h.one hne
  have cN := len_any p A n c es vs _ 1 ck ms w h hm
  have cL := fun W (hb : Below w.heap.size w W) => locate_any p A n c es vs _ 1 ck ms i W (h.below hb)
  have cF := fun W (hb : Below w.heap.size w W) => find_any p A n c es (.slice (some ⟨g, 0, none⟩) 1 ck) (gM ms i).list W (h.hp.below hb) (h.ha.l.below hb) hbig hu.le
  rw [contains_mem] at cF
  have HL := Lib.hid (show labM es vs ms i = if (gM ms i).list ∈ idsL es then labF (vs.getD ((idsL es).idxOf (gM ms i).list) []) (cntS (vs.getD ((idsL es).idxOf (gM ms i).list) []) (gE es ((idsL es).idxOf (gM ms i).list)).n (ms.take (i + 1)) (gM ms i).list) ((gM ms i).level - 1).toNat else ⟨#[]⟩ from rfl)
  generalize labM es vs ms i = R at *
  have i0 : ¬ (i : Int) < 0 := by omega
  have i1 : (i : Int) < ms.length := by omega
  have i2 : ¬ (ms.length : Int) ≤ i := by omega
  have iw : IntKind.i64.wrap ((i : Int) + 1) = i + 1 := IntWalk.i64_in _ (by omega)
  have cS := Lib.hid (fun W (hb : Below w.heap.size w W) li hli => state_any p A n c es vs _ 1 ck ms (i + 1) li W (h.below hb) hli hbig hu hC hk hm (by omega))
  have cB := Lib.hid (fun W (hb : Below w.heap.size w W) li (hli : li < n) L (hL : L < (gE es li).n) Z => label_any p A n c es vs (.slice (some ⟨g, 0, none⟩) 1 ck) li L Z W (hg.below hb) (h.hp.below hb) (h.ha.below hb) hli (hC.c li hli) hL)
  have hmi := hk _ (gM_mem hi)
  obtain ⟨am, rfl, hl2, m0, m1, m2⟩ := hM.mk_ hi
  clear h hM hE hC hk
  generalize hmm : ms.length = m at *
  generalize gM ms i = x at *
  obtain ⟨x0, x1, x2⟩ := x
  simp only at m0 m1 m2 HL cF
  go_enter Tryz.func22, Tryz.ntmps22
  go_upto_region 5 with (first | (go_at_call 19; refine cN.mono ?_; rintro e w3 ⟨rfl, hb3⟩))
  have cL := cL w3 hb3
  go_upto_region 6 with (first | (go_at_call 38; refine cL.mono ?_; rintro e w4 ⟨rfl, hb4⟩))
  have hb4 := below_trans' hb3 hb3.size hb4
  have q1 := keep1 hb4 q1
  have j0 := keep1 hb4 j0
  have m0 := keep1 hb4 m0
  have m1 := keep1 hb4 m1
  have m2 := keep1 hb4 m2
  go_cut [8] (fun v wx => ∃ q, v = .pointer (some ⟨q, 0, none⟩) ∧ Blk wx q 81 #[.int .i64 x0, .int .i64 x1, .int .i64 x2] ∧ Below w4.heap.size w4 wx)
  case first =>
    go_wp2_with fail
    go_meet
    case rel => exact ⟨_, rfl, Blk.new _ _ _, (Below.refl _ _).alloc (Nat.le_refl _) _⟩
  case rest =>
  obtain ⟨q, rfl, Bm, hb5⟩ := hcut
  have hbc := below_trans' hb4 hb4.size hb5
  clear q1 j0 m0 m1 m2 cL cN
  have m0 : wc.cell? ⟨q, 0, none⟩ = some (.int .i64 x0) := Bm.cell 0 rfl
  have cF2 := cF wc hbc
  clear cF
  by_cases hin : x0 ∈ idsL es
  · have HL := Lib.hid (HL.out.trans (if_pos hin))
    have hmk := mkE_zero_iff (hmi hin)
    rw [hu.ix hin, decide_eq_true hin] at cF2
    have hik : (idsL es).idxOf x0 < n := by
      have := List.idxOf_lt_length_iff.2 hin
      rw [idsL_len] at this
      omega
    have hid : (gE es ((idsL es).idxOf x0)).id = x0 := by rw [← idsL_at, List.getD_eq_getElem?_getD, List.getElem?_eq_getElem (by rw [idsL_len]; omega)]; simp
    simp only at hmk
    generalize (idsL es).idxOf x0 = li at *
    obtain ⟨L, hL⟩ : ∃ L : Nat, x1 = (L : Int) + 1 := ⟨(x1 - 1).toNat, by omega⟩
    subst hL
    have HL := Lib.hid (show R = labF (vs.getD li []) (cntS (vs.getD li []) (gE es li).n (ms.take (i + 1)) x0) L from by rw [HL.out]; congr 1; simp)
    have hLn : L < (gE es li).n := by omega
    have cS := Lib.hid (fun W hb => cS.out W hb li hik)
    have cB := Lib.hid (fun W hb => cB.out W hb li hik L hLn (cntS (vs.getD li []) (gE es li).n (ms.take (i + 1)) x0))
    rw [hid] at cS
    rw [← HL.out] at cB
    generalize cntS (vs.getD li []) (gE es li).n (ms.take (i + 1)) x0 = Z at *
    go_upto_region 10 with (first | (go_at_call 24; go_loud (refine cF2.mono ?_); rintro e w6 ⟨rfl, hb6⟩))
    have m1 : w6.cell? ⟨q, 1, none⟩ = some (.int .i64 ((L : Int) + 1)) := (Bm.below hb6).cell 1 rfl
    have hbd := below_trans' hbc hbc.size hb6
    refine wp_region_held_drew (S := fun w' => w'.cell? ⟨q, 1, none⟩ = some (.int .i64 ((L : Int) + 1))) (by kernel_rfl) m1 (fun hHeld => ?_)
    refine hx_take 0 (some 49) _ rfl (by kernel_rfl) (by kernel_rfl) (by kernel_rfl) (fun _ _ _ h => h) rfl (Or.inl ⟨by rfl, fun w hSw => by first | (go_simp; done) | (go_simp; with_reducible rfl)⟩) (by assumption) ?_
    try simp only [Act.put, List.setIfInBounds_toArray, List.set_cons_zero, List.set_cons_succ]
    refine hx_take 1 (some 50) _ rfl (by kernel_rfl) (by kernel_rfl) (by kernel_rfl) (fun _ _ _ h => h) rfl (Or.inl ⟨by rfl, fun w hSw => by first | (go_simp; done) | (go_simp; with_reducible rfl)⟩) (by assumption) ?_
    try simp only [Act.put, List.setIfInBounds_toArray, List.set_cons_zero, List.set_cons_succ]
    refine hx_take 2 (some 51) _ rfl (by kernel_rfl) (by kernel_rfl) (by kernel_rfl) (fun _ _ _ h => h) rfl (Or.inl ⟨by rfl, fun w hSw => by first | (go_simp; done) | (go_simp; with_reducible rfl)⟩) (by assumption) ?_
    try simp only [Act.put, List.setIfInBounds_toArray, List.set_cons_zero, List.set_cons_succ]
    refine hx_take 4 (some 53) _ rfl (by kernel_rfl) (by kernel_rfl) (by kernel_rfl) (fun _ _ _ h => h) rfl (Or.inl ⟨by rfl, fun w hSw => by first | (go_simp; done) | (go_simp; with_reducible rfl)⟩) (by assumption) ?_
    try simp only [Act.put, List.setIfInBounds_toArray, List.set_cons_zero, List.set_cons_succ]
    refine hx_take 5 (some 54) _ rfl (by kernel_rfl) (by kernel_rfl) (by kernel_rfl) (fun _ _ _ h => h) rfl (Or.inl ⟨by rfl, fun w hSw => by first | (go_simp; done) | (go_simp; with_reducible rfl)⟩) (by assumption) ?_
    try simp only [Act.put, List.setIfInBounds_toArray, List.set_cons_zero, List.set_cons_succ]
    refine hx_take 7 (some 56) _ rfl (by kernel_rfl) (by kernel_rfl) (by kernel_rfl) (fun _ _ _ h => h) rfl (Or.inl ⟨by rfl, fun w hSw => by first | (go_simp; done) | (go_simp; with_reducible rfl)⟩) (by assumption) ?_
    try simp only [Act.put, List.setIfInBounds_toArray, List.set_cons_zero, List.set_cons_succ]
    refine hx_take 3 (some 52) _ rfl (by kernel_rfl) (by kernel_rfl) (by kernel_rfl) (fun _ _ _ h => h) rfl (Or.inl ⟨by rfl, fun w hSw => by first | (go_simp; done) | (go_simp; with_reducible rfl)⟩) (by assumption) ?_
    try simp only [Act.put, List.setIfInBounds_toArray, List.set_cons_zero, List.set_cons_succ]
    refine hx_take 6 (some 55) _ rfl (by kernel_rfl) (by kernel_rfl) (by kernel_rfl) (fun _ _ _ h => h) rfl (Or.inl ⟨by rfl, fun w hSw => by first | (go_simp; done) | (go_simp; with_reducible rfl)⟩) (by assumption) ?_
    try simp only [Act.put, List.setIfInBounds_toArray, List.set_cons_zero, List.set_cons_succ]
    refine hx1 8 (by kernel_rfl) ?_
    refine hx_call 8 (some 57) _ _ _ _ rfl (by rfl) rfl (by go_simp) (cS.out w6.drew (bDrew hbd)) ?_
    rintro w8 hb8
    have hb8 : Below w6.heap.size w6 w8 := (bDrew (Below.refl _ _)).trans hb8
    refine ⟨keep1 hb8 m1, ?_⟩
    try simp only [Act.put, List.setIfInBounds_toArray, List.set_cons_zero, List.set_cons_succ]
    refine hx1 9 (by kernel_rfl) ?_
    refine hx_call 9 (some 58) _ _ _ _ rfl (by rfl) rfl (by go_simp) (cB.out w8 (below_trans' hbd hbd.size hb8)) ?_
    rintro w9 hb9
    have hb9 := below_trans' hb8 hb8.size hb9
    have S9 := keep1 hb9 m1
    refine ⟨S9, ?_⟩
    try simp only [Act.put, List.setIfInBounds_toArray, List.set_cons_zero, List.set_cons_succ]
    refine hx_take 10 (some 4) _ rfl (by kernel_rfl) (by kernel_rfl) (by kernel_rfl) (fun _ _ _ h => h) rfl (Or.inl ⟨by rfl, fun w hSw => by first | (go_simp; done) | (go_simp; with_reducible rfl)⟩) (by assumption) ?_
    try simp only [Act.put, List.setIfInBounds_toArray, List.set_cons_zero, List.set_cons_succ]
    refine hx_take 11 (some 5) _ rfl (by kernel_rfl) (by kernel_rfl) (by kernel_rfl) (fun _ _ _ h => h) rfl (Or.inl ⟨by rfl, fun w hSw => by first | (go_simp; done) | (go_simp; with_reducible rfl)⟩) (by assumption) ?_
    try simp only [Act.put, List.setIfInBounds_toArray, List.set_cons_zero, List.set_cons_succ]
    refine wpAnyH_done (by kernel_rfl) ?_ _
    go_wp2_with fail
    go_ret2
    exact ⟨rfl, below_trans' hbd hbd.size hb9⟩
  · have HL := Lib.hid (HL.out.trans (if_neg hin))
    rw [decide_eq_false hin] at cF2
    generalize ixF (idsL es) x0 = ix at *
    go_wp2_with (first | (go_at_call 24; refine cF2.mono ?_; rintro e w6 ⟨rfl, hb6⟩))
    go_ret2
    exact ⟨by rw [HL.out]; rfl, below_trans' hbc hbc.size hb6⟩
end Go.Proofs.YtbpodnhebjjkaaaGreatDoor
