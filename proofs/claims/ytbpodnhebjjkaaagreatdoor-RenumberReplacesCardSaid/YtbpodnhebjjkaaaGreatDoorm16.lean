/- The law's label. The law's same and agrees. L17's Settings: its first list's levels. -/
import Derived.Test.YtbpodnhebjjkaaaGreatDoorS11m
import Derived.Test.YtbpodnhebjjkaaaGreatDoorm7
namespace Go.Proofs.YtbpodnhebjjkaaaGreatDoor
open Go.RowKit

theorem fdP_in {zs : List Int} {x : Int} (h : x ∈ zs) : fdP zs x = (zs.idxOf x : Nat) := if_pos h
theorem fdP_out {zs : List Int} {x : Int} (h : x ∉ zs) : fdP zs x = -1 := if_neg h
set_option maxHeartbeats 8000000 in
set_option maxRecDepth 100000 in
theorem llabel_any (A : Option Addr) (n c : Nat) (es : List LsE) (vs : List (List Lv)) (AM : Option Addr) (m cm : Nat) (ms : List Mk) (i : Nat) (w : World) (hg : Gl w) (ha : LsT w A n es vs) (hbig : n ≤ 1000000) (hu : Up (idsL es)) (h0 : (0 : Int) ∉ idsL es) (hC : LvsOk es vs n) (hk : ∀ x ∈ ms, MkIn es x) (hm : Sl w 3 mkC AM m ms) (hmc : m ≤ cm) (hm1 : m ≤ 1000) (hi : i < m) :
    Calls Tryz.prog 23 #[.slice A n c, .slice AM m cm, .int .i64 i] w fun e w' => e = .returned (.string (labM es vs ms i)) ∧ Below w.heap.size w w' := by
  have he := ha.l.len
  have hlm := hm.len
  have hil : i < ms.length := by omega
  have HL := Lib.hid (show labM es vs ms i = if (gM ms i).list ∈ idsL es then labF (vs.getD ((idsL es).idxOf (gM ms i).list) []) (cntS (vs.getD ((idsL es).idxOf (gM ms i).list) []) (gE es ((idsL es).idxOf (gM ms i).list)).n (ms.take (i + 1)) (gM ms i).list) ((gM ms i).level - 1).toNat else ⟨#[]⟩ from rfl)
  have hmi := hk _ (gM_mem hil)
  have u0 := Tryz.underlying23
  have c3 : ∀ w, (Instr.slice 23 (.slice AM m cm) none (some (.int .i64 ((i : Int) + 1))) none).run Tryz.prog w = .ok (.slice AM (i + 1) cm) w := fun w => by
    have := run_cut_h u0 sizeMk AM (n := m) (c := cm) (k := i + 1) (by omega) hmc w
    simpa using this
  obtain ⟨am, eA, hl2, m0, m1, m2⟩ := hm.mk_ hi
  have cF := fun W (hb : Below w.heap.size w W) => lfind_any A n c es (gM ms i).list W (ha.l.below hb) hbig
  generalize labM es vs ms i = R at *
  have i0 : (0 : Int) ≤ i := by omega
  have i1 : (i : Int) < m := by omega
  have iw : IntKind.i64.wrap ((i : Int) + 1) = i + 1 := IntWalk.i64_in _ (by omega)
  generalize gM ms i = x at *
  obtain ⟨x0, x1, x2⟩ := x
  simp only at m0 m1 m2 HL cF
  subst eA
  go_enter Tryz.func23, Tryz.ntmps23
  go_upto_region 1 with fail
  go_cut [7] (fun v wx => ∃ q, v = .pointer (some ⟨q, 0, none⟩) ∧ Blk wx q 81 #[.int .i64 x0, .int .i64 x1, .int .i64 x2] ∧ Below w.heap.size w wx)
  case first =>
    go_wp2_with fail
    go_meet
    case rel => exact ⟨_, rfl, Blk.new _ _ _, (Below.refl _ _).alloc (Nat.le_refl _) _⟩
  case rest =>
  obtain ⟨q, rfl, Bm, hb1⟩ := hcut
  clear m0 m1 m2
  have k0 : wc.cell? ⟨q, 0, none⟩ = some (.int .i64 x0) := Bm.cell 0 rfl
  have cF2 := cF wc hb1
  clear cF
  by_cases hin : x0 ∈ idsL es
  · have hx0 : x0 ≠ 0 := fun e => h0 (by rw [← e]; exact hin)
    have bx : (x0 == 0) = false := beq_eq_false_iff_ne.2 hx0
    rw [fdP_in hin] at cF2
    have HL := Lib.hid (HL.out.trans (if_pos hin))
    have hmk := mkE_zero_iff (hmi hin)
    have hik : (idsL es).idxOf x0 < n := by
      have := List.idxOf_lt_length_iff.2 hin
      rw [idsL_len] at this
      omega
    have hid : x0 = (gE es ((idsL es).idxOf x0)).id := by rw [← idsL_at, List.getD_eq_getElem?_getD, List.getElem?_eq_getElem (by rw [idsL_len]; omega)]; simp
    simp only at hmk
    generalize (idsL es).idxOf x0 = li at *
    obtain ⟨L, hL⟩ : ∃ L : Nat, x1 = (L : Int) + 1 := ⟨(x1 - 1).toNat, by omega⟩
    subst hL
    rw [show ((L : Int) + 1 - 1).toNat = L by omega] at HL
    have hcl := hC.c li hik
    have hln := hC.l li hik
    have h9 := clE_len hcl
    have hLk := lvok_of hln hcl
    have hcc := ha.c li hik
    have hkz : ckE (vs.getD li []) (gE es li).n ((L : Int) + 1) = 0 := ckE_zero hcl (by omega) (by omega)
    have hmt : Sl w 3 mkC (some am) (i + 1) (ms.take (i + 1)) := hm.take (by omega)
    have hMk2 : ∀ j, j < (ms.take (i + 1)).length → (gM (ms.take (i + 1)) j).list = x0 → 1 ≤ (gM (ms.take (i + 1)) j).level ∧ (gM (ms.take (i + 1)) j).level ≤ (gE es li).n ∧ 0 ≤ (gM (ms.take (i + 1)) j).restart ∧ (gM (ms.take (i + 1)) j).restart ≤ 32767 := fun j hj e => mkIn_at he hu hik (hk _ (List.mem_of_mem_take (gM_mem hj))) (e.trans hid)
    have hCk2 : ∀ j, j ≤ (ms.take (i + 1)).length → CnOk (32767 + j) (countC (vs.getD li []) (gE es li).n cnZ (selM ((ms.take (i + 1)).take j) x0)) := fun j hj => by
      have := cntS_ok (ms := (ms.take (i + 1)).take j) (id := (gE es li).id) hLk (sel_ok he hu hik (fun y hy => hk y (List.mem_of_mem_take (List.mem_of_mem_take hy))))
      rw [← hid] at this
      have hl : (((ms.take (i + 1)).take j).length : Int) ≤ j := by rw [List.length_take]; omega
      intro t
      have := this t
      unfold cntS at this
      omega
    have hls := ha.v li hik
    obtain ⟨al, eA, hal, _, g1⟩ := ha.l.ls hik
    subst eA
    have li0 : (0 : Int) ≤ li := by omega
    have li1 : (li : Int) < n := by omega
    have lin : ¬ (li : Int) < 0 := by omega
    have cC := Lib.hid (fun W (hb : Below w.heap.size w W) => countedS_any (gE es li).A (gE es li).n (gE es li).c (vs.getD li []) (some am) (i + 1) cm (ms.take (i + 1)) cnZ 32767 W (hls.below hb) (hmt.below hb) x0 hcl hMk2 (by omega) hCk2 (by omega))
    have HLb := Lib.hid (show labF (vs.getD li []) (cntS (vs.getD li []) (gE es li).n (ms.take (i + 1)) x0) L = fillB (vs.getD li []) L (numsF (vs.getD li []) (cntS (vs.getD li []) (gE es li).n (ms.take (i + 1)) x0) (L + 1)) from rfl)
    rw [show countC (vs.getD li []) (gE es li).n cnZ (selM (ms.take (i + 1)) x0) = cntS (vs.getD li []) (gE es li).n (ms.take (i + 1)) x0 from rfl] at cC
    generalize cntS (vs.getD li []) (gE es li).n (ms.take (i + 1)) x0 = Z at *
    have HL := Lib.hid (HL.out.trans HLb.out)
    clear HLb hid hMk2 hCk2 hmk hLk h9 hln hmt hmi
    generalize vs.getD li [] = ls at *
    generalize (gE es li).A = Ak at *
    generalize (gE es li).n = nk at *
    generalize (gE es li).c = cK at *
    have cS := Lib.hid (fun W (hb : Below w.heap.size w W) => (shown_any Ak nk cK ls Z ((L : Int) + 1) W (hls.below hb) hcc).mono (R' := fun e w' => ∃ v, e = .returned v ∧ ∃ (B : Option Addr) (cB : Nat), v = .tuple #[.slice B (L + 1) cB, .int .i64 0] ∧ Own w' W.heap.size 3 1 intC B (L + 1) cB (numsF ls Z (L + 1)) ∧ Below W.heap.size W w') (fun e w' h => by
      unfold ShownPost at h
      rw [hkz] at h
      obtain ⟨B, k, cB, he, h1, _, h3⟩ := h
      obtain ⟨hk2, ho⟩ := h1 rfl
      have : k = L + 1 := by omega
      subst this
      exact ⟨_, he, B, cB, rfl, ho, h3⟩))
    have cL := Lib.hid (fun W (hb : Below w.heap.size w W) B cB (ho : Sl W 1 intC B (L + 1) (numsF ls Z (L + 1))) => fill_any Ak nk cK ls L B (L + 1) cB (numsF ls Z (L + 1)) W (hg.below hb) (hls.below hb) ho hkz (Nat.le_refl _))
    generalize numsF ls Z (L + 1) = ns at *
    rw [← HL.out] at cL
    clear hkz hls hcc hcl
    go_upto_region 5 with (first | (go_at_call 28; refine cF2.mono ?_; rintro e w6 ⟨rfl, rfl⟩))
    have k1 : w6.cell? ⟨q, 1, none⟩ = some (.int .i64 ((L : Int) + 1)) := Bm.cell 1 rfl
    have g6 := keep1 hb1 g1
    have lZ := cnL_len Z
    have zZ : (Tryz.prog.info? 87).map (·.size) = some (cnL Z).length := size48
    have oZ := cnL_one Z
    have SK : ∀ {w0 w1 : World}, (w0.cell? ⟨q, 0, none⟩ = some (.int .i64 x0) ∧ w0.cell? ⟨(al.add (li * 2)).block, (al.add (li * 2)).off + 1, none⟩ = some (.slice Ak nk cK)) → Below w0.heap.size w0 w1 → (w1.cell? ⟨q, 0, none⟩ = some (.int .i64 x0) ∧ w1.cell? ⟨(al.add (li * 2)).block, (al.add (li * 2)).off + 1, none⟩ = some (.slice Ak nk cK)) := fun h hb => ⟨keep1 hb h.1, keep1 hb h.2⟩
    have hq6 := Bm.lt
    have ha6 : (al.add (li * 2)).block < w6.heap.size := by rw [block_add]; have := hb1.size; omega
    have FIN := Lib.hid (fun (W : World) (g : Nat) (hb : Below w6.heap.size w6 W) (N : Blk W g 87 (cnA cnZ)) (h : W.cell? ⟨q, 0, none⟩ = some (.int .i64 x0) ∧ W.cell? ⟨(al.add (li * 2)).block, (al.add (li * 2)).off + 1, none⟩ = some (.slice Ak nk cK)) (hgl : w6.heap.size ≤ g) => show ((W.setCells g 0 (cnL Z)).cell? ⟨q, 0, none⟩ = some (.int .i64 x0) ∧ (W.setCells g 0 (cnL Z)).cell? ⟨(al.add (li * 2)).block, (al.add (li * 2)).off + 1, none⟩ = some (.slice Ak nk cK)) ∧ Below w6.heap.size w6 (W.setCells g 0 (cnL Z)) ∧ Blk (W.setCells g 0 (cnL Z)) g 87 (cnA Z) from ⟨⟨cell_setCells h.1 (by show q ≠ g; omega), cell_setCells h.2 (by show (al.add (li * 2)).block ≠ g; omega)⟩, below_setC hb (Nat.le_refl _) hgl _, Blk.setCells_ (cnL Z) [] (cnL cnZ) W N rfl⟩)
    go_cut [9] (fun v wx => ∃ p9, v = .pointer (some ⟨p9, 0, none⟩) ∧ Blk wx p9 87 (cnA Z) ∧ Below w6.heap.size w6 wx)
    case first =>
      refine wp_region_held_drew (S := fun w' => w'.cell? ⟨q, 0, none⟩ = some (.int .i64 x0) ∧ w'.cell? ⟨(al.add (li * 2)).block, (al.add (li * 2)).off + 1, none⟩ = some (.slice Ak nk cK)) (by kernel_rfl) ⟨k0, g6⟩ (fun hHeld => ?_)
      have hbW : Below w6.heap.size w6 w6.drew := bDrew (Below.refl _ _)
      generalize w6.drew = wd at *
      refine hx_take 0 (some 31) _ rfl (by kernel_rfl) (by kernel_rfl) (by kernel_rfl) (fun _ _ _ h => h) rfl (Or.inl ⟨by rfl, fun w hSw => by first | (go_simp; done) | (go_simp; with_reducible rfl) | (go_simp; rfl)⟩) (by assumption) ?_
      try simp only [Act.put, List.setIfInBounds_toArray, List.set_cons_zero, List.set_cons_succ]
      refine hx_take 1 (some 32) _ rfl (by kernel_rfl) (by kernel_rfl) (by kernel_rfl) (fun _ _ _ h => h) rfl (Or.inl ⟨by rfl, fun w hSw => by first | (go_simp; done) | (go_simp; with_reducible rfl) | (go_simp; rfl)⟩) (by assumption) ?_
      try simp only [Act.put, List.setIfInBounds_toArray, List.set_cons_zero, List.set_cons_succ]
      refine hx_take 5 (some 36) (.agg (cnA cnZ)) rfl (by kernel_rfl) (by kernel_rfl) (by kernel_rfl) (fun _ _ _ h => h) rfl (Or.inl ⟨by rfl, fun w hSw => by first | (go_simp; done) | (go_simp; with_reducible rfl) | (go_simp; rfl)⟩) (by assumption) ?_
      try simp only [Act.put, List.setIfInBounds_toArray, List.set_cons_zero, List.set_cons_succ]
      refine hx_take 6 (some 37) _ rfl (by kernel_rfl) (by kernel_rfl) (by kernel_rfl) (fun _ _ _ h => h) rfl (Or.inl ⟨by rfl, fun w hSw => by first | (go_simp; done) | (go_simp; with_reducible rfl) | (go_simp; rfl)⟩) (by assumption) ?_
      try simp only [Act.put, List.setIfInBounds_toArray, List.set_cons_zero, List.set_cons_succ]
      refine hx_take 7 (some 38) _ rfl (by kernel_rfl) (by kernel_rfl) (by kernel_rfl) (fun _ _ _ h => h) rfl (Or.inl ⟨by rfl, fun w hSw => by first | (go_simp; done) | (go_simp; with_reducible rfl) | (go_simp; rfl)⟩) (by assumption) ?_
      try simp only [Act.put, List.setIfInBounds_toArray, List.set_cons_zero, List.set_cons_succ]
      refine hx_take 10 (some 41) _ rfl (by kernel_rfl) (by kernel_rfl) (by kernel_rfl) (fun _ _ _ h => h) rfl (Or.inl ⟨by rfl, fun w hSw => by first | (go_simp; done) | (go_simp; with_reducible rfl) | (go_simp; rfl)⟩) (by assumption) ?_
      try simp only [Act.put, List.setIfInBounds_toArray, List.set_cons_zero, List.set_cons_succ]
      refine hx_take 2 (some 33) (.pointer (some (al.add (li * 2)))) rfl (by kernel_rfl) (by kernel_rfl) (by kernel_rfl) (fun _ _ _ h => h) rfl (Or.inl ⟨by rfl, fun w hSw => by first | (go_simp; done) | (go_simp; with_reducible rfl) | (go_simp; rfl)⟩) (by assumption) ?_
      try simp only [Act.put, List.setIfInBounds_toArray, List.set_cons_zero, List.set_cons_succ]
      refine hx_take 8 (some 39) _ rfl (by kernel_rfl) (by kernel_rfl) (by kernel_rfl) (fun _ _ _ h => h) rfl (Or.inl ⟨by rfl, fun w hSw => by first | (go_simp; done) | (go_simp; with_reducible rfl) | (go_simp; rfl)⟩) (by assumption) ?_
      try simp only [Act.put, List.setIfInBounds_toArray, List.set_cons_zero, List.set_cons_succ]
      refine hx_take 11 (some 42) _ rfl (by kernel_rfl) (by kernel_rfl) (by kernel_rfl) (fun _ _ _ h => h) rfl (Or.inl ⟨by rfl, fun w hSw => by first | (go_simp; done) | (go_simp; with_reducible rfl) | (go_simp; rfl)⟩) (by assumption) ?_
      try simp only [Act.put, List.setIfInBounds_toArray, List.set_cons_zero, List.set_cons_succ]
      refine hx_take 3 (some 34) _ rfl (by kernel_rfl) (by kernel_rfl) (by kernel_rfl) (fun _ _ _ h => h) rfl (Or.inl ⟨by rfl, fun w hSw => by first | (go_simp; done) | (go_simp; with_reducible rfl) | (go_simp; rfl)⟩) (by assumption) ?_
      try simp only [Act.put, List.setIfInBounds_toArray, List.set_cons_zero, List.set_cons_succ]
      refine hx_take 9 (some 40) (.slice (some am) (i + 1) cm) rfl (by kernel_rfl) (by kernel_rfl) (by kernel_rfl) (fun _ _ _ h => h) rfl (Or.inl ⟨by rfl, fun w hSw => by first | (go_simp; done) | (go_simp; with_reducible rfl) | (go_simp; rfl)⟩) (by assumption) ?_
      try simp only [Act.put, List.setIfInBounds_toArray, List.set_cons_zero, List.set_cons_succ]
      refine hx_take 4 (some 35) _ rfl (by kernel_rfl) (by kernel_rfl) (by kernel_rfl) (fun _ _ _ h => h) rfl (Or.inl ⟨by rfl, fun w hSw => by first | (go_simp; done) | (go_simp; with_reducible rfl) | (go_simp; rfl)⟩) (by assumption) ?_
      try simp only [Act.put, List.setIfInBounds_toArray, List.set_cons_zero, List.set_cons_succ]
      refine hx2 12 16 (by kernel_rfl) ?_ ?_
      · refine hx_call 12 (some 43) _ _ _ _ rfl (by rfl) rfl (by go_simp) (cC.out wd (below_trans' hb1 hb1.size hbW)) ?_
        rintro w9 hb9
        have S9 := SK hHeld hb9
        refine ⟨S9, ?_⟩
        try simp only [Act.put, List.setIfInBounds_toArray, List.set_cons_zero, List.set_cons_succ]
        refine hx_take 13 (some 30) _ rfl (by kernel_rfl) (by kernel_rfl) (by kernel_rfl) (fun _ _ _ h => h) rfl (Or.inl ⟨by rfl, fun w hSw => by first | (go_simp; done) | (go_simp; with_reducible rfl) | (go_simp; rfl)⟩) (by assumption) ?_
        try simp only [Act.put, List.setIfInBounds_toArray, List.set_cons_zero, List.set_cons_succ]
        refine hx_take 14 (some 44) _ rfl (by kernel_rfl) (by kernel_rfl) (by kernel_rfl) (fun _ _ _ h => h) rfl (Or.inl ⟨by rfl, fun w hSw => by first | (go_simp; done) | (go_simp; with_reducible rfl) | (go_simp; rfl)⟩) (by assumption) ?_
        try simp only [Act.put, List.setIfInBounds_toArray, List.set_cons_zero, List.set_cons_succ]
        refine hx_take 15 (some 45) _ rfl (by kernel_rfl) (by kernel_rfl) (by kernel_rfl) (fun _ _ _ h => h) rfl (Or.inl ⟨by rfl, fun w hSw => by first | (go_simp; done) | (go_simp; with_reducible rfl) | (go_simp; rfl)⟩) (by assumption) ?_
        try simp only [Act.put, List.setIfInBounds_toArray, List.set_cons_zero, List.set_cons_succ]
        have hbA := (Below.refl w9.heap.size w9).alloc (Nat.le_refl _) (.cells (cnA cnZ) 87)
        have SA := SK S9 hbA
        have NA := Blk.new w9 87 (cnA cnZ)
        refine hx1 16 (by kernel_rfl) ?_
        refine hx_val 16 (some 9) (.pointer (some ⟨w9.heap.size, 0, none⟩)) (w9.alloc (.cells (cnA cnZ) 87)) rfl (by rfl) rfl (by first | rfl | (go_simp; done) | (go_simp; with_reducible rfl)) SA ?_
        try simp only [Act.put, List.setIfInBounds_toArray, List.set_cons_zero, List.set_cons_succ]
        have h99 : w9.heap.size ≤ w9.heap.size := Nat.le_refl _
        obtain ⟨S10, hb10, N10⟩ := FIN.out _ _ (below_trans' (below_trans' hbW hbW.size hb9) (Nat.le_trans hbW.size hb9.size) hbA) NA SA (Nat.le_trans hbW.size hb9.size)
        refine hx1 17 (by kernel_rfl) ?_
        refine hx_store 17 _ _ _ w9.heap.size (cnL Z) rfl (by rfl) rfl rfl rfl rfl (by rw [lZ]; exact NA.thereN) zZ oZ S10 ?_
        try simp only [Act.put, List.setIfInBounds_toArray, List.set_cons_zero, List.set_cons_succ]
        refine hx_take 18 (some 10) _ rfl (by kernel_rfl) (by kernel_rfl) (by kernel_rfl) (fun _ _ _ h => h) rfl (Or.inl ⟨by rfl, fun w hSw => by first | (go_simp; done) | (go_simp; with_reducible rfl) | (go_simp; rfl)⟩) (by assumption) ?_
        try simp only [Act.put, List.setIfInBounds_toArray, List.set_cons_zero, List.set_cons_succ]
        refine wpAnyH_done (by kernel_rfl) ?_ _
        go_wp2_with fail
        go_meet
        case rel => exact ⟨_, rfl, N10, hb10⟩
      · have hbA := (Below.refl wd.heap.size wd).alloc (Nat.le_refl _) (.cells (cnA cnZ) 87)
        have SA := SK hHeld hbA
        have NA := Blk.new wd 87 (cnA cnZ)
        refine hx_val 16 (some 9) (.pointer (some ⟨wd.heap.size, 0, none⟩)) (wd.alloc (.cells (cnA cnZ) 87)) rfl (by rfl) rfl (by first | rfl | (go_simp; done) | (go_simp; with_reducible rfl)) SA ?_
        try simp only [Act.put, List.setIfInBounds_toArray, List.set_cons_zero, List.set_cons_succ]
        obtain ⟨p9, hp9⟩ : ∃ g, wd.heap.size = g := ⟨_, rfl⟩
        rw [hp9] at NA ⊢
        have hWA := below_trans' hbW hbW.size hbA
        obtain ⟨wA, hwA⟩ : ∃ W, wd.alloc (.cells (cnA cnZ) 87) = W := ⟨_, rfl⟩
        rw [hwA] at NA SA hWA ⊢
        refine hx1 12 (by kernel_rfl) ?_
        refine hx_call 12 (some 43) _ _ _ _ rfl (by rfl) rfl (by go_simp) (cC.out wA (below_trans' hb1 hb1.size hWA)) ?_
        rintro w9 hb9
        have S9 := SK SA hb9
        refine ⟨S9, ?_⟩
        try simp only [Act.put, List.setIfInBounds_toArray, List.set_cons_zero, List.set_cons_succ]
        refine hx_take 13 (some 30) _ rfl (by kernel_rfl) (by kernel_rfl) (by kernel_rfl) (fun _ _ _ h => h) rfl (Or.inl ⟨by rfl, fun w hSw => by first | (go_simp; done) | (go_simp; with_reducible rfl) | (go_simp; rfl)⟩) (by assumption) ?_
        try simp only [Act.put, List.setIfInBounds_toArray, List.set_cons_zero, List.set_cons_succ]
        refine hx_take 14 (some 44) _ rfl (by kernel_rfl) (by kernel_rfl) (by kernel_rfl) (fun _ _ _ h => h) rfl (Or.inl ⟨by rfl, fun w hSw => by first | (go_simp; done) | (go_simp; with_reducible rfl) | (go_simp; rfl)⟩) (by assumption) ?_
        try simp only [Act.put, List.setIfInBounds_toArray, List.set_cons_zero, List.set_cons_succ]
        refine hx_take 15 (some 45) _ rfl (by kernel_rfl) (by kernel_rfl) (by kernel_rfl) (fun _ _ _ h => h) rfl (Or.inl ⟨by rfl, fun w hSw => by first | (go_simp; done) | (go_simp; with_reducible rfl) | (go_simp; rfl)⟩) (by assumption) ?_
        try simp only [Act.put, List.setIfInBounds_toArray, List.set_cons_zero, List.set_cons_succ]
        have NA := NA.below hb9
        obtain ⟨S10, hb10, N10⟩ := FIN.out _ _ (below_trans' hWA hWA.size hb9) NA S9 (by rw [← hp9]; exact hbW.size)
        refine hx1 17 (by kernel_rfl) ?_
        refine hx_store 17 _ _ _ p9 (cnL Z) rfl (by rfl) rfl rfl rfl rfl (by rw [lZ]; exact NA.thereN) zZ oZ S10 ?_
        try simp only [Act.put, List.setIfInBounds_toArray, List.set_cons_zero, List.set_cons_succ]
        refine hx_take 18 (some 10) _ rfl (by kernel_rfl) (by kernel_rfl) (by kernel_rfl) (fun _ _ _ h => h) rfl (Or.inl ⟨by rfl, fun w hSw => by first | (go_simp; done) | (go_simp; with_reducible rfl) | (go_simp; rfl)⟩) (by assumption) ?_
        try simp only [Act.put, List.setIfInBounds_toArray, List.set_cons_zero, List.set_cons_succ]
        refine wpAnyH_done (by kernel_rfl) ?_ _
        go_wp2_with fail
        go_meet
        case rel => exact ⟨_, rfl, N10, hb10⟩
    case rest =>
    obtain ⟨p9, rfl, N9, hb9⟩ := hcut
    clear FIN SK cC c3
    have hbc := below_trans' hb1 hb1.size hb9
    have k1 := keep1 hb9 k1
    have g6 := keep1 hb9 g6
    have r9 := N9.rangeN (lX := cnL Z) rfl
    rw [cnA_L Z] at cS
    go_upto_region 6 with fail
    refine wp_region_held_drew (S := fun w' => w'.cell? ⟨q, 1, none⟩ = some (.int .i64 ((L : Int) + 1)) ∧ w'.cell? ⟨(al.add (li * 2)).block, (al.add (li * 2)).off + 1, none⟩ = some (.slice Ak nk cK) ∧ w'.rangeAt p9 0 (cnL Z)) (by kernel_rfl) ⟨k1, g6, r9⟩ (fun hHeld => ?_)
    refine hx_take 0 (some 47) _ rfl (by kernel_rfl) (by kernel_rfl) (by kernel_rfl) (fun _ _ _ h => h) rfl (Or.inl ⟨by rfl, fun w hSw => by first | (go_simp; done) | (go_simp; with_reducible rfl) | (go_simp; rfl)⟩) (by assumption) ?_
    try simp only [Act.put, List.setIfInBounds_toArray, List.set_cons_zero, List.set_cons_succ]
    refine hx_take 1 (some 48) _ rfl (by kernel_rfl) (by kernel_rfl) (by kernel_rfl) (fun _ _ _ h => h) rfl (Or.inl ⟨by rfl, fun w hSw => by first | (go_simp; done) | (go_simp; with_reducible rfl) | (go_simp; rfl)⟩) (by assumption) ?_
    try simp only [Act.put, List.setIfInBounds_toArray, List.set_cons_zero, List.set_cons_succ]
    refine hx_take 6 (some 53) _ rfl (by kernel_rfl) (by kernel_rfl) (by kernel_rfl) (fun _ _ _ h => h) rfl (Or.inl ⟨by rfl, fun w hSw => by first | (go_simp; done) | (go_simp; with_reducible rfl) | (go_simp; rfl)⟩) (by assumption) ?_
    try simp only [Act.put, List.setIfInBounds_toArray, List.set_cons_zero, List.set_cons_succ]
    refine hx_take 2 (some 49) (.pointer (some (al.add (li * 2)))) rfl (by kernel_rfl) (by kernel_rfl) (by kernel_rfl) (fun _ _ _ h => h) rfl (Or.inl ⟨by rfl, fun w hSw => by first | (go_simp; done) | (go_simp; with_reducible rfl) | (go_simp; rfl)⟩) (by assumption) ?_
    try simp only [Act.put, List.setIfInBounds_toArray, List.set_cons_zero, List.set_cons_succ]
    refine hx_take 7 (some 54) _ rfl (by kernel_rfl) (by kernel_rfl) (by kernel_rfl) (fun _ _ _ h => h) rfl (Or.inl ⟨by rfl, fun w hSw => by first | (go_simp; done) | (go_simp; with_reducible rfl) | (go_simp; rfl)⟩) (by assumption) ?_
    try simp only [Act.put, List.setIfInBounds_toArray, List.set_cons_zero, List.set_cons_succ]
    refine hx_take 3 (some 50) _ rfl (by kernel_rfl) (by kernel_rfl) (by kernel_rfl) (fun _ _ _ h => h) rfl (Or.inl ⟨by rfl, fun w hSw => by first | (go_simp; done) | (go_simp; with_reducible rfl) | (go_simp; rfl)⟩) (by assumption) ?_
    try simp only [Act.put, List.setIfInBounds_toArray, List.set_cons_zero, List.set_cons_succ]
    refine hx_take 4 (some 51) _ rfl (by kernel_rfl) (by kernel_rfl) (by kernel_rfl) (fun _ _ _ h => h) rfl (Or.inl ⟨by rfl, fun w hSw => by first | (go_simp; done) | (go_simp; with_reducible rfl) | (go_simp; rfl)⟩) (by assumption) ?_
    try simp only [Act.put, List.setIfInBounds_toArray, List.set_cons_zero, List.set_cons_succ]
    refine hx_take 5 (some 52) (.agg (cnL Z).toArray) rfl (by kernel_rfl) (by kernel_rfl) (by kernel_rfl) (fun _ _ _ h => h) rfl (yieldsIf_load_mid (by rfl) _ _ rfl p9 0 rfl (cnL Z) _ (fun w hSw => hSw.2.2) Tryz.underlying87 rfl (by assumption)) (by assumption) ?_
    try simp only [Act.put, List.setIfInBounds_toArray, List.set_cons_zero, List.set_cons_succ]
    refine hx1 8 (by kernel_rfl) ?_
    refine hx_callE 8 (some 55) _ _ _ rfl (by rfl) rfl (by go_simp) (cS.out wc.drew (bDrew hbc)) ?_
    rintro v w8 ⟨B, cB, rfl, ho, hb8⟩
    have hb8 : Below wc.heap.size wc w8 := (bDrew (Below.refl _ _)).trans hb8
    have k8 := keep1 hb8 k1
    have g8 := keep1 hb8 g6
    refine ⟨⟨k8, g8, fun j v hv => keep1 hb8 (r9 j v hv)⟩, ?_⟩
    try simp only [Act.put, List.setIfInBounds_toArray, List.set_cons_zero, List.set_cons_succ]
    have S8 : w8.cell? ⟨q, 1, none⟩ = some (.int .i64 ((L : Int) + 1)) ∧ w8.cell? ⟨(al.add (li * 2)).block, (al.add (li * 2)).off + 1, none⟩ = some (.slice Ak nk cK) ∧ w8.rangeAt p9 0 (cnL Z) := ⟨k8, g8, fun j v hv => keep1 hb8 (r9 j v hv)⟩
    refine hx_take 9 (some 46) _ rfl (by kernel_rfl) (by kernel_rfl) (by kernel_rfl) (fun _ _ _ h => h) rfl (Or.inl ⟨by rfl, fun w hSw => by first | (go_simp; done) | (go_simp; with_reducible rfl) | (go_simp; rfl)⟩) (by assumption) ?_
    try simp only [Act.put, List.setIfInBounds_toArray, List.set_cons_zero, List.set_cons_succ]
    refine hx_take 10 (some 56) _ rfl (by kernel_rfl) (by kernel_rfl) (by kernel_rfl) (fun _ _ _ h => h) rfl (Or.inl ⟨by rfl, fun w hSw => by first | (go_simp; done) | (go_simp; with_reducible rfl) | (go_simp; rfl)⟩) (by assumption) ?_
    try simp only [Act.put, List.setIfInBounds_toArray, List.set_cons_zero, List.set_cons_succ]
    refine hx_take 11 (some 57) _ rfl (by kernel_rfl) (by kernel_rfl) (by kernel_rfl) (fun _ _ _ h => h) rfl (Or.inl ⟨by rfl, fun w hSw => by first | (go_simp; done) | (go_simp; with_reducible rfl) | (go_simp; rfl)⟩) (by assumption) ?_
    try simp only [Act.put, List.setIfInBounds_toArray, List.set_cons_zero, List.set_cons_succ]
    refine hx_take 12 (some 11) _ rfl (by kernel_rfl) (by kernel_rfl) (by kernel_rfl) (fun _ _ _ h => h) rfl (Or.inl ⟨by rfl, fun w hSw => by first | (go_simp; done) | (go_simp; with_reducible rfl) | (go_simp; rfl)⟩) (by assumption) ?_
    try simp only [Act.put, List.setIfInBounds_toArray, List.set_cons_zero, List.set_cons_succ]
    refine hx_take 13 (some 12) _ rfl (by kernel_rfl) (by kernel_rfl) (by kernel_rfl) (fun _ _ _ h => h) rfl (Or.inl ⟨by rfl, fun w hSw => by first | (go_simp; done) | (go_simp; with_reducible rfl) | (go_simp; rfl)⟩) (by assumption) ?_
    try simp only [Act.put, List.setIfInBounds_toArray, List.set_cons_zero, List.set_cons_succ]
    refine wpAnyH_done (by kernel_rfl) ?_ _
    have hbe := below_trans' hbc hbc.size hb8
    have cL2 := fun W (hb : Below w8.heap.size w8 W) => cL.out W (below_trans' hbe hbe.size hb) B cB ((ho.sl intC_len).below hb)
    clear S8 hHeld r9 k1 g6 N9 cS
    go_upto_region 7 with fail
    refine wp_region_held_drew (S := fun w' => w'.cell? ⟨q, 1, none⟩ = some (.int .i64 ((L : Int) + 1)) ∧ w'.cell? ⟨(al.add (li * 2)).block, (al.add (li * 2)).off + 1, none⟩ = some (.slice Ak nk cK)) (by kernel_rfl) ⟨k8, g8⟩ (fun hHeld => ?_)
    refine hx_take 0 (some 59) _ rfl (by kernel_rfl) (by kernel_rfl) (by kernel_rfl) (fun _ _ _ h => h) rfl (Or.inl ⟨by rfl, fun w hSw => by first | (go_simp; done) | (go_simp; with_reducible rfl) | (go_simp; rfl)⟩) (by assumption) ?_
    try simp only [Act.put, List.setIfInBounds_toArray, List.set_cons_zero, List.set_cons_succ]
    refine hx_take 1 (some 60) _ rfl (by kernel_rfl) (by kernel_rfl) (by kernel_rfl) (fun _ _ _ h => h) rfl (Or.inl ⟨by rfl, fun w hSw => by first | (go_simp; done) | (go_simp; with_reducible rfl) | (go_simp; rfl)⟩) (by assumption) ?_
    try simp only [Act.put, List.setIfInBounds_toArray, List.set_cons_zero, List.set_cons_succ]
    refine hx_take 5 (some 64) _ rfl (by kernel_rfl) (by kernel_rfl) (by kernel_rfl) (fun _ _ _ h => h) rfl (Or.inl ⟨by rfl, fun w hSw => by first | (go_simp; done) | (go_simp; with_reducible rfl) | (go_simp; rfl)⟩) (by assumption) ?_
    try simp only [Act.put, List.setIfInBounds_toArray, List.set_cons_zero, List.set_cons_succ]
    refine hx_take 7 (some 66) _ rfl (by kernel_rfl) (by kernel_rfl) (by kernel_rfl) (fun _ _ _ h => h) rfl (Or.inl ⟨by rfl, fun w hSw => by first | (go_simp; done) | (go_simp; with_reducible rfl) | (go_simp; rfl)⟩) (by assumption) ?_
    try simp only [Act.put, List.setIfInBounds_toArray, List.set_cons_zero, List.set_cons_succ]
    refine hx_take 2 (some 61) (.pointer (some (al.add (li * 2)))) rfl (by kernel_rfl) (by kernel_rfl) (by kernel_rfl) (fun _ _ _ h => h) rfl (Or.inl ⟨by rfl, fun w hSw => by first | (go_simp; done) | (go_simp; with_reducible rfl) | (go_simp; rfl)⟩) (by assumption) ?_
    try simp only [Act.put, List.setIfInBounds_toArray, List.set_cons_zero, List.set_cons_succ]
    refine hx_take 6 (some 65) _ rfl (by kernel_rfl) (by kernel_rfl) (by kernel_rfl) (fun _ _ _ h => h) rfl (Or.inl ⟨by rfl, fun w hSw => by first | (go_simp; done) | (go_simp; with_reducible rfl) | (go_simp; rfl)⟩) (by assumption) ?_
    try simp only [Act.put, List.setIfInBounds_toArray, List.set_cons_zero, List.set_cons_succ]
    refine hx_take 3 (some 62) _ rfl (by kernel_rfl) (by kernel_rfl) (by kernel_rfl) (fun _ _ _ h => h) rfl (Or.inl ⟨by rfl, fun w hSw => by first | (go_simp; done) | (go_simp; with_reducible rfl) | (go_simp; rfl)⟩) (by assumption) ?_
    try simp only [Act.put, List.setIfInBounds_toArray, List.set_cons_zero, List.set_cons_succ]
    refine hx_take 4 (some 63) _ rfl (by kernel_rfl) (by kernel_rfl) (by kernel_rfl) (fun _ _ _ h => h) rfl (Or.inl ⟨by rfl, fun w hSw => by first | (go_simp; done) | (go_simp; with_reducible rfl) | (go_simp; rfl)⟩) (by assumption) ?_
    try simp only [Act.put, List.setIfInBounds_toArray, List.set_cons_zero, List.set_cons_succ]
    refine hx1 8 (by kernel_rfl) ?_
    refine hx_call 8 (some 67) _ _ _ _ rfl (by rfl) rfl (by go_simp) (cL2 w8.drew (bDrew (Below.refl _ _))) ?_
    rintro w10 hb10
    have hb10 : Below w8.heap.size w8 w10 := (bDrew (Below.refl _ _)).trans hb10
    have S10 : w10.cell? ⟨q, 1, none⟩ = some (.int .i64 ((L : Int) + 1)) ∧ w10.cell? ⟨(al.add (li * 2)).block, (al.add (li * 2)).off + 1, none⟩ = some (.slice Ak nk cK) := ⟨keep1 hb10 k8, keep1 hb10 g8⟩
    refine ⟨S10, ?_⟩
    try simp only [Act.put, List.setIfInBounds_toArray, List.set_cons_zero, List.set_cons_succ]
    refine hx_take 9 (some 58) _ rfl (by kernel_rfl) (by kernel_rfl) (by kernel_rfl) (fun _ _ _ h => h) rfl (Or.inl ⟨by rfl, fun w hSw => by first | (go_simp; done) | (go_simp; with_reducible rfl) | (go_simp; rfl)⟩) (by assumption) ?_
    try simp only [Act.put, List.setIfInBounds_toArray, List.set_cons_zero, List.set_cons_succ]
    refine hx_take 10 (some 68) _ rfl (by kernel_rfl) (by kernel_rfl) (by kernel_rfl) (fun _ _ _ h => h) rfl (Or.inl ⟨by rfl, fun w hSw => by first | (go_simp; done) | (go_simp; with_reducible rfl) | (go_simp; rfl)⟩) (by assumption) ?_
    try simp only [Act.put, List.setIfInBounds_toArray, List.set_cons_zero, List.set_cons_succ]
    refine hx_take 11 (some 69) _ rfl (by kernel_rfl) (by kernel_rfl) (by kernel_rfl) (fun _ _ _ h => h) rfl (Or.inl ⟨by rfl, fun w hSw => by first | (go_simp; done) | (go_simp; with_reducible rfl) | (go_simp; rfl)⟩) (by assumption) ?_
    try simp only [Act.put, List.setIfInBounds_toArray, List.set_cons_zero, List.set_cons_succ]
    refine hx_take 12 (some 13) _ rfl (by kernel_rfl) (by kernel_rfl) (by kernel_rfl) (fun _ _ _ h => h) rfl (Or.inl ⟨by rfl, fun w hSw => by first | (go_simp; done) | (go_simp; with_reducible rfl) | (go_simp; rfl)⟩) (by assumption) ?_
    try simp only [Act.put, List.setIfInBounds_toArray, List.set_cons_zero, List.set_cons_succ]
    refine hx_take 13 (some 14) _ rfl (by kernel_rfl) (by kernel_rfl) (by kernel_rfl) (fun _ _ _ h => h) rfl (Or.inl ⟨by rfl, fun w hSw => by first | (go_simp; done) | (go_simp; with_reducible rfl) | (go_simp; rfl)⟩) (by assumption) ?_
    try simp only [Act.put, List.setIfInBounds_toArray, List.set_cons_zero, List.set_cons_succ]
    refine wpAnyH_done (by kernel_rfl) ?_ _
    go_wp2_with fail
    go_ret
    exact ⟨rfl, below_trans' hbe hbe.size hb10⟩
  · have HL2 := Lib.hid (HL.out.trans (if_neg hin))
    clear HL
    rw [fdP_out hin] at cF2
    by_cases hx0 : x0 = 0
    · subst hx0
      go_wp2_with (first | (go_at_call 28; refine cF2.mono ?_; rintro e w6 ⟨rfl, rfl⟩))
      go_ret
      exact ⟨by rw [HL2.out]; rfl, hb1⟩
    · have bx : (x0 == 0) = false := beq_eq_false_iff_ne.2 hx0
      go_wp2_with (first | (go_at_call 28; refine cF2.mono ?_; rintro e w6 ⟨rfl, rfl⟩))
      go_ret
      exact ⟨by rw [HL2.out]; rfl, hb1⟩
end Go.Proofs.YtbpodnhebjjkaaaGreatDoor

namespace Go.Proofs.YtbpodnhebjjkaaaGreatDoor
open Go.RowKit

set_option maxHeartbeats 4000000 in
set_option maxRecDepth 100000 in
theorem same_any (A A' : Option Addr) (m c c' : Nat) (ms : List Mk) (w : World) (h1 : Sl w 3 mkC A m ms) (h2 : Sl w 3 mkC A' m ms) (hm1 : m ≤ 1000) :
    Calls Tryz.prog 20 #[.slice A m c, .slice A' m c'] w fun e w' => e = .returned (.bool true) ∧ Below w.heap.size w w' := by
  go_enter Tryz.func20, Tryz.ntmps20
  go_wp2_with fail
  go_loopw [5] (fun vi wr => ∃ i : Nat, vi = .int .i64 i ∧ i ≤ m ∧ Below w.heap.size w wr) (fun vi _ => m - (intOf vi).toNat)
  case atStart => exact ⟨0, rfl, Nat.zero_le _, Below.refl _ _⟩
  case round =>
    obtain ⟨i, rfl, hi, hbw⟩ := hrel
    by_cases hlt : i < m
    · obtain ⟨a1, e1, _, k0, k1, k2⟩ := (h1.below hbw).mk_ hlt
      obtain ⟨a2, e2, _, j0, j1, j2⟩ := (h2.below hbw).mk_ hlt
      subst e1 e2
      generalize gM ms i = x at *
      obtain ⟨x0, x1, x2⟩ := x
      simp only at k0 k1 k2 j0 j1 j2
      go_upto_region 6 with fail
      go_quiet (fail)
      go_wp2_with fail
      go_roundw
      case measure => rw [intOf, intOf]; omega
      case rel => exact ⟨i + 1, by simp, hlt, below_drewN hbw _⟩
    · have hh : i = m := by omega
      subst hh
      go_wp2_with fail
      go_ret
      exact ⟨rfl, hbw⟩
theorem Sl.str {w : World} {A : Option Addr} {n : Nat} {xs : List ByteArray} (h : Sl w 1 strC A n xs) {k : Nat} {x : ByteArray} (hk : k < n) (hx : xs[k]? = some x) : ∃ ad, A = some ad ∧ w.cell? (ad.add k) = some (.string x) := by
  obtain ⟨ad, e, _, y, hy, hc⟩ := h.at_ hk
  rw [hx] at hy
  injection hy with hy
  subst hy
  have := hc 0 _ rfl
  rw [Nat.mul_one, Nat.add_zero] at this
  exact ⟨ad, e, this⟩
theorem LvsOk.congr {es es' : List LsE} {vs : List (List Lv)} {n : Nat} (hn : ∀ k, (gE es' k).n = (gE es k).n) (h : LvsOk es vs n) : LvsOk es' vs n := ⟨h.c, fun k hk => by rw [hn]; exact h.l k hk⟩
theorem MkIn.congr {es es' : List LsE} (hid : idsL es' = idsL es) (hn : ∀ k, (gE es' k).n = (gE es k).n) {m : Mk} (h : MkIn es m) : MkIn es' m := fun hm => by
  rw [hid] at hm ⊢
  rw [hn]
  exact h hm
theorem labsL_at (es : List LsE) (vs : List (List Lv)) (ms : List Mk) {i m : Nat} (h : i < m) : (labsL es vs ms m)[i]? = some (labM es vs ms i) := by
  unfold labsL
  rw [List.getElem?_map, List.getElem?_range h]; rfl
set_option maxHeartbeats 4000000 in
set_option maxRecDepth 100000 in
theorem agrees_any (p : Nat) (A' : Option Addr) (n c' : Nat) (es' : List LsE) (Bv : Option Addr) (k ck : Nat) (A : Option Addr) (c : Nat) (es : List LsE) (vs : List (List Lv)) (AM : Option Addr) (m cm : Nat) (ms : List Mk) (w : World) (hg : Gl w) (h : SqR w p A' n c' es' vs Bv k ck ms) (hid : idsL es' = idsL es) (hn : ∀ k, (gE es' k).n = (gE es k).n) (ha : LsT w A n es vs) (hbig : n ≤ 1000000) (hu : Up (idsL es)) (h0 : (0 : Int) ∉ idsL es) (hC : LvsOk es vs n) (hk : ∀ x ∈ ms, MkIn es x) (hm : Sl w 3 mkC AM m ms) (hmc : m ≤ cm) (hm1 : m ≤ 1000) :
    Calls Tryz.prog 8 #[.pointer (some ⟨p, 0, none⟩), .slice A n c, .slice AM m cm] w fun e w' => e = .returned (.bool true) ∧ Below w.heap.size w w' := by
  have hlm := hm.len
  have hu' : Up (idsL es') := by rw [hid]; exact hu
  have hC' := hC.congr hn
  have hk' : ∀ x ∈ ms, MkIn es' x := fun x hx => (hk x hx).congr hid hn
  have cN := len_any p A' n c' es' vs Bv k ck ms w h (by omega)
  have cM := Lib.hid (fun W (hb : Below w.heap.size w W) => seqMarks_any p A' n c' es' vs Bv k ck ms W (h.below hb) (by omega))
  have cS := Lib.hid (fun W (hb : Below w.heap.size w W) A2 c2 (h2 : Sl W 3 mkC A2 m ms) => same_any A2 AM m c2 cm ms W h2 (hm.below hb) hm1)
  have cL := Lib.hid (fun W (hb : Below w.heap.size w W) => labels_any p A' n c' es' vs Bv k ck ms W (hg.below hb) (h.below hb) hbig hu' hC' hk' (by omega))
  have cA := Lib.hid (fun W (hb : Below w.heap.size w W) i (hi : i < m) => lbl_any p A' n c' es' vs Bv k ck ms i W (hg.below hb) (h.below hb) hbig hu' hC' hk' (by omega) (by omega))
  have cB := Lib.hid (fun W (hb : Below w.heap.size w W) i (hi : i < m) => llabel_any A n c es vs AM m cm ms i W (hg.below hb) (ha.below hb) hbig hu h0 hC hk (hm.below hb) hmc hm1 hi)
  have HLE := Lib.hid (fun i => labM_congr hid hn vs ms i)
  rw [hlm] at cN cM cL
  clear h ha hm hC hC' hk hk' hg hlm
  go_enter Tryz.func8, Tryz.ntmps8
  go_upto_region 3 with (first | (go_at_call 19; refine cN.mono ?_; rintro e w1 ⟨rfl, hb1⟩) | (go_at_call 21; refine (cM.out _ hb1).mono ?_; rintro e w2 ⟨A2, c2, rfl, ho2, hb2⟩; have hb2w := below_trans' hb1 hb1.size hb2) | (go_at_call 20; refine (cS.out _ hb2w A2 c2 (ho2.sl mkC_len)).mono ?_; rintro e w3 ⟨rfl, hb3⟩; have hb3w := below_trans' hb2w hb2w.size hb3))
  go_upto_region 4 with (first | (go_at_call 10; refine (cL.out _ hb3w).mono ?_; rintro e w4 ⟨A4, c4, rfl, ho4, hb4⟩; have hb4w := below_trans' hb3w hb3w.size hb4))
  have hs4 := ho4.sl strC_len
  clear cN cM cS cL ho4 ho2 hb1 hb2 hb2w hb3
  go_wp2_with fail
  go_loopw [8] (fun vi wr => ∃ i : Nat, vi = .int .i64 i ∧ i ≤ m ∧ Below w4.heap.size w4 wr) (fun vi _ => m - (intOf vi).toNat)
  case atStart => exact ⟨0, rfl, Nat.zero_le _, Below.refl _ _⟩
  case round =>
    obtain ⟨i, rfl, hi, hbw⟩ := hrel
    have hbww := below_trans' hb4w hb4w.size hbw
    by_cases hlt : i < m
    · obtain ⟨a4, e4, k4⟩ := (hs4.below hbw).str hlt (labsL_at es' vs ms hlt)
      subst e4
      have cA2 := cA.out wr hbww i hlt
      have cB2 := Lib.hid (fun W hb => cB.out W hb i hlt)
      rw [HLE.out] at cA2 k4
      generalize labM es vs ms i = R at *
      go_upto_region 10 with (first | (go_at_call 22; refine cA2.mono ?_; rintro e w6 ⟨rfl, hb6⟩))
      have hb6w := below_trans' hbww hbww.size hb6
      have k6 := keep1 hb6 k4
      have cB3 := cB2.out w6 hb6w
      clear cA2 cB2 k4
      go_wp2_with (first | (go_at_call 23; refine cB3.mono ?_; rintro e w7 ⟨rfl, hb7⟩; have k7 := keep1 hb7 k6))
      go_roundw
      case measure => rw [intOf, intOf]; omega
      case rel => exact ⟨i + 1, by simp, hlt, by have hx := below_trans' hbw hbw.size hb6; exact below_trans' hx hx.size hb7⟩
    · have hh : i = m := by omega
      subst hh
      go_wp2_with fail
      go_ret
      exact ⟨rfl, hbww⟩
end Go.Proofs.YtbpodnhebjjkaaaGreatDoor

namespace Go.Proofs.YtbpodnhebjjkaaaGreatDoor
open Go.RowKit

def knL : List Lv := [⟨1, 1, ⟨#[37, 49, 46]⟩, 0⟩, ⟨2, 1, ⟨#[37, 49, 46, 37, 50]⟩, 1⟩]
theorem knL_right : clE knL = 0 := by decide +kernel
theorem Blk.new' {w : World} {t : TypeId} {cs : Array Value} {g : Nat} (h : w.heap.size = g) : Blk (w.alloc (.cells cs t)) g t cs := by subst h; exact Blk.new w t cs
def SetPost (w : World) (e : Ending) (w' : World) : Prop :=
  ∃ v0 v2 v3 g gl q, e = .returned (.agg #[v0, .slice (some ⟨g, 0, none⟩) 2 2, v2, v3]) ∧ Blk w' g 27 #[.int .i64 1, .slice (some ⟨gl, 0, none⟩) 2 2, .int .i64 2, q] ∧ Blk w' gl 74 (knL.flatMap lvC).toArray ∧ Below w.heap.size w w'
theorem knL_flat : (knL.flatMap lvC).toArray = #[.int .i64 1, .int .i64 1, .string ⟨#[37, 49, 46]⟩, .int .i64 0, .int .i64 2, .int .i64 1, .string ⟨#[37, 49, 46, 37, 50]⟩, .int .i64 1] := rfl
def setA (b : Nat) : Array Value := #[.slice (some ⟨b + 1 + 1 + 1 + 1 + 1, 0, none⟩) 4 4, .slice (some ⟨b + 1 + 1 + 1 + 1 + 1 + 1 + 1 + 1, 0, none⟩) 2 2, .slice (some ⟨b + 1 + 1 + 1 + 1 + 1 + 1 + 1 + 1 + 1, 0, none⟩) 1 1, .slice (some ⟨b + 1 + 1 + 1 + 1 + 1 + 1 + 1 + 1 + 1 + 1, 0, none⟩) 2 2]
set_option maxHeartbeats 4000000 in
set_option maxRecDepth 100000 in
theorem settings_any (w : World) : Calls Tryz.prog 9 #[] w (SetPost w) := by
  go_enter Tryz.func9, Tryz.ntmps9
  go_wp2_with fail
  refine bodyPost_ret (results_cell_row rfl _ _ w.heap.size 40 (setA w.heap.size) (0, 0) _ rfl ?hg Tryz.underlying40 rfl (by kernel_rfl)) rfl ?hq
  case hg =>
    unfold setA
    repeat (first | exact Blk.new' (by simp) | refine Blk.alloc ?_ _)
  case hq =>
    refine ⟨_, _, _, w.heap.size + 1 + 1 + 1 + 1 + 1 + 1 + 1 + 1, w.heap.size + 1 + 1 + 1 + 1 + 1 + 1, .slice (some ⟨w.heap.size + 1 + 1 + 1 + 1 + 1 + 1 + 1, 0, none⟩) 1 1, rfl, ?_, ?_, ?_⟩
    · repeat (first | exact Blk.new' (by simp) | refine Blk.alloc ?_ _)
    · rw [knL_flat]
      repeat (first | exact Blk.new' (by simp) | refine Blk.alloc ?_ _)
    · repeat (refine Below.alloc ?_ (by simp <;> omega) _)
      exact Below.refl _ _
end Go.Proofs.YtbpodnhebjjkaaaGreatDoor
