/- The law RenumberReplaces, the walk. -/
import Derived.Test.YtbpodnhebjjkaaaGreatDoorm18
namespace Go.Proofs.YtbpodnhebjjkaaaGreatDoor
open Go.RowKit

set_option maxHeartbeats 16000000 in
set_option maxRecDepth 100000 in
theorem renumberReplaces_any (A : Option Addr) (n c : Nat) (os : List OpE) (w : World) (hg : Gl w) (ho : Sl w 3 opC A n os) (hok : ∀ o ∈ os, OpOk w o) :
    Calls Tryz.prog 4 #[.slice A n c] w fun e w' => e = .returned (.bool true) ∧ Below w.heap.size w w' := by
  have kn := known_any w
  have kn2 := fun W => known_any W
  by_cases hn10 : 10 < n
  · go_enter Tryz.func4, Tryz.ntmps4
    go_upto_region 2 with (first | (go_at_call 5; refine kn.mono ?_; rintro e w1 ⟨rfl, hb1⟩))
    have kn3 := kn2 w1
    go_wp2_with (first | (go_at_call 5; refine kn3.mono ?_; rintro e w2 ⟨rfl, hb2⟩))
    go_ret
    exact ⟨rfl, below_trans' hb1 hb1.size hb2⟩
  · clear kn2
    have cS := fun W => settings_lists W
    have fld : ∀ v0 v2 v3 AL w, (Instr.field 40 (.agg #[v0, .slice AL 2 2, v2, v3]) 1).run Tryz.prog w = .ok (.slice AL 2 2) w := fun _ _ _ _ _ => by kernel_rfl
    go_enter Tryz.func4, Tryz.ntmps4
    go_upto_region 3 with (first | (go_at_call 5; refine kn.mono ?_; rintro e w0 ⟨rfl, hb0⟩))
    have cS2 := cS w0
    go_upto_region 4 with (first | (go_at_call 9; refine cS2.mono ?_; rintro e w1 ⟨v0, v2, v3, AL, es, rfl, hT, hz, hb1⟩))
    have hb1w := below_trans' hb0 hb0.size hb1
    have cN := new_any AL 2 2 es [knL, lv2] none 0 0 [] w1 hT (by omega) Sl.nil (by omega) (by omega)
    clear kn cS cS2
    go_upto_region 7 with (first | (go_at_call 6; refine cN.mono ?_; rintro e w2 ⟨hb2, ⟨hne, _⟩ | ⟨_, p, rfl, hpw, hq⟩⟩; (exact absurd hz hne)))
    have hpl : p < w2.heap.size := by obtain ⟨_, _, _, _, _, _, _, _, _, _, _, _, hp, _⟩ := hq; exact hp.lt
    have hb2w := below_trans' hb1w hb1w.size hb2
    have R0 : RS w w1 (p + 1) p es [knL, lv2] none 0 0 [] 0 w2 := ⟨Own.nil_ _ _ _ _ _, Nat.le_refl _, rfl, hq, hb2, hb2w⟩
    clear cN hq
    have h12 := hb2.size
    have hzz := (allE_zero hz).1
    have hve : [knL, lv2].length = es.length := by rw [hT.l.len]; rfl
    have up := ids_up hve hzz
    have ps := ids_pos hve hzz
    have hC : LvsOk es [knL, lv2] 2 := ⟨fun k hk => lvs_right hve hzz hk, fun k hk => (hT.v k hk).len⟩
    obtain ⟨vs, hvs⟩ : ∃ l, [knL, lv2] = l := ⟨_, rfl⟩
    rw [hvs] at R0 hz hT hC
    clear hvs hve hzz
    go_wp2_with fail
    go_loopw [6, 7] (fun v6 v7 wr => ∃ (i : Nat) (Am : Option Addr) (nm cm : Nat) (ms : List Mk), v7 = .int .i64 i ∧ i ≤ n ∧ v6 = .slice Am nm cm ∧ RS w w1 (p + 1) p es vs Am nm cm ms (6 * i) wr) (fun _ v7 _ => n - (intOf v7).toNat)
    case atStart => exact ⟨0, none, 0, 0, [], rfl, Nat.zero_le _, rfl, R0⟩
    case round =>
      obtain ⟨i, Am, nm, cm, ms, rfl, hi, rfl, R⟩ := hrel
      clear R0
      by_cases hlt : i < n
      · have HK2 := Lib.hid (ho.op hlt)
        obtain ⟨ad, eA, k0, k1, k2, hmem⟩ := (ho.below R.b).op hlt
        subst eA
        obtain ⟨of0, of1, ok0, ok1, onc, onone, xs, hxs⟩ := hok _ hmem
        generalize (gO os i).f = f at *
        generalize (gO os i).k = kk at *
        generalize (gO os i).A = Ax at *
        generalize (gO os i).n = nx at *
        generalize (gO os i).c = cx at *
        obtain ⟨fn, rfl⟩ : ∃ q : Nat, f = q := ⟨f.toNat, by omega⟩
        obtain ⟨kn, rfl⟩ : ∃ q : Nat, kk = q := ⟨kk.toNat, by omega⟩
        go_upto_region 11 with fail
        by_cases h6 : 6 < nx
        · have h6i : (6 : Int) < nx := by omega
          go_wp2_with fail
          go_ret
          exact ⟨rfl, R.b⟩
        · have h6i : ¬ (6 : Int) < nx := by omega
          have hlen := R.len
          have hoA := R.o.len
          obtain ⟨fr, hfr⟩ : ∃ q, fn % (nm + 1) = q := ⟨_, rfl⟩
          have hfr1 : fr ≤ nm := by have := Nat.mod_lt fn (show 0 < nm + 1 by omega); omega
          have hfi : (fn : Int) % ((nm : Int) + 1) = (fr : Nat) := by rw [← hfr]; norm_cast
          obtain ⟨to_, hto⟩ : ∃ q, fr + kn % 8 = q := ⟨_, rfl⟩
          have hti : (fr : Int) + (kn : Int) % 8 = (to_ : Nat) := by rw [← hto]; omega
          have hk8 : (0 : Int) ≤ (kn : Int) % 8 ∧ (kn : Int) % 8 < 8 := by omega
          have hto1 : to_ ≤ nm + 8 := by omega
          have cwm : IntKind.i64.wrap ((nm : Int) + 1) = nm + 1 := IntWalk.i64_in _ (by omega)
          have cw2 : IntKind.i64.wrap ((fr : Int) + (kn : Int) % 8) = (to_ : Nat) := by rw [hti]; exact IntWalk.i64_in _ (by omega)
          obtain ⟨wS, A', c', es', Bv, k, ck, s1, s2, s3, s4, s5, s6, s7⟩ := R.sq
          have hq : SqR wr p A' 2 c' es' vs Bv k ck ms := ⟨s6, s1.below s5, _, s7⟩
          have up' : Up (idsL es') := by rw [s2]; exact up
          have ps' : (0 : Int) ∉ idsL es' := by rw [s2]; exact ps
          have hC' := hC.congr s3
          have hk' : ∀ x ∈ ms, MkIn es' x := fun x hx => (mkIn_of ps R.ch x hx).congr s2 s3
          have cL := labels_any p A' 2 c' es' vs Bv k ck ms wr (hg.below R.b) hq (by omega) up' hC' hk' (by omega)
          have cK := Lib.hid (fun W (hb : Below wr.heap.size wr W) => checkMarks_any AL 2 2 es Ax nx cx xs W (hT.l.below (below_trans' R.b1 R.b1.size hb)) (by omega) (hxs.below (below_trans' R.b R.b.size hb)) (by omega))
          have cR := Lib.hid (fun W (hb : Below wr.heap.size wr W) => replaceSeq_any p A' 2 c' es' vs Bv k ck ms fr to_ Ax nx cx xs W (hq.below hb) (by omega) (by omega) (by omega) up' ps' hC' hk' (hxs.below (below_trans' R.b R.b.size hb)) onc onone (by omega))
          rw [hoA] at cL
          have HLB := Lib.hid (fun k => labM_congr s2 s3 vs ms k)
          have HRE := Lib.hid (show repE es' ms.length to_ xs = if nm < to_ then 2 else chkE es xs from by unfold repE; rw [hoA, chkE_congr s2 s3])
          go_upto_region 14 with fail
          rw [hfi]
          go_upto_region 16 with (first | (go_at_call 10; refine cL.mono ?_; rintro e w3 ⟨A3, c3, rfl, o3, hb3⟩))
          have k23 := keep1 hb3 k2
          have hbw3 := below_trans' R.b R.b.size hb3
          go_upto_region 17 with (first | (go_at_call 11; refine (cK.out w3 hb3).mono ?_; rintro e w4 ⟨rfl, hb4⟩))
          have hb43 := below_trans' hb3 hb3.size hb4
          have o3 := o3.below hb4
          clear cL cK k23
          go_upto_if 80 with fail
          go_cut [11] (fun v wx => v = .int .i64 (if nm < to_ then 2 else chkE es xs) ∧ wx = w4)
          case first =>
            by_cases hnt : nm < to_
            · have hnti : (nm : Int) < to_ := by omega
              go_wp2_with fail
              go_meet
              case rel => exact ⟨by rw [if_pos hnt], rfl⟩
            · have hnti : ¬ (nm : Int) < to_ := by omega
              go_wp2_with fail
              go_meet
              case rel => exact ⟨by rw [if_neg hnt], rfl⟩
          case rest =>
          obtain ⟨rfl, rfl⟩ := hcut
          rw [← HRE.out]
          have k2c := keep1 hb43 k2
          go_upto_region 20 with (first | (go_at_call 12; refine (cR.out wc hb43).mono ?_; rintro e w5 ⟨rfl, hgr, hB, hS⟩))
          clear cR
          have hbwc := below_trans' R.b R.b.size hb43
          have hpw2 : w.heap.size ≤ p := Nat.le_trans hb1w.size hpw
          have hb5 : Below w.heap.size w w5 := hbwc.grown hgr hbwc.size (fun k e => by injection e with e; omega)
          have hb15 : Below w1.heap.size w1 w5 := (below_trans' R.b1 R.b1.size hb43).grown hgr (Nat.le_trans R.b1.size hb43.size) (fun k e => by injection e with e; omega)
          have hpr : p < wr.heap.size := s6.lt
          have o5 : Own w5 wr.heap.size 9 1 strC A3 nm c3 (labsL es' vs ms nm) := o3.keep hgr (fun k e hk => by injection e with e; have := (o3.lt _ hk).1; omega)
          have m5 : Own w5 (p + 1) 81 3 mkC Am nm cm ms := (R.o.below hb43).keep hgr (fun k e hk => by injection e with e; have := (R.o.lt _ hk).1; omega)
          have k25 : w5.cell? ⟨(ad.add (i * 3)).block, (ad.add (i * 3)).off + 2, none⟩ = some (.slice Ax nx cx) := keep1 hb5 (by obtain ⟨ad', e, _, _, h2, _⟩ := HK2.out; injection e with e; subst e; exact h2)
          clear o3 k2c HK2
          rw [hoA] at hB hS HRE
          generalize hrr : repE es' nm to_ xs = rr at *
          go_upto_if 94 with fail
          go_cut [6] (fun v6 wx => ∃ (A2 : Option Addr) (n2 c2 : Nat) (ms2 : List Mk), v6 = .slice A2 n2 c2 ∧ RS w w1 (p + 1) p es vs A2 n2 c2 ms2 (6 * (i + 1)) wx ∧ Own wx wr.heap.size 9 1 strC A3 nm c3 (labsL es' vs ms nm) ∧ ∀ j, j < fr → labM es vs ms2 j = labM es vs ms j)
          case first =>
            by_cases hr0 : rr = 0
            · subst hr0
              obtain ⟨Bv2, k2_, ck2, blk2, bks2⟩ := hS rfl
              have hre := HRE.out
              have hnt : ¬ nm < to_ := fun h => by rw [if_pos h] at hre; omega
              rw [if_neg hnt] at hre
              have hNch := Lib.hid (chkE_append es _ _ (chkE_append es _ _ (chkE_sub es R.ch (fun y hy => List.mem_of_mem_take hy)) hre.symm) (chkE_sub es R.ch (fun y hy => List.mem_of_mem_drop hy)) : chkE es (ms.take fr ++ xs ++ ms.drop to_) = 0)
              have SQ5 := Lib.hid (⟨wS, A', c', es', Bv2, k2_, ck2, s1, s2, s3, s4, (below_trans' s5 s5.size hb43).grown hgr (Nat.le_trans s5.size hb43.size) (fun k e => by injection e with e; omega), blk2, bks2.base (by have := hb43.size; omega)⟩ : SeqM w5 p es vs 2 (ms.take fr ++ xs ++ ms.drop to_))
              have HPX := Lib.hid (fun j (hj : j < fr) => labM_prefix es vs (ms := ms) (xs := xs) (to_ := to_) (by omega) hj)
              clear hre hS hB blk2 bks2
              have uM := Tryz.underlying23
              have c3 := fun w => run_cut_h uM sizeMk Am (n := nm) (c := cm) (k := fr) hfr1 R.o.cap.1 w
              have c13 := fun w => run_cut_l uM sizeMk Am (n := nm) (c := cm) (l := to_) (by omega) w
              have capM := R.o.cap.1
              have ncM := Lib.hid (fun h => R.o.none_cap h : Am = none → cm = 0)
              have fw0 : (0 : Int) ≤ fr := by omega
              go_upto_region 23 with fail
              refine wp_region_held_drew (S := fun w' => w'.cell? ⟨(ad.add (i * 3)).block, (ad.add (i * 3)).off + 2, none⟩ = some (.slice Ax nx cx)) (by kernel_rfl) k25 (fun hHeld => ?_)
              have hbd : Below w5.heap.size w5 w5.drew := bDrew (Below.refl _ _)
              have hxd := hxs.below (below_trans' hb5 hb5.size hbd)
              have hmd := (m5.sl mkC_len).below hbd
              generalize w5.drew = wd at hbd hHeld hxd hmd ⊢
              refine hx_take 1 (some 96) _ rfl (by kernel_rfl) (by kernel_rfl) (by kernel_rfl) (fun _ _ _ h => h) rfl (Or.inl ⟨by rfl, fun w hSw => by first | (go_simp; done) | (go_simp; with_reducible rfl) | (go_simp; rfl)⟩) (by assumption) ?_
              try simp only [Act.put, List.setIfInBounds_toArray, List.set_cons_zero, List.set_cons_succ]
              refine hx_take 2 (some 97) _ rfl (by kernel_rfl) (by kernel_rfl) (by kernel_rfl) (fun _ _ _ h => h) rfl (Or.inl ⟨by rfl, fun w hSw => by first | (go_simp; done) | (go_simp; with_reducible rfl) | (go_simp; rfl)⟩) (by assumption) ?_
              try simp only [Act.put, List.setIfInBounds_toArray, List.set_cons_zero, List.set_cons_succ]
              refine hx_take 5 (some 100) _ rfl (by kernel_rfl) (by kernel_rfl) (by kernel_rfl) (fun _ _ _ h => h) rfl (Or.inl ⟨by rfl, fun w hSw => by first | (go_simp; done) | (go_simp; with_reducible rfl) | (go_simp; rfl)⟩) (by assumption) ?_
              try simp only [Act.put, List.setIfInBounds_toArray, List.set_cons_zero, List.set_cons_succ]
              refine hx_take 6 (some 101) _ rfl (by kernel_rfl) (by kernel_rfl) (by kernel_rfl) (fun _ _ _ h => h) rfl (Or.inl ⟨by rfl, fun w hSw => by first | (go_simp; done) | (go_simp; with_reducible rfl) | (go_simp; rfl)⟩) (by assumption) ?_
              try simp only [Act.put, List.setIfInBounds_toArray, List.set_cons_zero, List.set_cons_succ]
              refine hx_take 11 (some 106) _ rfl (by kernel_rfl) (by kernel_rfl) (by kernel_rfl) (fun _ _ _ h => h) rfl (Or.inl ⟨by rfl, fun w hSw => by first | (go_simp; done) | (go_simp; with_reducible rfl) | (go_simp; rfl)⟩) (by assumption) ?_
              try simp only [Act.put, List.setIfInBounds_toArray, List.set_cons_zero, List.set_cons_succ]
              refine hx_take 12 (some 107) _ rfl (by kernel_rfl) (by kernel_rfl) (by kernel_rfl) (fun _ _ _ h => h) rfl (Or.inl ⟨by rfl, fun w hSw => by first | (go_simp; done) | (go_simp; with_reducible rfl) | (go_simp; rfl)⟩) (by assumption) ?_
              try simp only [Act.put, List.setIfInBounds_toArray, List.set_cons_zero, List.set_cons_succ]
              refine hx_take 3 (some 98) (.slice Am fr cm) rfl (by kernel_rfl) (by kernel_rfl) (by kernel_rfl) (fun _ _ _ h => h) rfl (Or.inl ⟨by rfl, fun w hSw => by first | (go_simp; done) | (go_simp; with_reducible rfl) | (go_simp; rfl)⟩) (by assumption) ?_
              try simp only [Act.put, List.setIfInBounds_toArray, List.set_cons_zero, List.set_cons_succ]
              refine hx_take 7 (some 102) (.pointer (some (ad.add (i * 3)))) rfl (by kernel_rfl) (by kernel_rfl) (by kernel_rfl) (fun _ _ _ h => h) rfl (Or.inl ⟨by rfl, fun w hSw => by first | (go_simp; done) | (go_simp; with_reducible rfl) | (go_simp; rfl)⟩) (by assumption) ?_
              try simp only [Act.put, List.setIfInBounds_toArray, List.set_cons_zero, List.set_cons_succ]
              refine hx_take 13 (some 108) (.slice (cutA Am to_ cm 3) (nm - to_) (cm - to_)) rfl (by kernel_rfl) (by kernel_rfl) (by kernel_rfl) (fun _ _ _ h => h) rfl (Or.inl ⟨by rfl, fun w hSw => by first | (go_simp; done) | (go_simp; with_reducible rfl) | (go_simp; rfl)⟩) (by assumption) ?_
              try simp only [Act.put, List.setIfInBounds_toArray, List.set_cons_zero, List.set_cons_succ]
              refine hx_take 8 (some 103) _ rfl (by kernel_rfl) (by kernel_rfl) (by kernel_rfl) (fun _ _ _ h => h) rfl (Or.inl ⟨by rfl, fun w hSw => by first | (go_simp; done) | (go_simp; with_reducible rfl) | (go_simp; rfl)⟩) (by assumption) ?_
              try simp only [Act.put, List.setIfInBounds_toArray, List.set_cons_zero, List.set_cons_succ]
              refine hx_take 9 (some 104) (.slice Ax nx cx) rfl (by kernel_rfl) (by kernel_rfl) (by kernel_rfl) (fun _ _ _ h => h) rfl (Or.inl ⟨by rfl, fun w hSw => by first | (go_simp; done) | (go_simp; with_reducible rfl) | (go_simp; rfl)⟩) (by assumption) ?_
              try simp only [Act.put, List.setIfInBounds_toArray, List.set_cons_zero, List.set_cons_succ]
              have O0 := Own.made wd 81 3 mkC
              have hbA := (Below.refl wd.heap.size wd).alloc (Nat.le_refl _) (.cells #[] 81)
              have hSA := keep1 hbA hHeld
              refine hx1 0 (by kernel_rfl) ?_
              refine hx_val 0 (some 95) (.slice (some ⟨wd.heap.size, 0, none⟩) 0 0) (wd.alloc (.cells #[] 81)) rfl (by rfl) rfl (by first | (go_simp; done) | (go_simp; with_reducible rfl)) hSA ?_
              try simp only [Act.put, List.setIfInBounds_toArray, List.set_cons_zero, List.set_cons_succ]
              refine hx1 4 (by kernel_rfl) ?_
              refine hx_pushAny 4 (some 99) elemK mkC_len mkC_one (.tmp 95) (.tmp 98) rfl (by rfl) rfl rfl rfl Am fr cm rfl ncM.out O0 (ms.take fr) ((hmd.below hbA).take hfr1) (by unfold maxLen; omega) hbA.size ?_
              intro A6 c6 w6 ho6 hg6
              have hb6 := hbA.grown hg6 hbA.size (fun k e => (O0.lt k e).1)
              have hS6 := keep1 hb6 hHeld
              refine ⟨hS6, ?_⟩
              try simp only [Act.put, List.setIfInBounds_toArray, List.set_cons_zero, List.set_cons_succ]
              refine hx1 10 (by kernel_rfl) ?_
              refine hx_pushAny 10 (some 105) elemK mkC_len mkC_one (.tmp 99) (.tmp 104) rfl (by rfl) rfl rfl rfl Ax nx cx rfl onone ho6 xs (hxd.below hb6) (by unfold maxLen; omega) hb6.size ?_
              intro A7 c7 w7 ho7 hg7
              have hb7 := hb6.grown hg7 hb6.size (fun k e => (ho6.lt k e).1)
              have hS7 := keep1 hb7 hHeld
              refine ⟨hS7, ?_⟩
              try simp only [Act.put, List.setIfInBounds_toArray, List.set_cons_zero, List.set_cons_succ]
              have hcu := (hmd.below hb7).cut (l := to_) (k := nm) (by omega) (Nat.le_refl _) capM
              rw [List.take_of_length_le (by rw [List.length_drop]; omega)] at hcu
              refine hx1 14 (by kernel_rfl) ?_
              refine hx_pushAny 14 (some 109) elemK mkC_len mkC_one (.tmp 105) (.tmp 108) rfl (by rfl) rfl rfl rfl (cutA Am to_ cm 3) (nm - to_) (cm - to_) rfl (fun h => by have := ncM.out (by unfold cutA at h; split at h <;> simpa using h); omega) ho7 (ms.drop to_) hcu (by unfold maxLen; omega) hb7.size ?_
              intro A8 c8 w8 ho8 hg8
              have hb8 := hb7.grown hg8 hb7.size (fun k e => (ho7.lt k e).1)
              have hS8 := keep1 hb8 hHeld
              refine ⟨hS8, ?_⟩
              try simp only [Act.put, List.setIfInBounds_toArray, List.set_cons_zero, List.set_cons_succ]
              refine hx_take 15 (some 6) _ rfl (by kernel_rfl) (by kernel_rfl) (by kernel_rfl) (fun _ _ _ h => h) rfl (Or.inl ⟨by rfl, fun w hSw => by first | (go_simp; done) | (go_simp; with_reducible rfl) | (go_simp; rfl)⟩) (by assumption) ?_
              try simp only [Act.put, List.setIfInBounds_toArray, List.set_cons_zero, List.set_cons_succ]
              refine wpAnyH_done (by kernel_rfl) ?_ _
              have hb58 := below_trans' hbd hbd.size hb8
              have e8 : [] ++ ms.take fr ++ xs ++ ms.drop to_ = ms.take fr ++ xs ++ ms.drop to_ := by simp
              rw [e8, Nat.zero_add] at ho8
              go_wp2_with fail
              go_meet
              case rel => exact ⟨A8, _, c8, _, rfl, ⟨ho8.base (by have := hb43.size; have := hgr.size; have := hbd.size; omega), by omega, hNch.out, SeqM.below SQ5.out hb58, below_trans' hb15 hb15.size hb58, below_trans' hb5 hb5.size hb58⟩, o5.below hb58, HPX.out⟩
            · have brr : (rr != 0) = true := bne_iff_ne.2 hr0
              have hb35 := hB hr0
              have hb35r := below_trans' hb43 hb43.size hb35
              have R5 := Lib.hid (R.below hb35r)
              clear hS hB
              go_wp2_with fail
              go_meet
              case rel => exact ⟨Am, nm, cm, ms, rfl, ⟨R5.out.o, by have := R5.out.len; omega, R5.out.ch, R5.out.sq, R5.out.b1, R5.out.b⟩, o5, fun _ _ => rfl⟩
          case rest =>
          clear hS hB m5 o5 k25
          obtain ⟨A2, n2, c2, ms2, rfl, R2, o6, hlab⟩ := hcut
          have hlen2 := R2.len
          have hlm2 := R2.o.len
          have cA := agrees_seq p AL 2 2 es vs A2 n2 c2 ms2 _ (hg.below R2.b) R2.sq (hT.below R2.b1) (by omega) (allE_of hz R2.ch) (R2.o.sl mkC_len) R2.o.cap.1 (by omega)
          have hlab := Lib.hid hlab
          go_upto_region 26 with (first | (go_at_call 8; refine cA.mono ?_; rintro e w7 ⟨rfl, hb7⟩))
          clear cA
          have R3 := R2.below hb7
          have o7 := o6.below hb7
          clear R2 o6 R
          obtain ⟨A4, c4, es4, Bv4, k4, ck4, hq4, hid4, hn4⟩ := R3.sq.sqr
          have cL2 := labels_any p A4 2 c4 es4 vs Bv4 k4 ck4 ms2 _ (hg.below R3.b) hq4 (by omega) (by rw [hid4]; exact up) (hC.congr hn4) (fun x hx => (mkIn_of ps R3.ch x hx).congr hid4 hn4) (by omega)
          rw [hlm2] at cL2
          have HLB4 := Lib.hid (fun k => labM_congr hid4 hn4 vs ms2 k)
          clear hq4 hid4 hn4
          go_wp2_with (first | (go_at_call 10; refine cL2.mono ?_; rintro e w8 ⟨A8, c8, rfl, o8, hb8⟩))
          have hs7 := (o7.below hb8).sl strC_len
          have hs8 := o8.sl strC_len
          have R4 := Lib.hid (R3.below hb8)
          clear cL2 o7 o8 R3
          go_loopw [14] (fun v14 wx => ∃ k : Nat, v14 = .int .i64 k ∧ k ≤ fr ∧ Below w8.heap.size w8 wx) (fun v14 _ => fr - (intOf v14).toNat)
          case atStart => exact ⟨0, rfl, Nat.zero_le _, Below.refl _ _⟩
          case round =>
            obtain ⟨kx, rfl, hkx, hbx⟩ := hrel
            by_cases hk1 : kx < fr
            · by_cases hk2 : kx < n2
              · have hk3 : kx < nm := by omega
                obtain ⟨a7, e7, d7⟩ := (hs7.below hbx).str hk3 (labsL_at es' vs ms hk3)
                obtain ⟨a8, e8, d8⟩ := (hs8.below hbx).str hk2 (labsL_at es4 vs ms2 hk2)
                subst e7 e8
                rw [HLB.out] at d7
                rw [HLB4.out, hlab.out kx hk1] at d8
                generalize labM es vs ms kx = R at *
                go_wp2_with (first | go_quiet (fail))
                go_roundw
                case measure => rw [intOf, intOf]; omega
                case rel => exact ⟨kx + 1, by simp, hk1, ⟨hbx.os, hbx.tape, hbx.output, hbx.size, hbx.block⟩⟩
              · go_wp2_with fail
                go_roundw
                case measure => rw [intOf, intOf]; omega
                case rel => exact ⟨i + 1, A2, n2, c2, ms2, by simp, hlt, rfl, R4.out.below hbx⟩
            · go_wp2_with fail
              go_roundw
              case measure => rw [intOf, intOf]; omega
              case rel => exact ⟨i + 1, A2, n2, c2, ms2, by simp, hlt, rfl, R4.out.below hbx⟩
      · go_wp2_with fail
        go_ret
        exact ⟨rfl, R.b⟩
end Go.Proofs.YtbpodnhebjjkaaaGreatDoor
