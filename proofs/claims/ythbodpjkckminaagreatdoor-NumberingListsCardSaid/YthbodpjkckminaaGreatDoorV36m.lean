/- numbering.run of a flat document, walked. -/
import Derived.Test.YthbodpjkckminaaGreatDoorm19
namespace Go.Proofs.YthbodpjkckminaaGreatDoor
open Go.RowKit Go.Maps

def RunPost (w : World) (st : Rs) (e : Ending) (w' : World) : Prop := ∃ (b : Nat) (AP : Option Addr) (cp : Nat) (AE : Option Addr) (ce : Nat), e = .returned (.agg #[.map (some b), .slice AP st.ps.length cp, .slice AE st.es.length ce]) ∧ Own w' w.heap.size 128 5 plC AP st.ps.length cp st.ps ∧ Own w' w.heap.size 73 6 enC AE st.es.length ce st.es ∧ Below w.heap.size w w'
theorem boxes_rn (w : World) (D : Array Value) : Blk (((w.alloc (.cells D 63)).alloc (.cells #[.map none, .slice none 0 0, .slice none 0 0] 118)).alloc (.map #[] 0)) w.heap.size 63 D
    ∧ Blk (((w.alloc (.cells D 63)).alloc (.cells #[.map none, .slice none 0 0, .slice none 0 0] 118)).alloc (.map #[] 0)) (w.heap.size + 1) 118 #[.map none, .slice none 0 0, .slice none 0 0]
    ∧ Ms (((w.alloc (.cells D 63)).alloc (.cells #[.map none, .slice none 0 0, .slice none 0 0] 118)).alloc (.map #[] 0)) (w.heap.size + 1 + 1) 0 (fun _ => cnZ)
    ∧ Below w.heap.size w (((w.alloc (.cells D 63)).alloc (.cells #[.map none, .slice none 0 0, .slice none 0 0] 118)).alloc (.map #[] 0)) := by
  have B2 := ((Blk.new w 63 D).alloc (.cells #[.map none, .slice none 0 0, .slice none 0 0] 118)).alloc (.map #[] 0)
  have B3 := (Blk.new (w.alloc (.cells D 63)) 118 #[.map none, .slice none 0 0, .slice none 0 0]).alloc (.map #[] 0)
  have B4 := Ms.made ((w.alloc (.cells D 63)).alloc (.cells #[.map none, .slice none 0 0, .slice none 0 0] 118))
  simp only [World.size_alloc] at B3 B4
  exact ⟨B2, B3, B4, (((alloc1 w _).alloc (by simp) _).alloc (by simp; omega) _)⟩
set_option maxRecDepth 100000 in
set_option maxHeartbeats 16000000 in
theorem run_any (A : Option Addr) (m c : Nat) (LA : Option Addr) (ln lc : Nat) (xs : List It) (ys : List Fi) (es : List LsE) (vs : List (List Lv)) (w : World) (hg : Gl w) (hD : DocR w A m xs ys LA ln es vs) :
    Calls Tryz.prog 46 #[.agg (docL A m c LA ln lc).toArray] w (RunPost w (runL es vs ys (pmL ys m))) := by
  have hm : m ≤ 1000000 := by have := hD.dy.fw.nf.ok.len; have := hD.fl.ly; omega
  have HX := Lib.hid (boxes_rn w (docL A m c LA ln lc).toArray)
  have cA := Lib.hid (fun W (hb : Below w.heap.size w W) => pall_any A m c LA ln lc xs ys W (hD.fl.below hb) hD.dy)
  have HP := Lib.hid (show ∀ e w', (∃ (b : Nat) (AP : Option Addr) (cp : Nat) (AE : Option Addr) (ce : Nat), e = .returned (.agg #[.map (some b), .slice AP (runL es vs ys (pmL ys m)).ps.length cp, .slice AE (runL es vs ys (pmL ys m)).es.length ce]) ∧ Own w' w.heap.size 128 5 plC AP (runL es vs ys (pmL ys m)).ps.length cp (runL es vs ys (pmL ys m)).ps ∧ Own w' w.heap.size 73 6 enC AE (runL es vs ys (pmL ys m)).es.length ce (runL es vs ys (pmL ys m)).es ∧ Below w.heap.size w w') → RunPost w (runL es vs ys (pmL ys m)) e w' from fun _ _ h => h)
  unfold PaPost at cA
  rw [← pmL_len] at cA
  have hpl := bkL_len ys m
  rw [← pmL_len] at hpl
  have HAT := Lib.hid (fun j (hj : j < (pmL ys m).length) => pmL_at hj)
  have HRS := Lib.hid (fun j (hj : j < (pmL ys m).length) => runL_succ es vs ys (pmL ys m) hj)
  have HR0 := Lib.hid (show runL es vs ys ((pmL ys m).take 0) = rsZ from rfl)
  have HRN := Lib.hid (show (pmL ys m).take (pmL ys m).length = pmL ys m from List.take_length)
  rw [show (docL A m c LA ln lc).toArray = #[.slice A m c, .slice none 0 0, .int .i64 0, .int .i64 0, .slice none 0 0, .slice none 0 0, .slice none 0 0, .slice none 0 0, .slice LA ln lc, .slice none 0 0, .slice none 0 0] from rfl] at *
  generalize pmL ys m = ks at *
  obtain ⟨n, hn⟩ : ∃ n, ks.length = n := ⟨_, rfl⟩
  rw [hn] at hpl cA
  have HN := Lib.hid hn
  clear hn
  have hmm := @run_makeMap Tryz.prog
  go_enter Tryz.func46, Tryz.ntmps46
  go_upto_region 1 with fail
  go_cut [3] (fun v3 wx => ∃ p2 p3 b, w.heap.size + 1 = p2 ∧ v3 = .pointer (some ⟨p3, 0, none⟩) ∧ RnW w w.heap.size w.heap.size p2 p3 b 0 A m c LA ln lc (fun _ => cnZ) none 0 0 [] none 0 0 [] wx)
  case first =>
    obtain ⟨X1, X2, X3, X4⟩ := HX.out
    have B3 := Blk.new (((w.alloc (.cells #[.slice A m c, .slice none 0 0, .int .i64 0, .int .i64 0, .slice none 0 0, .slice none 0 0, .slice none 0 0, .slice none 0 0, .slice LA ln lc, .slice none 0 0, .slice none 0 0] 63)).alloc (.cells #[.map none, .slice none 0 0, .slice none 0 0] 118)).alloc (.map #[] 0)) 118 #[.map (some (w.heap.size + 1 + 1)), .slice none 0 0, .slice none 0 0]
    have hal := alloc1 (((w.alloc (.cells #[.slice A m c, .slice none 0 0, .int .i64 0, .int .i64 0, .slice none 0 0, .slice none 0 0, .slice none 0 0, .slice none 0 0, .slice LA ln lc, .slice none 0 0, .slice none 0 0] 63)).alloc (.cells #[.map none, .slice none 0 0, .slice none 0 0] 118)).alloc (.map #[] 0)) (.cells #[.map (some (w.heap.size + 1 + 1)), .slice none 0 0, .slice none 0 0] 118)
    have HY := Lib.hid (show RnW w w.heap.size w.heap.size (w.heap.size + 1) (w.heap.size + 1 + 1 + 1) (w.heap.size + 1 + 1) 0 A m c LA ln lc (fun _ => cnZ) none 0 0 [] none 0 0 [] _ from ⟨X1.below hal, X2.below hal, by simpa using B3, X3.below hal, Own.nil_ _ _ _ _ _, Own.nil_ _ _ _ _ _, by omega, by omega, by omega, by omega, by omega, below_trans' X4 X4.size hal, Nat.le_refl _, Nat.le_trans X4.size hal.size⟩)
    clear X1 X2 X3 X4 B3 hal
    go_wp2_with fail
    go_meet
    case rel => exact ⟨_, _, _, rfl, rfl, HY.out⟩
  case rest =>
  obtain ⟨p2, p3, b, hp2, rfl, X0⟩ := hcut
  rw [hp2]
  obtain ⟨p1, hp1⟩ : ∃ p1, p1 = w.heap.size := ⟨_, rfl⟩
  rw [← hp1] at X0 ⊢
  clear hp1 hp2 HX
  generalize wc = w1 at *
  have hszD : (Tryz.prog.info? 63).map (·.size) = some ([Value.slice A m c, .slice none 0 0, .int .i64 0, .int .i64 0, .slice none 0 0, .slice none 0 0, .slice none 0 0, .slice none 0 0, .slice LA ln lc, .slice none 0 0, .slice none 0 0] : List Value).length := by kernel_rfl
  have rd := Blk.rng X0.b1
  have cA := cA.out w1 X0.bel
  go_upto_region 2 with fail
  go_cut [24, 25, 26] (fun v24 v25 v26 wx => ∃ (AQ : Option Addr) (cq : Nat), v24 = .slice AQ n cq ∧ v25 = .int .i64 (n : Nat) ∧ v26 = .int .i64 0 ∧ Slb wx 5 plC AQ n (bkL ys m) ∧ (0 < n → ∀ ad, AQ = some ad → w1.heap.size ≤ ad.block ∧ ad.block < wx.heap.size) ∧ Below w1.heap.size w1 wx)
  case first =>
    go_wp2_with (first | (go_at_call 85; refine cA.mono ?_; rintro e w2 ⟨AQ, cq, rfl, oq, hb2⟩; have HE := Lib.hid (And.intro (oq.slb plC_len) (And.intro (show 0 < n → ∀ ad, AQ = some ad → w1.heap.size ≤ ad.block ∧ ad.block < w2.heap.size from fun _ ad e => oq.lt _ (by rw [e]; rfl)) hb2)); clear oq hb2) | (refine wpList_load_mid rfl 63 _ rfl p1 0 rfl _ _ rd Tryz.underlying63 rfl hszD ?_))
    go_meet
    case rel => exact ⟨_, _, rfl, rfl, rfl, HE.out.1, HE.out.2.1, HE.out.2.2⟩
  case rest =>
  obtain ⟨AQ, cq, rfl, rfl, rfl, SQ, hqb, hbq⟩ := hcut
  have hp3l := X0.b3.lt
  have hbl := X0.ms.lt
  have X1 := X0.below hbq
  have hz13 := hbq.size
  have X1 : RnW w wc.heap.size p1 p2 p3 b 0 A m c LA ln lc (fun _ => cnZ) none 0 0 [] none 0 0 [] wc := ⟨X1.b1, X1.b2, X1.b3, X1.ms, Own.nil_ _ _ _ _ _, Own.nil_ _ _ _ _ _, X1.l1, X1.l2, X1.l3, X1.lb, X1.n23, X1.bel, X1.bel.size, Nat.le_refl _⟩
  have HQ := Lib.hid (fun h0 ad e => And.intro (hqb h0 ad e) (And.intro (show ad.block ≠ p3 by have := (hqb h0 ad e).1; omega) (show ad.block ≠ b by have := (hqb h0 ad e).1; omega)))
  clear hqb
  generalize wc = w3 at *
  clear cA rd X0 hbq
  go_wp2_with fail
  go_loopw [26] (fun vi wr => ∃ (j : Nat) (AP : Option Addr) (cp : Nat) (AE : Option Addr) (ce : Nat), vi = .int .i64 j ∧ j ≤ n ∧ RnW w w3.heap.size p1 p2 p3 b j A m c LA ln lc (runL es vs ys (ks.take j)).f AP (runL es vs ys (ks.take j)).ps.length cp (runL es vs ys (ks.take j)).ps AE (runL es vs ys (ks.take j)).es.length ce (runL es vs ys (ks.take j)).es wr ∧ (∀ id, CnOk (32767 + (j : Int)) ((runL es vs ys (ks.take j)).f id)) ∧ (runL es vs ys (ks.take j)).ps.length ≤ j ∧ (runL es vs ys (ks.take j)).es.length ≤ j ∧ Slb wr 5 plC AQ n (bkL ys m)) (fun vi _ => n - (intOf vi).toNat)
  case atStart => exact ⟨0, none, 0, none, 0, rfl, Nat.zero_le _, by rw [HR0.out]; exact X1, fun id => by rw [HR0.out]; exact cnZ_ok (by omega), by rw [HR0.out]; exact Nat.le_refl _, by rw [HR0.out]; exact Nat.le_refl _, SQ⟩
  case round =>
    obtain ⟨j, AP, cp, AE, ce, rfl, hj, X, hcn, hlp, hle, SR⟩ := hrel
    clear X1 SQ
    by_cases hlt : j < n
    · obtain ⟨hk, hk2, hgb⟩ := HAT.out j (by rw [HN.out]; exact hlt)
      have hrs := HRS.out j (by rw [HN.out]; exact hlt)
      obtain ⟨st, hst⟩ : ∃ st, runL es vs ys (ks.take j) = st := ⟨_, rfl⟩
      rw [hst] at X hcn hlp hle hrs
      generalize ks.getD j 0 = k at *
      have HRS1 := Lib.hid hrs
      clear hrs hst
      obtain ⟨g, o, e, hgl, hr⟩ := SR.at_ bkZ hlt
      rw [show (bkL ys m).getD j bkZ = gBk (bkL ys m) j from rfl, hgb, show plC (bkK ys k) = [.int .i64 0, .int .i64 1, .int .i64 (frK ys k : Nat), .int .i64 ((k : Int) + 1), .bool true] from rfl] at hr
      subst e
      have cF := Lib.hid (fun W (hb : Below w.heap.size w W) => flow_any A m c LA ln lc xs ys W (hD.below hb).fl hD.dy.fw.nf.ok (fun j hj => by obtain ⟨s, e, _⟩ := hD.fl.f j hj; rw [e]; exact hD.dy.kd j (by have := hD.fl.ly; omega)) hm)
      have cO := Lib.hid (fun W A' c' zs (h : Fl W A' m zs ys) => pown_any A' m c' zs ys k W h hD.dy hk hk2)
      have cP := Lib.hid (fun W (hb : Below w.heap.size w W) => ppara_any A m c LA ln lc xs ys k W (hD.below hb).fl hD.dy hk hk2 (hD.pr k hk hk2))
      have hsr := pckE_sorted (hD.pr k hk hk2).ck
      have hpn := (hD.pr k hk hk2).ln
      have cOf := Lib.hid (fun W (hb : Below w.heap.size w W) AE1 ce1 AO co (he : Sl W 2 prC AE1 (gFi ys k).ps.length (gFi ys k).ps) (ho : Sl W 2 prC AO (gFi ys k).ps.length (gFi ys k).ps) => of_any0 svZ svZ svZ LA ln lc es AE1 AO (gFi ys k).ps.length ce1 (gFi ys k).ps.length co (gFi ys k).ps (gFi ys k).ps W (hD.below hb).ls.l hD.ll he ho hpn hpn hsr hsr)
      rw [show (stL svZ LA ln lc svZ svZ).toArray = #[.slice none 0 0, .slice LA ln lc, .slice none 0 0, .slice none 0 0] from rfl] at cOf
      have HNM := Lib.hid (fun h => hD.num hk hk2 h)
      rw [show (bkC4 (bkK ys k)).toArray = #[.int .i64 1, .int .i64 (frK ys k : Nat), .int .i64 ((k : Int) + 1), .bool true] from rfl] at cO
      rw [show (docL A m c LA ln lc).toArray = #[.slice A m c, .slice none 0 0, .int .i64 0, .int .i64 0, .slice none 0 0, .slice none 0 0, .slice none 0 0, .slice none 0 0, .slice LA ln lc, .slice none 0 0, .slice none 0 0] from rfl] at cF cP
      rw [show of1 es (gFi ys k).ps = pid es ys k from rfl, show of2 es (gFi ys k).ps = plv es ys k from rfl, show of3 es (gFi ys k).ps (gFi ys k).ps = prs es ys k from rfl] at cOf
      have HEN := Lib.hid (fun f => show enK es vs ys f k = ⟨(frK ys k : Nat), pid es ys k, plv es ys k, (nxt es vs ys f k (plv es ys k - 1).toNat).1, fillB (lvs es vs (pid es ys k)) (plv es ys k - 1).toNat (numsF (lvs es vs (pid es ys k)) (nxt es vs ys f k) ((plv es ys k - 1).toNat + 1))⟩ from rfl)
      have HNX := Lib.hid (fun f => show nxt es vs ys f k = nextC (lvs es vs (pid es ys k)) (lsF es (pid es ys k)).n (f (pid es ys k)) (plv es ys k - 1).toNat (prs es ys k) from rfl)
      have HBK := Lib.hid (show bkK ys k = ⟨1, (frK ys k : Nat), (k : Int) + 1, true⟩ from rfl)
      clear hsr hpn hgb hk2
      generalize hlo : frK ys k = lo at *
      clear hlo
      generalize (gFi ys k).ps = pr at *
      have hszP : (Tryz.prog.info? 128).map (·.size) = some ([Value.int .i64 0, .int .i64 1, .int .i64 (lo : Nat), .int .i64 ((k : Int) + 1), .bool true] : List Value).length := by kernel_rfl
      go_upto_region 4 with fail
      go_cut [5] (fun v5 wx => ∃ p5, v5 = .pointer (some ⟨p5, 0, none⟩) ∧ Blk wx p5 128 #[.int .i64 0, .int .i64 1, .int .i64 (lo : Nat), .int .i64 ((k : Int) + 1), .bool true] ∧ Below wr.heap.size wr wx)
      case first =>
        go_wp2_with (refine wpList_load_mid rfl 128 _ rfl g (o + j * 5) rfl _ _ hr Tryz.underlying128 rfl hszP ?_)
        go_meet
        case rel => exact ⟨_, rfl, Blk.new _ _ _, (Below.refl _ _).alloc (Nat.le_refl _) _⟩
      case rest =>
      obtain ⟨p5, rfl, B5, hb5⟩ := hcut
      have X := X.below hb5
      have SR := SR.below hb5
      clear hr hb5
      generalize wc = w5 at *
      have k0 := B5.cell 0 rfl
      have k2 := B5.cell 2 rfl
      go_upto_region 5 with fail
      go_cut [6] (fun v6 wx => ∃ p6, v6 = .pointer (some ⟨p6, 0, none⟩) ∧ Blk wx p6 71 #[.int .i64 0, .int .i64 (lo : Nat)] ∧ Below w5.heap.size w5 wx)
      case first =>
        go_wp2_with fail
        go_meet
        case rel => exact ⟨_, rfl, Blk.new _ _ _, (Below.refl _ _).alloc (Nat.le_refl _) _⟩
      case rest =>
      obtain ⟨p6, rfl, B6, hb6⟩ := hcut
      have X := X.below hb6
      have SR := SR.below hb6
      have B5 := B5.below hb6
      clear k0 k2 hb6
      generalize wc = w6 at *
      have k0 := B5.cell 0 rfl
      have rd := Blk.rng X.b1
      have cF := cF.out w6 X.bel
      go_upto_region 7 with (first | (go_at_call 86; refine cF.mono ?_; rintro e w7 ⟨A7, c7, z7, rfl, M7, hb7⟩) | (refine wpList_load_mid rfl 63 _ rfl p1 0 rfl _ _ rd Tryz.underlying63 rfl hszD ?_))
      have F7 := M7.fl rfl
      have hly : ys.length = m := hD.fl.ly
      rw [hly] at F7
      have B5 := B5.below hb7
      have B6 := B6.below hb7
      have X := X.below hb7
      have SR := SR.below hb7
      have cO := cO.out w7 A7 c7 z7 F7
      rw [hly]
      clear cF M7 F7 rd k0 hb7
      have HLY := Lib.hid hly
      clear hly
      have k1 := B5.cell 1 rfl
      have k2 := B5.cell 2 rfl
      have k3 := B5.cell 3 rfl
      have k4 := B5.cell 4 rfl
      unfold PrPost at cO
      go_upto_region 8 with (go_at_call 87; refine cO.mono ?_; rintro e w8 ⟨A8, c8, rfl, o8, hb8⟩)
      have hsz7 := X.bel.size
      have O8 := o8.base hsz7
      have B5 := B5.below hb8
      have B6 := B6.below hb8
      have X := X.below hb8
      have SR := SR.below hb8
      have cP := cP.out w8 X.bel
      unfold SpPost at cP
      clear cO k1 k2 k3 k4 hb8 o8 hsz7
      have j0 := B6.cell 0 rfl
      have j1 := B6.cell 1 rfl
      have rd := Blk.rng X.b1
      go_upto_region 9 with (first | (go_at_call 49; refine cP.mono ?_; rintro e w9 ⟨A9, c9, rfl, o9, hb9⟩) | (refine wpList_load_mid rfl 63 _ rfl p1 0 rfl _ _ rd Tryz.underlying63 rfl hszD ?_))
      have O8 := O8.below hb9
      have B5 := B5.below hb9
      have B6 := B6.below hb9
      have X := X.below hb9
      have SR := SR.below hb9
      have cOf := cOf.out w9 X.bel A9 c9 A8 c8 (o9.sl prC_len) (O8.sl prC_len)
      unfold OfPost at cOf
      clear cP j0 j1 rd hb9 o9 O8
      have q7 := X.b1.cell 7 rfl
      have q8 := X.b1.cell 8 rfl
      have q9 := X.b1.cell 9 rfl
      have q10 := X.b1.cell 10 rfl
      generalize hpid : pid es ys k = id at *
      generalize hplv : plv es ys k = lv at *
      generalize hprs : prs es ys k = rs at *
      have HPI := Lib.hid (And.intro hpid (And.intro hplv hprs))
      clear hpid hplv hprs
      go_upto_region 10 with (go_at_call 16; refine cOf.mono ?_; rintro e w10 ⟨rfl, hb10⟩)
      have B5 := B5.below hb10
      have B6 := B6.below hb10
      have X := X.below hb10
      have SR := SR.below hb10
      clear cOf q7 q8 q9 q10 hb10
      by_cases hid : id = 0
      · have HS := Lib.hid (HRS1.out.trans (stepR_no (HPI.out.1.trans hid)))
        have HFIN := Lib.hid (show RnW w w3.heap.size p1 p2 p3 b (j + 1) A m c LA ln lc st.f AP st.ps.length cp st.ps AE st.es.length ce st.es w10 ∧ (∀ id, CnOk (32767 + ((j + 1 : Nat) : Int)) (st.f id)) from ⟨{ X with ms := X.ms.mono (Nat.le_succ _) }, fun id i => ⟨(hcn id i).1, by have := (hcn id i).2; omega⟩⟩)
        subst hid
        clear X hcn B5 B6 HPI HNM HEN HNX HBK
        go_wp2_with fail
        go_roundw
        case rel => exact ⟨j + 1, AP, cp, AE, ce, by simp, by omega, by rw [HS.out]; exact HFIN.out.1, fun id => by rw [HS.out]; exact HFIN.out.2 id, by rw [HS.out]; omega, by rw [HS.out]; omega, SR⟩
        case measure => rw [intOf, intOf]; omega
      · have hpid : pid es ys k ≠ 0 := fun e => hid (HPI.out.1.symm.trans e)
        obtain ⟨L, ls, le, hN⟩ := HNM.out hid
        have HS := Lib.hid (HRS1.out.trans (stepR_yes hpid))
        have hlv : lv = (L : Int) + 1 := HPI.out.2.1.symm.trans hN.lv
        have hbeq : (id == 0) = false := beq_eq_false_iff_ne.2 hid
        have hnx := HNX.out st.f
        have hen := HEN.out st.f
        rw [hlv, show ((L : Int) + 1 - 1).toNat = L by omega] at hnx
        rw [hlv, show ((L : Int) + 1 - 1).toNat = L by omega] at hen
        rw [HPI.out.1] at HS
        have hel := hN.el
        have hvl := hN.vl
        rw [HPI.out.1] at hel hvl
        rw [hvl, hel] at hnx
        rw [hvl] at hen
        have hoz := hN.id
        have hin := hN.isin
        rw [HPI.out.1] at hoz hin
        have hr0 := hN.r0
        have hr1 := hN.r1
        rw [HPI.out.2.2] at hr0 hr1
        have hsl := hN.s
        have hcap := hN.c
        have hLn := hN.L
        have hn9 := hN.n9
        have hcl := hN.cl
        have hln := hN.ln
        subst hlv
        clear HNM HNX HEN HPI hN hpid hid HRS1
        obtain ⟨Z1, hZ1⟩ : ∃ Z, st.f id = Z := ⟨_, rfl⟩
        obtain ⟨Z2, hZ2⟩ : ∃ Z, nxt es vs ys st.f k = Z := ⟨_, rfl⟩
        rw [hZ1, hZ2] at hnx
        rw [hZ2] at hen HS
        have hcZ := hcn id
        rw [hZ1] at hcZ
        have hlk := X.ms.lookup hoz
        rw [hZ1] at hlk
        have hZok : CnOk (32767 + (j : Int) + 1) Z2 := by rw [hnx]; exact next_ok (lvok_of hln hcl) hLn hr0 hr1 (by omega) hcZ
        have cLs := nlist_any svZ svZ svZ LA ln lc es id w10 (hD.below X.bel).ls.l hD.ll
        unfold LfPost at cLs
        rw [hel, decide_eq_true hin, show (stL svZ LA ln lc svZ svZ).toArray = #[.slice none 0 0, .slice LA ln lc, .slice none 0 0, .slice none 0 0] from rfl, show (lsC le).toArray = #[.int .i64 le.id, .slice le.A le.n le.c] from rfl] at cLs
        have cSt := Lib.hid (fun W (hb : Below w.heap.size w W) => nstep_any le.A le.n le.c ls Z1 (32767 + (j : Int)) L rs W (hsl.below hb) hn9 hLn (hcZ L) (by omega))
        rw [← hnx] at cSt
        have cNu := Lib.hid (fun W (hb : Below w.heap.size w W) => numbers_any le.A le.n le.c ls Z2 (L + 1) W (hsl.below hb) hn9 (by omega) hcap)
        rw [show ((L + 1 : Nat) : Int) = (L : Int) + 1 by omega] at cNu
        have hck : ckE ls le.n ((L : Int) + 1) = 0 := by unfold ckE; rw [hcl]; simp; omega
        have cFi := Lib.hid (fun W (hb : Below w.heap.size w W) AN cN (h : Sl W 1 intC AN (L + 1) (numsF ls Z2 (L + 1))) => fill_any le.A le.n le.c ls L AN (L + 1) cN (numsF ls Z2 (L + 1)) W (hg.below hb) (hsl.below hb) h hck (Nat.le_refl _))
        generalize fillB ls L (numsF ls Z2 (L + 1)) = lab at *
        have HEN := Lib.hid hen
        have HZ1 := Lib.hid hZ1
        clear hen hnx hel hvl hin hr0 hr1 hsl hcap hcl hln hck hcZ hZ1 hZ2
        generalize le.id = lid at *
        generalize le.A = lA at *
        generalize le.c = lcc at *
        generalize le.n = lnn at *
        clear le
        have q7 := X.b1.cell 7 rfl
        have q8 := X.b1.cell 8 rfl
        have q9 := X.b1.cell 9 rfl
        have q10 := X.b1.cell 10 rfl
        have hlkH := Lib.hid hlk
        clear hlk
        go_upto_region 11 with fail
        go_cut [16] (fun v16 wx => ∃ p16, v16 = .pointer (some ⟨p16, 0, none⟩) ∧ Blk wx p16 96 #[.int .i64 lid, .slice lA lnn lcc] ∧ Below w10.heap.size w10 wx)
        case first =>
          go_wp2_with (go_at_call 39; refine cLs.mono ?_; rintro e w4 ⟨rfl, hb4⟩)
          have HX := Lib.hid (And.intro (Blk.new w4 96 #[.int .i64 lid, .slice lA lnn lcc]) (below_trans' hb4 hb4.size (alloc1 w4 (.cells #[.int .i64 lid, .slice lA lnn lcc] 96))))
          clear hb4
          go_wp2_with fail
          go_meet
          case rel => exact ⟨_, rfl, HX.out.1, HX.out.2⟩
        case rest =>
        obtain ⟨p16, rfl, B16, hb16⟩ := hcut
        have B5 := B5.below hb16
        have B6 := B6.below hb16
        have X := X.below hb16
        have SR := SR.below hb16
        clear q7 q8 q9 q10 cLs hb16 hlkH
        generalize wc = w11 at *
        have hlk := X.ms.lookup hoz
        rw [HZ1.out] at hlk
        have cSt := cSt.out w11 X.bel
        have m0 := X.b3.cell 0 rfl
        have l1 := B16.cell 1 rfl
        go_upto_region 12 with fail
        go_cut [18] (fun v18 wx => ∃ p18, v18 = .pointer (some ⟨p18, 0, none⟩) ∧ Blk wx p18 26 (cnA Z2) ∧ Below w11.heap.size w11 wx)
        case first =>
          go_wp2_with (first | (go_at_call 28; refine cSt.mono ?_; rintro e w4 ⟨rfl, hb4⟩; have NZ := Blk.new w4 26 (cnA cnZ); obtain ⟨BX, hBX⟩ := boxed_g w4 26 (cnA cnZ) (cnA Z2); have HX := Lib.hid (And.intro BX (below_trans' hb4 hb4.size hBX)); clear BX hBX hb4) | (refine wpList_store_row rfl 26 _ _ rfl w4.heap.size (cnA Z2) rfl rfl 26 (cnA cnZ) NZ (by kernel_rfl) rfl (cnA_one Z2) ?_))
          go_meet
          case rel => exact ⟨_, rfl, HX.out.1, HX.out.2⟩
        case rest =>
        obtain ⟨p18, rfl, B18, hb18⟩ := hcut
        have B5 := B5.below hb18
        have B6 := B6.below hb18
        have B16 := B16.below hb18
        have X := X.below hb18
        have SR := SR.below hb18
        clear hlk m0 l1 cSt hb18
        generalize wc = w12 at *
        have m0 := X.b3.cell 0 rfl
        obtain ⟨D, hm1, hm2⟩ := (_root_.id X.ms)
        have HM2 := Lib.hid hm2
        clear hm2
        have C18 := B18
        unfold Blk at C18
        go_upto_region 14 with (first | (refine wpList_load_row rfl 26 _ rfl p18 rfl 26 _ (0, 0) _ C18 Tryz.underlying26 rfl (by kernel_rfl) ?_) | (refine wpList_mapUpdate_own _ rfl _ _ _ 115 rfl 3 26 (Maps.int_keyed Tryz.underlying3) Tryz.underlying115 RN b j D rfl hm1 (by unfold maxLen; omega) (.int .i64 id) (.agg (cnA Z2)) _ rfl rfl (key3 (wf_intZ hoz)) _ [] (RN_of Z2) ?_; intro w13 hm3 hg13))
        have M13 := Ms.put D id hm1 HM2.out Z2 hm3
        have B5 := B5.keep hg13 (X.ms.ne_cells B5)
        have B6 := B6.keep hg13 (X.ms.ne_cells B6)
        have B16 := B16.keep hg13 (X.ms.ne_cells B16)
        have B18 := B18.keep hg13 (X.ms.ne_cells B18)
        have SR := SR.keepAny hg13 (fun h0 ad e h => (HQ.out h0 ad e).2.2 (by injection h))
        have X := X.mapped M13 hg13
        clear m0 hm1 HM2 hm3 M13 C18 hg13
        have l1 := B16.cell 1 rfl
        have r18 : w13.rangeAt p18 0 (cnL Z2) := Blk.rng B18
        have hsz18 : (Tryz.prog.info? 26).map (·.size) = some (cnL Z2).length := by kernel_rfl
        try simp only [Act.put, List.setIfInBounds_toArray, List.set_cons_zero, List.set_cons_succ]
        go_cut [19] (fun v19 wx => v19 = .string lab ∧ Below w13.heap.size w13 wx)
        case first =>
          refine wp_region_held_drew (S := fun w' => w'.cell? ⟨p16, 1, none⟩ = some (.slice lA lnn lcc) ∧ w'.rangeAt p18 0 (cnL Z2)) (by kernel_rfl) ⟨l1, r18⟩ (fun hHeld => ?_)
          refine hx_take 0 (some 88) _ rfl (by kernel_rfl) (by kernel_rfl) (by kernel_rfl) (fun _ _ _ h => h) rfl (Or.inl ⟨by rfl, fun w hSw => by first | (go_simp; done) | (go_simp; with_reducible rfl) | (go_simp; rfl)⟩) (by assumption) ?_
          try simp only [Act.put, List.setIfInBounds_toArray, List.set_cons_zero, List.set_cons_succ]
          refine hx_take 2 (some 90) _ rfl (by kernel_rfl) (by kernel_rfl) (by kernel_rfl) (fun _ _ _ h => h) rfl (Or.inl ⟨by rfl, fun w hSw => by first | (go_simp; done) | (go_simp; with_reducible rfl) | (go_simp; rfl)⟩) (by assumption) ?_
          try simp only [Act.put, List.setIfInBounds_toArray, List.set_cons_zero, List.set_cons_succ]
          refine hx_take 3 (some 91) _ rfl (by kernel_rfl) (by kernel_rfl) (by kernel_rfl) (fun _ _ _ h => h) rfl (Or.inl ⟨by rfl, fun w hSw => by first | (go_simp; done) | (go_simp; with_reducible rfl) | (go_simp; rfl)⟩) (by assumption) ?_
          try simp only [Act.put, List.setIfInBounds_toArray, List.set_cons_zero, List.set_cons_succ]
          refine hx_take 6 (some 94) _ rfl (by kernel_rfl) (by kernel_rfl) (by kernel_rfl) (fun _ _ _ h => h) rfl (Or.inl ⟨by rfl, fun w hSw => by first | (go_simp; done) | (go_simp; with_reducible rfl) | (go_simp; rfl)⟩) (by assumption) ?_
          try simp only [Act.put, List.setIfInBounds_toArray, List.set_cons_zero, List.set_cons_succ]
          refine hx_take 1 (some 89) _ rfl (by kernel_rfl) (by kernel_rfl) (by kernel_rfl) (fun _ _ _ h => h) rfl (Or.inl ⟨by rfl, fun w hSw => by first | (go_simp; done) | (go_simp; with_reducible rfl) | (go_simp; rfl)⟩) (by assumption) ?_
          try simp only [Act.put, List.setIfInBounds_toArray, List.set_cons_zero, List.set_cons_succ]
          refine hx_take 4 (some 92) _ rfl (by kernel_rfl) (by kernel_rfl) (by kernel_rfl) (fun _ _ _ h => h) rfl (Or.inl ⟨by rfl, fun w hSw => by first | (go_simp; done) | (go_simp; with_reducible rfl) | (go_simp; rfl)⟩) (by assumption) ?_
          try simp only [Act.put, List.setIfInBounds_toArray, List.set_cons_zero, List.set_cons_succ]
          refine hx_take 5 (some 93) (.agg (cnL Z2).toArray) rfl (by kernel_rfl) (by kernel_rfl) (by kernel_rfl) (fun _ _ _ h => h) rfl (yieldsIf_load_mid (by rfl) _ _ rfl p18 0 rfl (cnL Z2) _ (fun w hSw => hSw.2) Tryz.underlying26 rfl hsz18) (by assumption) ?_
          try simp only [Act.put, List.setIfInBounds_toArray, List.set_cons_zero, List.set_cons_succ]
          refine hx1 7 (by kernel_rfl) ?_
          refine hx_callE 7 (some 95) _ _ (fun v w' => ∃ BN cN, v = .slice BN (L + 1) cN ∧ Own w' w13.drew.heap.size 3 1 intC BN (L + 1) cN (numsF ls Z2 (L + 1)) ∧ Below w13.drew.heap.size w13.drew w') rfl (by rfl) rfl (by first | (go_simp; done) | (go_simp; rfl)) ((cNu.out w13.drew (bDrew X.bel)).mono (fun e w' h => by obtain ⟨BN, cN, he, ho, hb⟩ := h; exact ⟨_, he, BN, cN, rfl, ho, hb⟩)) ?_
          rintro v w14 ⟨BN, cN, rfl, oN, hb14⟩
          refine ⟨⟨keepC hb14 l1, fun j u hu => keepC hb14 (r18 j u hu)⟩, ?_⟩
          try simp only [Act.put, List.setIfInBounds_toArray, List.set_cons_zero, List.set_cons_succ]
          refine hx1 8 (by kernel_rfl) ?_
          refine hx_call 8 (some 96) _ _ (.tuple #[.string lab, .int .i64 0]) _ rfl (by rfl) rfl (by go_simp) (cFi.out w14 (below_trans' (bDrew X.bel) (bDrew X.bel).size hb14) BN cN (oN.sl intC_len)) ?_
          rintro w15 hb15
          have hS15 : w15.cell? ⟨p16, 1, none⟩ = some (.slice lA lnn lcc) ∧ w15.rangeAt p18 0 (cnL Z2) := ⟨keepC hb15 (keepC hb14 l1), fun j u hu => keepC hb15 (keepC hb14 (r18 j u hu))⟩
          refine ⟨hS15, ?_⟩
          try simp only [Act.put, List.setIfInBounds_toArray, List.set_cons_zero, List.set_cons_succ]
          refine hx_take 9 (some 87) _ rfl (by kernel_rfl) (by kernel_rfl) (by kernel_rfl) (fun _ _ _ h => h) rfl (Or.inl ⟨by rfl, fun w hSw => by first | (go_simp; done) | (go_simp; with_reducible rfl) | (go_simp; rfl)⟩) (by assumption) ?_
          try simp only [Act.put, List.setIfInBounds_toArray, List.set_cons_zero, List.set_cons_succ]
          refine hx_take 10 (some 97) _ rfl (by kernel_rfl) (by kernel_rfl) (by kernel_rfl) (fun _ _ _ h => h) rfl (Or.inl ⟨by rfl, fun w hSw => by first | (go_simp; done) | (go_simp; with_reducible rfl) | (go_simp; rfl)⟩) (by assumption) ?_
          try simp only [Act.put, List.setIfInBounds_toArray, List.set_cons_zero, List.set_cons_succ]
          refine hx_take 11 (some 98) _ rfl (by kernel_rfl) (by kernel_rfl) (by kernel_rfl) (fun _ _ _ h => h) rfl (Or.inl ⟨by rfl, fun w hSw => by first | (go_simp; done) | (go_simp; with_reducible rfl) | (go_simp; rfl)⟩) (by assumption) ?_
          try simp only [Act.put, List.setIfInBounds_toArray, List.set_cons_zero, List.set_cons_succ]
          refine hx_take 12 (some 19) _ rfl (by kernel_rfl) (by kernel_rfl) (by kernel_rfl) (fun _ _ _ h => h) rfl (Or.inl ⟨by rfl, fun w hSw => by first | (go_simp; done) | (go_simp; with_reducible rfl) | (go_simp; rfl)⟩) (by assumption) ?_
          try simp only [Act.put, List.setIfInBounds_toArray, List.set_cons_zero, List.set_cons_succ]
          refine hx_take 13 (some 20) _ rfl (by kernel_rfl) (by kernel_rfl) (by kernel_rfl) (fun _ _ _ h => h) rfl (Or.inl ⟨by rfl, fun w hSw => by first | (go_simp; done) | (go_simp; with_reducible rfl) | (go_simp; rfl)⟩) (by assumption) ?_
          try simp only [Act.put, List.setIfInBounds_toArray, List.set_cons_zero, List.set_cons_succ]
          refine wpAnyH_done (by kernel_rfl) ?_ _
          have HB := Lib.hid (show Below w13.heap.size w13 w15 from (bDrew (Below.refl _ w13)).trans (below_trans' hb14 hb14.size hb15))
          clear hb14 hb15 oN
          go_wp2_with fail
          go_meet
          case rel => exact ⟨rfl, HB.out⟩
        case rest =>
        obtain ⟨rfl, hb19⟩ := hcut
        have B5 := B5.below hb19
        have B6 := B6.below hb19
        have B18 := B18.below hb19
        have X := X.below hb19
        have SR := SR.below hb19
        clear l1 r18 hb19 cNu cFi hsz18 B16
        generalize wc = w16 at *
        have k0 := B5.cell 0 rfl
        have k1 := B5.cell 1 rfl
        have k2 := B5.cell 2 rfl
        have k3 := B5.cell 3 rfl
        have k4 := B5.cell 4 rfl
        have m1 := X.b3.cell 1 rfl
        have hsB := X.sB
        have hw1 : IntKind.i64.wrap ((L : Int) + 1 - 1) = (L : Int) := by rw [show (L : Int) + 1 - 1 = L by omega]; exact IntWalk.i64_in _ (by omega)
        go_upto_region 16 with (at_builtin; refine wpList_push elemPl rfl (.tmp 100) (.tmp 102) rfl rfl _ rfl (X.op.alloc _) ⟨1, (lo : Nat), (k : Int) + 1, true⟩ _ rfl rfl (plC_one _) rfl ⟨by omega, by unfold maxLen; omega⟩ (Nat.le_trans hsB (by simp)) ?_; intro AP3 cp3 w17 ho17 hg17 ha17; obtain ⟨Y17, y3, yk⟩ := X.place ho17 hg17; have f3 := y3.frozen 1; have c3 := y3.cell 1 rfl; clear yk Y17)
        obtain ⟨Y17, _, yk⟩ := X.place ho17 hg17
        have SR := ((SR.below (alloc1 w16 (.cells (plC ⟨1, (lo : Nat), (k : Int) + 1, true⟩).toArray 128))).keepAny hg17 (fun h0 ad e h => by have h1 := (HQ.out h0 ad e).1.2; have h2 := (X.op.lt _ h.symm).1; omega)).keepAny (gset w17 p3 1 (.slice AP3 (st.ps.length + 1) cp3)) (fun h0 ad e h => (HQ.out h0 ad e).2.1 (by injection h))
        have B6 := yk p6 _ _ (by decide) (by decide) B6
        have B18 := yk p18 _ _ (by decide) (by decide) B18
        clear k0 k1 k2 k3 k4 m1 hsB B5 X ho17 hg17 ha17 y3 f3 c3 yk
        generalize w17.setCell ⟨p3, 1, none⟩ (.slice AP3 (st.ps.length + 1) cp3) = w18 at *
        have HCN := Lib.hid (show ∀ x, CnOk (32767 + ((j + 1 : Nat) : Int)) (updI st.f id Z2 x) from fun x i => by
          unfold updI
          by_cases e : x = id
          · rw [if_pos e]; exact ⟨(hZok i).1, by have := (hZok i).2; omega⟩
          · rw [if_neg e]; exact ⟨(hcn x i).1, by have := (hcn x i).2; omega⟩)
        have hL9 : L < 9 := by omega
        have hL9' : (L : Int) < 9 := by omega
        have hw0 : IntKind.i64.wrap (L : Int) = (L : Int) := IntWalk.i64_in _ (by omega)
        have hL0 : (0 : Int) ≤ (L : Int) := by omega
        have Y := Y17.below (bDrew (Below.refl _ w18))
        have D6 := B6.below (bDrew (Below.refl _ w18))
        have D18 := B18.below (bDrew (Below.refl _ w18))
        have SR := SR.below (bDrew (Below.refl _ w18))
        clear hcn hZok hD HZ1 Y17
        refine wp_region_held_drew (S := fun w' => w'.cell? ⟨p6, 0, none⟩ = some (.int .i64 0) ∧ w'.cell? ⟨p6, 1, none⟩ = some (.int .i64 (lo : Nat)) ∧ w'.cell? ⟨p18, L, none⟩ = some (.int .i64 (Z2 L).1)) (by kernel_rfl) ⟨B6.cell 0 rfl, B6.cell 1 rfl, (B18.cn hL9).1⟩ (fun hHeld => ?_)
        clear B6 B18
        generalize w18.drew = wd at *
        have m3 := Y.b3.cell 2 rfl
        have m3' := (Y.b3.alloc (.cells (enC ⟨(lo : Nat), id, (L : Int) + 1, (Z2 L).1, lab⟩).toArray 73)).cell 2 rfl
        have SA : (wd.alloc (.cells (enC ⟨(lo : Nat), id, (L : Int) + 1, (Z2 L).1, lab⟩).toArray 73)).cell? ⟨p6, 0, none⟩ = some (.int .i64 0) ∧ (wd.alloc (.cells (enC ⟨(lo : Nat), id, (L : Int) + 1, (Z2 L).1, lab⟩).toArray 73)).cell? ⟨p6, 1, none⟩ = some (.int .i64 (lo : Nat)) ∧ (wd.alloc (.cells (enC ⟨(lo : Nat), id, (L : Int) + 1, (Z2 L).1, lab⟩).toArray 73)).cell? ⟨p18, L, none⟩ = some (.int .i64 (Z2 L).1) := ⟨keepC (alloc1 _ _) hHeld.1, keepC (alloc1 _ _) hHeld.2.1, keepC (alloc1 _ _) hHeld.2.2⟩
        refine hx_take 0 (some 105) _ rfl (by kernel_rfl) (by kernel_rfl) (by kernel_rfl) (fun _ _ _ h => h) rfl (Or.inl ⟨by rfl, fun w hSw => by first | (go_simp; done) | (go_simp; with_reducible rfl) | (go_simp; rfl)⟩) (by assumption) ?_
        try simp only [Act.put, List.setIfInBounds_toArray, List.set_cons_zero, List.set_cons_succ]
        refine hx_take 2 (some 107) _ rfl (by kernel_rfl) (by kernel_rfl) (by kernel_rfl) (fun _ _ _ h => h) rfl (Or.inl ⟨by rfl, fun w hSw => by first | (go_simp; done) | (go_simp; with_reducible rfl) | (go_simp; rfl)⟩) (by assumption) ?_
        try simp only [Act.put, List.setIfInBounds_toArray, List.set_cons_zero, List.set_cons_succ]
        refine hx_take 3 (some 108) _ rfl (by kernel_rfl) (by kernel_rfl) (by kernel_rfl) (fun _ _ _ h => h) rfl (Or.inl ⟨by rfl, fun w hSw => by first | (go_simp; done) | (go_simp; with_reducible rfl) | (go_simp; rfl)⟩) (by assumption) ?_
        try simp only [Act.put, List.setIfInBounds_toArray, List.set_cons_zero, List.set_cons_succ]
        refine hx_take 4 (some 109) _ rfl (by kernel_rfl) (by kernel_rfl) (by kernel_rfl) (fun _ _ _ h => h) rfl (Or.inl ⟨by rfl, fun w hSw => by first | (go_simp; done) | (go_simp; with_reducible rfl) | (go_simp; rfl)⟩) (by assumption) ?_
        try simp only [Act.put, List.setIfInBounds_toArray, List.set_cons_zero, List.set_cons_succ]
        refine hx_take 5 (some 110) _ rfl (by kernel_rfl) (by kernel_rfl) (by kernel_rfl) (fun _ _ _ h => h) rfl (Or.inl ⟨by rfl, fun w hSw => by first | (go_simp; done) | (go_simp; with_reducible rfl) | (go_simp; rfl)⟩) (by assumption) ?_
        try simp only [Act.put, List.setIfInBounds_toArray, List.set_cons_zero, List.set_cons_succ]
        refine hx_take 7 (some 112) _ rfl (by kernel_rfl) (by kernel_rfl) (by kernel_rfl) (fun _ _ _ h => h) rfl (Or.inl ⟨by rfl, fun w hSw => by first | (go_simp; done) | (go_simp; with_reducible rfl) | (go_simp; rfl)⟩) (by assumption) ?_
        try simp only [Act.put, List.setIfInBounds_toArray, List.set_cons_zero, List.set_cons_succ]
        refine hx_take 10 (some 115) _ rfl (by kernel_rfl) (by kernel_rfl) (by kernel_rfl) (fun _ _ _ h => h) rfl (Or.inl ⟨by rfl, fun w hSw => by first | (go_simp; done) | (go_simp; with_reducible rfl) | (go_simp; rfl)⟩) (by assumption) ?_
        try simp only [Act.put, List.setIfInBounds_toArray, List.set_cons_zero, List.set_cons_succ]
        refine hx_take 6 (some 111) _ rfl (by kernel_rfl) (by kernel_rfl) (by kernel_rfl) (fun _ _ _ h => h) rfl (Or.inl ⟨by rfl, fun w hSw => by first | (go_simp; done) | (go_simp; with_reducible rfl) | (go_simp; rfl)⟩) (by assumption) ?_
        try simp only [Act.put, List.setIfInBounds_toArray, List.set_cons_zero, List.set_cons_succ]
        refine hx_take 8 (some 113) _ rfl (by kernel_rfl) (by kernel_rfl) (by kernel_rfl) (fun _ _ _ h => h) rfl (Or.inl ⟨by rfl, fun w hSw => by first | (go_simp; done) | (go_simp; with_reducible rfl) | (go_simp; rfl)⟩) (by assumption) ?_
        try simp only [Act.put, List.setIfInBounds_toArray, List.set_cons_zero, List.set_cons_succ]
        refine hx_take 9 (some 114) (.int .i64 (Z2 L).1) rfl (by kernel_rfl) (by kernel_rfl) (by kernel_rfl) (fun _ _ _ h => h) rfl (Or.inl ⟨by rfl, fun w hSw => by first | (go_simp; done) | (go_simp; with_reducible rfl) | (go_simp; rfl)⟩) (by assumption) ?_
        try simp only [Act.put, List.setIfInBounds_toArray, List.set_cons_zero, List.set_cons_succ]
        refine hx_take 11 (some 116) _ rfl (by kernel_rfl) (by kernel_rfl) (by kernel_rfl) (fun _ _ _ h => h) rfl (Or.inl ⟨by rfl, fun w hSw => by first | (go_simp; done) | (go_simp; with_reducible rfl) | (go_simp; rfl)⟩) (by assumption) ?_
        try simp only [Act.put, List.setIfInBounds_toArray, List.set_cons_zero, List.set_cons_succ]
        refine hx2 1 12 (by kernel_rfl) ?_ ?_
        · refine hx_val 1 (some 106) (.slice AE st.es.length ce) wd rfl (by rfl) rfl (by first | (go_simp; done) | (go_simp; rfl)) hHeld ?_
          try simp only [Act.put, List.setIfInBounds_toArray, List.set_cons_zero, List.set_cons_succ]
          refine hx1 12 (by kernel_rfl) ?_
          refine hx_val 12 (some 117) (.slice (some ⟨wd.heap.size, 0, none⟩) 1 1) (wd.alloc (.cells (enC ⟨(lo : Nat), id, (L : Int) + 1, (Z2 L).1, lab⟩).toArray 73)) rfl (by rfl) rfl (by first | (go_simp; done) | (go_simp; rfl)) SA ?_
          try simp only [Act.put, List.setIfInBounds_toArray, List.set_cons_zero, List.set_cons_succ]
          have Y1 := Y.below (alloc1 wd (.cells (enC ⟨(lo : Nat), id, (L : Int) + 1, (Z2 L).1, lab⟩).toArray 73))
          refine hx1 13 (by kernel_rfl) ?_
          refine hx_pushW 13 (some 118) elemEn (.tmp 106) (.tmp 117) rfl (by rfl) rfl rfl rfl _ rfl Y1.oe ⟨(lo : Nat), id, (L : Int) + 1, (Z2 L).1, lab⟩ wd rfl rfl (enC_one _) rfl ⟨by omega, by unfold maxLen; omega⟩ Y1.sB ?_
          intro AE3 ce3 w19 ho19 hg19
          obtain ⟨Y19, y3, yk⟩ := Y.entry ho19 hg19
          obtain ⟨e6, e6'⟩ := yk p6 _ _ (by decide) (by decide) D6
          obtain ⟨e18, e18'⟩ := yk p18 _ _ (by decide) (by decide) D18
          have S19 : w19.cell? ⟨p6, 0, none⟩ = some (.int .i64 0) ∧ w19.cell? ⟨p6, 1, none⟩ = some (.int .i64 (lo : Nat)) ∧ w19.cell? ⟨p18, L, none⟩ = some (.int .i64 (Z2 L).1) := ⟨e6.cell 0 rfl, e6.cell 1 rfl, (e18.cn hL9).1⟩
          have S20 : (w19.setCell ⟨p3, 2, none⟩ (.slice AE3 (st.es.length + 1) ce3)).cell? ⟨p6, 0, none⟩ = some (.int .i64 0) ∧ (w19.setCell ⟨p3, 2, none⟩ (.slice AE3 (st.es.length + 1) ce3)).cell? ⟨p6, 1, none⟩ = some (.int .i64 (lo : Nat)) ∧ (w19.setCell ⟨p3, 2, none⟩ (.slice AE3 (st.es.length + 1) ce3)).cell? ⟨p18, L, none⟩ = some (.int .i64 (Z2 L).1) := ⟨e6'.cell 0 rfl, e6'.cell 1 rfl, (e18'.cn hL9).1⟩
          have SR9 := ((SR.below (alloc1 wd (.cells (enC ⟨(lo : Nat), id, (L : Int) + 1, (Z2 L).1, lab⟩).toArray 73))).keepAny hg19 (fun h0 ad e h => by have h1 := (HQ.out h0 ad e).1.2; have h2 := (Y1.oe.lt _ h.symm).1; omega)).keepAny (gset w19 p3 2 (.slice AE3 (st.es.length + 1) ce3)) (fun h0 ad e h => (HQ.out h0 ad e).2.1 (by injection h))
          have c3 := y3.cell 2 rfl
          have f3 := y3.frozen 2
          refine ⟨S19, ?_⟩
          try simp only [Act.put, List.setIfInBounds_toArray, List.set_cons_zero, List.set_cons_succ]
          refine hx_take 14 (some 119) _ rfl (by kernel_rfl) (by kernel_rfl) (by kernel_rfl) (fun _ _ _ h => h) rfl (Or.inl ⟨by rfl, fun w hSw => by first | (go_simp; done) | (go_simp; with_reducible rfl) | (go_simp; rfl)⟩) (by assumption) ?_
          try simp only [Act.put, List.setIfInBounds_toArray, List.set_cons_zero, List.set_cons_succ]
          refine hx1 15 (by kernel_rfl) ?_
          refine hx_storeC 15 p3 2 (.slice AE3 (st.es.length + 1) ce3) rfl (by rfl) rfl (by first | (go_simp; done) | (go_simp; rfl)) S20 ?_
          refine wpAnyH_done (by kernel_rfl) ?_ _
          have HF := Lib.hid (And.intro Y19 SR9)
          clear Y19 SR9 S19 S20 e6 e6' e18 e18' yk y3 c3 f3 ho19 hg19 Y1 Y SR D6 D18
          go_wp2_with fail
          go_roundw
          case rel => exact ⟨j + 1, AP3, cp3, AE3, ce3, by simp, by omega, by rw [HS.out, HEN.out, HBK.out]; simpa using HF.out.1, fun x => by rw [HS.out]; exact HCN.out x, by rw [HS.out, List.length_append, List.length_singleton]; omega, by rw [HS.out, List.length_append, List.length_singleton]; omega, HF.out.2⟩
          case measure => rw [intOf, intOf]; omega
        · refine hx_val 12 (some 117) (.slice (some ⟨wd.heap.size, 0, none⟩) 1 1) (wd.alloc (.cells (enC ⟨(lo : Nat), id, (L : Int) + 1, (Z2 L).1, lab⟩).toArray 73)) rfl (by rfl) rfl (by first | (go_simp; done) | (go_simp; rfl)) SA ?_
          try simp only [Act.put, List.setIfInBounds_toArray, List.set_cons_zero, List.set_cons_succ]
          refine hx1 1 (by kernel_rfl) ?_
          refine hx_val 1 (some 106) (.slice AE st.es.length ce) _ rfl (by rfl) rfl (by first | (go_simp; done) | (go_simp; rfl)) SA ?_
          try simp only [Act.put, List.setIfInBounds_toArray, List.set_cons_zero, List.set_cons_succ]
          have Y1 := Y.below (alloc1 wd (.cells (enC ⟨(lo : Nat), id, (L : Int) + 1, (Z2 L).1, lab⟩).toArray 73))
          refine hx1 13 (by kernel_rfl) ?_
          refine hx_pushW 13 (some 118) elemEn (.tmp 106) (.tmp 117) rfl (by rfl) rfl rfl rfl _ rfl Y1.oe ⟨(lo : Nat), id, (L : Int) + 1, (Z2 L).1, lab⟩ wd rfl rfl (enC_one _) rfl ⟨by omega, by unfold maxLen; omega⟩ Y1.sB ?_
          intro AE3 ce3 w19 ho19 hg19
          obtain ⟨Y19, y3, yk⟩ := Y.entry ho19 hg19
          obtain ⟨e6, e6'⟩ := yk p6 _ _ (by decide) (by decide) D6
          obtain ⟨e18, e18'⟩ := yk p18 _ _ (by decide) (by decide) D18
          have S19 : w19.cell? ⟨p6, 0, none⟩ = some (.int .i64 0) ∧ w19.cell? ⟨p6, 1, none⟩ = some (.int .i64 (lo : Nat)) ∧ w19.cell? ⟨p18, L, none⟩ = some (.int .i64 (Z2 L).1) := ⟨e6.cell 0 rfl, e6.cell 1 rfl, (e18.cn hL9).1⟩
          have S20 : (w19.setCell ⟨p3, 2, none⟩ (.slice AE3 (st.es.length + 1) ce3)).cell? ⟨p6, 0, none⟩ = some (.int .i64 0) ∧ (w19.setCell ⟨p3, 2, none⟩ (.slice AE3 (st.es.length + 1) ce3)).cell? ⟨p6, 1, none⟩ = some (.int .i64 (lo : Nat)) ∧ (w19.setCell ⟨p3, 2, none⟩ (.slice AE3 (st.es.length + 1) ce3)).cell? ⟨p18, L, none⟩ = some (.int .i64 (Z2 L).1) := ⟨e6'.cell 0 rfl, e6'.cell 1 rfl, (e18'.cn hL9).1⟩
          have SR9 := ((SR.below (alloc1 wd (.cells (enC ⟨(lo : Nat), id, (L : Int) + 1, (Z2 L).1, lab⟩).toArray 73))).keepAny hg19 (fun h0 ad e h => by have h1 := (HQ.out h0 ad e).1.2; have h2 := (Y1.oe.lt _ h.symm).1; omega)).keepAny (gset w19 p3 2 (.slice AE3 (st.es.length + 1) ce3)) (fun h0 ad e h => (HQ.out h0 ad e).2.1 (by injection h))
          have c3 := y3.cell 2 rfl
          have f3 := y3.frozen 2
          refine ⟨S19, ?_⟩
          try simp only [Act.put, List.setIfInBounds_toArray, List.set_cons_zero, List.set_cons_succ]
          refine hx_take 14 (some 119) _ rfl (by kernel_rfl) (by kernel_rfl) (by kernel_rfl) (fun _ _ _ h => h) rfl (Or.inl ⟨by rfl, fun w hSw => by first | (go_simp; done) | (go_simp; with_reducible rfl) | (go_simp; rfl)⟩) (by assumption) ?_
          try simp only [Act.put, List.setIfInBounds_toArray, List.set_cons_zero, List.set_cons_succ]
          refine hx1 15 (by kernel_rfl) ?_
          refine hx_storeC 15 p3 2 (.slice AE3 (st.es.length + 1) ce3) rfl (by rfl) rfl (by first | (go_simp; done) | (go_simp; rfl)) S20 ?_
          refine wpAnyH_done (by kernel_rfl) ?_ _
          have HF := Lib.hid (And.intro Y19 SR9)
          clear Y19 SR9 S19 S20 e6 e6' e18 e18' yk y3 c3 f3 ho19 hg19 Y1 Y SR D6 D18
          go_wp2_with fail
          go_roundw
          case rel => exact ⟨j + 1, AP3, cp3, AE3, ce3, by simp, by omega, by rw [HS.out, HEN.out, HBK.out]; simpa using HF.out.1, fun x => by rw [HS.out]; exact HCN.out x, by rw [HS.out, List.length_append, List.length_singleton]; omega, by rw [HS.out, List.length_append, List.length_singleton]; omega, HF.out.2⟩
          case measure => rw [intOf, intOf]; omega
    · have : j = n := by omega
      subst this
      have HRN2 := HRN.out
      rw [HN.out] at HRN2
      rw [HRN2] at X
      clear HQ hcn hlp hle SR HRN2
      generalize runL es vs ys ks = st at *
      have q0 := X.b3.cell 0 rfl
      have q1 := X.b3.cell 1 rfl
      have q2 := X.b3.cell 2 rfl
      have B2 := X.b2
      have hG := gsetRow wr p2 #[.map (some b), .slice AP st.ps.length cp, .slice AE st.es.length ce]
      have HE := Lib.hid (And.intro ((X.op.keep hG (fun k hk e => by cases hk; exact X.op.ne_blk X.b2 (by decide) e)).base X.hB) (And.intro ((X.oe.keep hG (fun k hk e => by cases hk; exact X.oe.ne_blk X.b2 (by decide) e)).base X.hB) (below_setRow X.bel X.l2 #[.map (some b), .slice AP st.ps.length cp, .slice AE st.es.length ce])))
      clear hG X
      unfold Blk at B2
      go_wp2_with (refine wpList_store_row rfl 118 _ _ rfl p2 #[.map (some b), .slice AP st.ps.length cp, .slice AE st.es.length ce] rfl rfl 118 _ B2 (by kernel_rfl) rfl (by simp [Value.oneCell']) ?_)
      refine bodyPost_ret (results_cell_row rfl _ _ p2 118 _ (0, 0) _ rfl (setRow_heap _ p2 _ _ _ _ B2) Tryz.underlying118 rfl (by kernel_rfl)) rfl ?_
      exact HP.out _ _ ⟨b, AP, cp, AE, ce, rfl, HE.out.1, HE.out.2.1, HE.out.2.2⟩
end Go.Proofs.YthbodpjkckminaaGreatDoor
