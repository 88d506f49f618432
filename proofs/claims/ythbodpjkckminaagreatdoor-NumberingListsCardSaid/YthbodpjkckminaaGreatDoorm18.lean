/- paragraph.own, Para: of a paragraph of a flat document. paragraph.Para: of a paragraph of a flat document. paragraph.All: the paragraphs of a flat document. paragraph.All of a flat document. -/
import Derived.Test.YthbodpjkckminaaGreatDoorm17
import Derived.Laws.EntriesVeiled
namespace Go.Proofs.YthbodpjkckminaaGreatDoor
open Go.RowKit

theorem results_cell_tmp2 {fn : Func} {P : Program} {p q r : Tmp} {ty : TypeId} (h : fn.results = #[.cell p ty, .tmp q, .tmp r]) (tmps : Array Value) (w : World) (g : Nat) (t : TypeId) (cs : Array Value) (fr : Nat × Nat) (d : TypeDesc)
    (hp : tmps.getD p undef = .pointer (some ⟨g, 0, none⟩)) (hg : w.heap[g]? = some (.cells cs t fr))
    (hu : P.underlying ty = some d) (hd : (match d with | .struct _ | .array _ _ => true | _ => false) = true) (hi : (P.info? ty).map (·.size) = some cs.size) :
    (results fn tmps).run P w = .ok (.tuple #[.agg cs, tmps.getD q undef, tmps.getD r undef]) w := by
  have hp' : tmps[p]?.getD undef = .pointer (some ⟨g, 0, none⟩) := by simpa using hp
  simp [results, h, hp', asAddr, run_loadVar_row w g t ty cs fr d hg hu hd hi]
def OwPost (w : World) (ps : List Pr) (e : Ending) (w' : World) : Prop := ∃ (y : Fi) (s : SV) (A' : Option Addr) (c' : Nat), e = .returned (.tuple #[.agg (fiL y s).toArray, .slice A' ps.length c', .int .i64 0]) ∧ Own w' w.heap.size 91 2 prC A' ps.length c' ps ∧ Below w.heap.size w w'
theorem boxes_own (w : World) (D : Array Value) (x y : Value) : Blk (((w.alloc (.cells D 63)).alloc (.cells #[x, y] 71)).alloc (.cells itZA 102)) w.heap.size 63 D
    ∧ Blk (((w.alloc (.cells D 63)).alloc (.cells #[x, y] 71)).alloc (.cells itZA 102)) (w.heap.size + 1) 71 #[x, y]
    ∧ Blk (((w.alloc (.cells D 63)).alloc (.cells #[x, y] 71)).alloc (.cells itZA 102)) (w.heap.size + 1 + 1) 102 itZA
    ∧ Below w.heap.size w (((w.alloc (.cells D 63)).alloc (.cells #[x, y] 71)).alloc (.cells itZA 102)) := by
  have B2 := ((Blk.new w 63 D).alloc (.cells #[x, y] 71)).alloc (.cells itZA 102)
  have B3 := (Blk.new (w.alloc (.cells D 63)) 71 #[x, y]).alloc (.cells itZA 102)
  have B4 := Blk.new ((w.alloc (.cells D 63)).alloc (.cells #[x, y] 71)) 102 itZA
  simp only [World.size_alloc] at B3 B4
  exact ⟨B2, B3, B4, (((alloc1 w _).alloc (by simp) _).alloc (by simp; omega) _)⟩
def FlDoc (w : World) (A : Option Addr) (m : Nat) (xs : List It) (ys : List Fi) : Prop := Fl w A m xs ys ∧ DocFl ys
set_option maxRecDepth 100000 in
set_option maxHeartbeats 8000000 in
theorem powns_any (A : Option Addr) (m c : Nat) (LA : Option Addr) (ln lc : Nat) (xs : List It) (ys : List Fi) (k : Nat) (w : World) (ha : Fl w A m xs ys) (hy : DocFl ys) (hk : k < m) (hk2 : (gFi ys k).kind = 2) :
    Calls Tryz.prog 90 #[.agg (docL A m c LA ln lc).toArray, .agg #[.int .i64 0, .int .i64 (frK ys k : Nat)]] w (OwPost w (gFi ys k).ps) := by
  have hly := ha.ly
  have hm : m ≤ 1000000 := by have := hy.fw.nf.ok.len; omega
  have hfr := frK_le ys k
  have hix : ixV m (frK ys k : Nat) = (frK ys k : Nat) := by unfold ixV; rw [if_neg (by omega)]
  have hie : ixE m (frK ys k : Nat) = 0 := by unfold ixE; rw [if_neg (by omega)]
  have cF := Lib.hid (fun W (hb : Below w.heap.size w W) => flow_any A m c LA ln lc xs ys W (ha.below hb) hy.fw.nf.ok (fun j hj => by obtain ⟨s, e, _⟩ := ha.f j hj; rw [e]; exact hy.kd j (by omega)) hm)
  have cA := Lib.hid (fun W A' c' zs (h : Fl W A' m zs ys) => at_any A' m c' zs ys k W h hy hk hk2)
  have cI := Lib.hid (fun W A' c' zs (h : Fl W A' m zs ys) => index_any A' m c' zs (frK ys k : Nat) W h.i hm (h.one hy.fw))
  have cO := Lib.hid (fun W A' c' zs (h : Fl W A' m zs ys) => pown_any A' m c' zs ys k W h hy hk hk2)
  rw [hix, hie] at cI
  have HP := Lib.hid (show ∀ e w', (∃ (y : Fi) (s : SV) (A' : Option Addr) (c' : Nat), e = .returned (.tuple #[.agg (fiL y s).toArray, .slice A' (gFi ys k).ps.length c', .int .i64 0]) ∧ Own w' w.heap.size 91 2 prC A' (gFi ys k).ps.length c' (gFi ys k).ps ∧ Below w.heap.size w w') → OwPost w (gFi ys k).ps e w' from fun _ _ h => h)
  have HLY := Lib.hid hly
  clear hly hix hie
  rw [show (docL A m c LA ln lc).toArray = #[.slice A m c, .slice none 0 0, .int .i64 0, .int .i64 0, .slice none 0 0, .slice none 0 0, .slice none 0 0, .slice none 0 0, .slice LA ln lc, .slice none 0 0, .slice none 0 0] from rfl] at *
  have HX := Lib.hid (boxes_own w #[.slice A m c, .slice none 0 0, .int .i64 0, .int .i64 0, .slice none 0 0, .slice none 0 0, .slice none 0 0, .slice none 0 0, .slice LA ln lc, .slice none 0 0, .slice none 0 0] (.int .i64 0) (.int .i64 (frK ys k : Nat)))
  have hbk : (bkC4 (bkK ys k)).toArray = #[.int .i64 1, .int .i64 (frK ys k : Nat), .int .i64 ((k : Int) + 1), .bool true] := rfl
  unfold AtPost at cA
  rw [hbk] at cA cO
  clear hbk
  generalize frK ys k = lo at *
  generalize (gFi ys k).ps = ps at *
  go_enter Tryz.func90, Tryz.ntmps90
  go_upto_region 0 with fail
  go_cut [2, 3, 4, 5, 6] (fun v2 v3 v4 v5 v6 wx => ∃ p2 p3 p4, v2 = .pointer (some ⟨p2, 0, none⟩) ∧ v3 = .pointer (some ⟨p3, 0, none⟩) ∧ v4 = .pointer (some ⟨p4, 0, none⟩) ∧ v5 = .slice none 0 0 ∧ v6 = .int .i64 0 ∧ Blk wx p2 63 #[.slice A m c, .slice none 0 0, .int .i64 0, .int .i64 0, .slice none 0 0, .slice none 0 0, .slice none 0 0, .slice none 0 0, .slice LA ln lc, .slice none 0 0, .slice none 0 0] ∧ Blk wx p3 71 #[.int .i64 0, .int .i64 (lo : Nat)] ∧ Blk wx p4 102 itZA ∧ w.heap.size ≤ p4 ∧ Below w.heap.size w wx)
  case first =>
    clear cF cA cI cO HP
    go_wp2_with fail
    go_meet
    case rel => exact ⟨_, _, _, rfl, rfl, rfl, rfl, rfl, HX.out.1, HX.out.2.1, HX.out.2.2.1, by omega, HX.out.2.2.2⟩
  case rest =>
  obtain ⟨p2, p3, p4, rfl, rfl, rfl, rfl, rfl, B2, B3, B4, hp4, hbw⟩ := hcut
  clear HX
  have q0 := B2.cell 0 rfl
  have q1 := B2.cell 1 rfl
  have q2 := B2.cell 2 rfl
  have q3 := B2.cell 3 rfl
  have q4 := B2.cell 4 rfl
  have q5 := B2.cell 5 rfl
  have q6 := B2.cell 6 rfl
  have q7 := B2.cell 7 rfl
  have q8 := B2.cell 8 rfl
  have q9 := B2.cell 9 rfl
  have q10 := B2.cell 10 rfl
  have k0 := B3.cell 0 rfl
  have k1 := B3.cell 1 rfl
  have cF := cF.out _ hbw
  go_upto_region 4 with (go_at_call 86; refine cF.mono ?_; rintro e w3 ⟨A', c', zs, rfl, M3, hb3⟩)
  have B3 := B3.below hb3
  have B4 := B4.below hb3
  have hbx := below_trans' hbw hbw.size hb3
  have F3 := M3.fl rfl
  have k0 := B3.cell 0 rfl
  have k1 := B3.cell 1 rfl
  have hl := HLY.out
  rw [hl] at F3
  have cA := cA.out w3 A' c' zs F3
  rw [hl]
  clear q0 q1 q2 q3 q4 q5 q6 q7 q8 q9 q10 B2 cF M3 hl hb3 hbw
  go_upto_region 4 with fail
  go_cut [6, 9] (fun v6 v9 wx => ∃ p9, v6 = .int .i64 0 ∧ v9 = .pointer (some ⟨p9, 0, none⟩) ∧ Blk wx p9 126 #[.int .i64 1, .int .i64 (lo : Nat), .int .i64 ((k : Int) + 1), .bool true] ∧ Below w3.heap.size w3 wx)
  case first =>
    go_wp2_with (go_at_call 124; refine cA.mono ?_; rintro e w4 ⟨rfl, hb4⟩)
    have HX := Lib.hid (And.intro (Blk.new w4 126 #[.int .i64 1, .int .i64 (lo : Nat), .int .i64 ((k : Int) + 1), .bool true]) (below_trans' hb4 hb4.size (alloc1 w4 (.cells #[.int .i64 1, .int .i64 (lo : Nat), .int .i64 ((k : Int) + 1), .bool true] 126))))
    clear hb4
    go_wp2_with fail
    go_meet
    case rel => exact ⟨_, rfl, rfl, HX.out.1, HX.out.2⟩
  case rest =>
  obtain ⟨p9, rfl, rfl, B9, hb9⟩ := hcut
  have B3 := B3.below hb9
  have B4 := B4.below hb9
  have F9 := F3.below hb9
  have hbx := below_trans' hbx hbx.size hb9
  have k0 := B3.cell 0 rfl
  have k1 := B3.cell 1 rfl
  have j0 := B9.cell 0 rfl
  have cI := cI.out _ A' c' zs F9
  clear F3 hb9
  go_upto_region 10 with (go_at_call 125; refine cI.mono ?_; rintro e w5 ⟨rfl, hb5⟩)
  have B4 := B4.below hb5
  have B9 := B9.below hb5
  have F5 := F9.below hb5
  have hbx := below_trans' hbx hbx.size hb5
  have cO := cO.out w5 A' c' zs F5
  have j0 := B9.cell 0 rfl
  have j1 := B9.cell 1 rfl
  have j2 := B9.cell 2 rfl
  have j3 := B9.cell 3 rfl
  clear k0 k1 F9 cI hb5
  go_upto_region 13 with (go_at_call 87; refine cO.mono ?_; rintro e w6 ⟨A6, c6, rfl, o6, hb6⟩)
  have B4 := B4.below hb6
  have F6 := F5.below hb6
  have HO := o6.base hbx.size
  have hlm : lo < m := by omega
  obtain ⟨g, o, e, hg, hr⟩ := F6.i.at_ itZ hlm
  obtain ⟨s, e2, _⟩ := F6.f lo hlm
  rw [show zs.getD lo itZ = gIt zs lo from rfl, e2, fiL_it] at hr
  subst e
  have hlo : (lo : Int) < m := by omega
  have hsz0 : (Tryz.prog.info? 102).map (·.size) = some (fiL (gFi ys lo) s).length := size_it
  have hone : (fiL (gFi ys lo) s).toArray.all (·.oneCell') = true := itA_one (itF (gFi ys lo) s)
  generalize gFi ys lo = y at *
  have HO := Lib.hid (HO.keep (gsetRow w6 p4 (fiL y s).toArray) (fun j e => by cases e; exact HO.ne_blk B4 (by decide)))
  clear B9 j0 j1 j2 j3 cO F5 F6 e2
  have hbx := below_trans' hbx hbx.size hb6
  unfold Blk at B4
  go_wp2_with (first | (refine wpList_load_mid rfl 102 _ rfl g (o + lo * 11) rfl (fiL y s) _ hr Tryz.underlying102 rfl hsz0 ?_) | (refine wpList_store_row rfl 102 _ _ rfl p4 (fiL y s).toArray rfl rfl 102 _ B4 (by kernel_rfl) rfl hone ?_))
  refine bodyPost_ret (results_cell_tmp2 rfl _ _ p4 102 _ (0, 0) _ rfl (setRow_heap _ p4 _ _ _ _ B4) Tryz.underlying102 rfl (by kernel_rfl)) rfl ?_
  exact HP.out _ _ ⟨y, s, A6, c6, rfl, HO.out, below_setRow hbx hp4 _⟩
end Go.Proofs.YthbodpjkckminaaGreatDoor

namespace Go.Proofs.YthbodpjkckminaaGreatDoor
open Go.RowKit

theorem boxes_para (w : World) (D : Array Value) (x y : Value) : Blk ((w.alloc (.cells D 63)).alloc (.cells #[x, y] 71)) w.heap.size 63 D
    ∧ Blk ((w.alloc (.cells D 63)).alloc (.cells #[x, y] 71)) (w.heap.size + 1) 71 #[x, y]
    ∧ Below w.heap.size w ((w.alloc (.cells D 63)).alloc (.cells #[x, y] 71)) := by
  have B2 := (Blk.new w 63 D).alloc (.cells #[x, y] 71)
  have B3 := Blk.new (w.alloc (.cells D 63)) 71 #[x, y]
  simp only [World.size_alloc] at B3
  exact ⟨B2, B3, ((alloc1 w _).alloc (by simp) _)⟩
set_option maxRecDepth 100000 in
set_option maxHeartbeats 8000000 in
theorem ppara_any (A : Option Addr) (m c : Nat) (LA : Option Addr) (ln lc : Nat) (xs : List It) (ys : List Fi) (k : Nat) (w : World) (ha : Fl w A m xs ys) (hy : DocFl ys) (hk : k < m) (hk2 : (gFi ys k).kind = 2) (hp : PrOk (gFi ys k).ps) :
    Calls Tryz.prog 49 #[.agg (docL A m c LA ln lc).toArray, .agg #[.int .i64 0, .int .i64 (frK ys k : Nat)]] w (SpPost w (gFi ys k).ps) := by
  have cW := Lib.hid (fun W (hb : Below w.heap.size w W) => powns_any A m c LA ln lc xs ys k W (ha.below hb) hy hk hk2)
  have cS := Lib.hid (fun W A' c' (h : Slb W 2 prC A' (gFi ys k).ps.length (gFi ys k).ps) => spara_any A' (gFi ys k).ps.length c' (gFi ys k).ps W h hp)
  have HP := Lib.hid (show ∀ e w', (∃ (A' : Option Addr) (c' : Nat), e = .returned (.tuple #[.slice A' (gFi ys k).ps.length c', .int .i64 0]) ∧ Own w' w.heap.size 91 2 prC A' (gFi ys k).ps.length c' (gFi ys k).ps ∧ Below w.heap.size w w') → SpPost w (gFi ys k).ps e w' from fun _ _ h => h)
  clear hp ha
  rw [show (docL A m c LA ln lc).toArray = #[.slice A m c, .slice none 0 0, .int .i64 0, .int .i64 0, .slice none 0 0, .slice none 0 0, .slice none 0 0, .slice none 0 0, .slice LA ln lc, .slice none 0 0, .slice none 0 0] from rfl] at *
  have HX := Lib.hid (boxes_para w #[.slice A m c, .slice none 0 0, .int .i64 0, .int .i64 0, .slice none 0 0, .slice none 0 0, .slice none 0 0, .slice none 0 0, .slice LA ln lc, .slice none 0 0, .slice none 0 0] (.int .i64 0) (.int .i64 (frK ys k : Nat)))
  generalize frK ys k = lo at *
  generalize (gFi ys k).ps = ps at *
  go_enter Tryz.func49, Tryz.ntmps49
  go_upto_region 0 with fail
  go_cut [2, 3, 4, 5] (fun v2 v3 v4 v5 wx => ∃ p2 p3, v2 = .pointer (some ⟨p2, 0, none⟩) ∧ v3 = .pointer (some ⟨p3, 0, none⟩) ∧ v4 = .slice none 0 0 ∧ v5 = .int .i64 0 ∧ Blk wx p2 63 #[.slice A m c, .slice none 0 0, .int .i64 0, .int .i64 0, .slice none 0 0, .slice none 0 0, .slice none 0 0, .slice none 0 0, .slice LA ln lc, .slice none 0 0, .slice none 0 0] ∧ Blk wx p3 71 #[.int .i64 0, .int .i64 (lo : Nat)] ∧ Below w.heap.size w wx)
  case first =>
    clear cW cS HP
    go_wp2_with fail
    go_meet
    case rel => exact ⟨_, _, rfl, rfl, rfl, rfl, HX.out.1, HX.out.2.1, HX.out.2.2⟩
  case rest =>
  obtain ⟨p2, p3, rfl, rfl, rfl, rfl, B2, B3, hbw⟩ := hcut
  clear HX
  have q0 := B2.cell 0 rfl
  have q1 := B2.cell 1 rfl
  have q2 := B2.cell 2 rfl
  have q3 := B2.cell 3 rfl
  have q4 := B2.cell 4 rfl
  have q5 := B2.cell 5 rfl
  have q6 := B2.cell 6 rfl
  have q7 := B2.cell 7 rfl
  have q8 := B2.cell 8 rfl
  have q9 := B2.cell 9 rfl
  have q10 := B2.cell 10 rfl
  have k0 := B3.cell 0 rfl
  have k1 := B3.cell 1 rfl
  have cW := cW.out _ hbw
  generalize wc = w1 at *
  go_upto_region 1 with fail
  go_cut [7, 8] (fun v7 v8 wx => ∃ (A' : Option Addr) (c' : Nat), v7 = .slice A' ps.length c' ∧ v8 = .int .i64 0 ∧ Own wx w1.heap.size 91 2 prC A' ps.length c' ps ∧ Below w1.heap.size w1 wx)
  case first =>
    go_wp2_with (go_at_call 90; refine cW.mono ?_; rintro e w4 ⟨y, s, A', c', rfl, o4, hb4⟩; rw [show (fiL y s).toArray = #[.int .i64 y.kind, .int .i64 0, .int .i64 0, .string y.text, .slice s.A s.n s.c, .int .i64 0, .int .i64 0, .slice none 0 0, .slice none 0 0, .slice none 0 0, .slice none 0 0] from rfl])
    have hal := fun X => alloc1 w4 (.cells X 102)
    have HX := Lib.hid (fun X => And.intro (o4.below (hal X)) (below_trans' hb4 hb4.size (hal X)))
    clear hb4 hal
    go_wp2_with fail
    go_meet
    case rel => exact ⟨A', c', rfl, rfl, (HX.out _).1, (HX.out _).2⟩
  case rest =>
  obtain ⟨A', c', rfl, rfl, o4, hb4⟩ := hcut
  have q7 := (B2.below hb4).cell 7 rfl
  have hbx := below_trans' hbw hbw.size hb4
  have cS := cS.out _ A' c' (o4.slb prC_len)
  clear q0 q1 q2 q3 q4 q5 q6 q8 q9 q10 k0 k1 cW B3
  go_wp2_with (go_at_call 91; refine cS.mono ?_; rintro e w6 ⟨A6, c6, rfl, o6, hb6⟩)
  go_ret2
  exact HP.out _ _ ⟨A6, c6, rfl, o6.base hbx.size, below_trans' hbx hbx.size hb6⟩
end Go.Proofs.YthbodpjkckminaaGreatDoor

namespace Go.Proofs.YthbodpjkckminaaGreatDoor
open Go.RowKit
attribute [local go_sem] Oper.semAt_some

/-- a place in the body, as it lies. -/
def plC (b : Bk) : List Value := [.int .i64 0, .int .i64 b.kind, .int .i64 b.lo, .int .i64 b.hi, .bool b.mark]
theorem plC_len (b : Bk) : (plC b).length = 5 := rfl
theorem plC_one (b : Bk) : ∀ u ∈ plC b, u.oneCell' = true := by intro u hu; simp [plC] at hu; rcases hu with rfl | rfl | rfl | rfl | rfl <;> rfl
theorem elemPl : Elem Tryz.prog 116 128 5 40 := Elem.mk Tryz.underlying116 (z := .agg #[.int .i64 0, .int .i64 0, .int .i64 0, .int .i64 0, .bool false]) (by kernel_rfl) rfl (by omega)
theorem Slb.keepRow {α : Type} {w w' : World} {s : Nat} {enc : α → List Value} {A : Option Addr} {n p : Nat} {xs : List α} (h : Slb w s enc A n xs) (hg : w.grownBy w' (some p)) (hp : 0 < n → ∀ ad, A = some ad → ad.block ≠ p) : Slb w' s enc A n xs :=
  ⟨h.len, fun hn => by
    obtain ⟨g, o, e, hgl, hc⟩ := h.rd hn
    have hne := hp hn _ e
    have hb := hg.block g hgl (by simp; exact hne)
    exact ⟨g, o, e, Nat.lt_of_lt_of_le hgl hg.size, fun i x hx j u hu => (World.cell?_of_block (a := ⟨g, o + i * s + j, none⟩) hb).trans (hc i x hx j u hu)⟩⟩
def par1 (b : Bk) : Bool := b.kind == 1
def pkL (bs : List Bk) (pre : List Nat) : List Bk := (pre.map (gBk bs)).filter par1
theorem pkL_yes {bs : List Bk} {pre : List Nat} {x : Nat} (h : (gBk bs x).kind = 1) : pkL bs (pre ++ [x]) = pkL bs pre ++ [gBk bs x] := by
  have h2 : par1 (gBk bs x) = true := by unfold par1; rw [h]; rfl
  unfold pkL; rw [List.map_append, List.filter_append]; simp [h2]
theorem pkL_no {bs : List Bk} {pre : List Nat} {x : Nat} (h : (gBk bs x).kind ≠ 1) : pkL bs (pre ++ [x]) = pkL bs pre := by
  have h2 : par1 (gBk bs x) = false := beq_eq_false_iff_ne.2 h
  unfold pkL; rw [List.map_append, List.filter_append]; simp [h2]
theorem pkL_len (bs : List Bk) (pre : List Nat) : (pkL bs pre).length ≤ pre.length := by
  unfold pkL; exact Nat.le_trans (List.length_filter_le _ _) (by simp)
theorem pkL_all (ys : List Fi) (n : Nat) : pkL (bkL ys n) (List.range (bkL ys n).length) = bkL ys n := by
  unfold pkL
  rw [map_range_gBk]
  refine List.filter_eq_self.2 fun b hb => ?_
  obtain ⟨k, _, _, e⟩ := bkL_mem hb
  rw [e]; rfl
structure AlI (w : World) (B p4 p5 pout : Nat) (A : Option Addr) (m c : Nat) (zs : List Bk) (W : World) : Prop where
  b4 : Blk W p4 3 #[.int .i64 0]
  b5 : Blk W p5 54 #[.slice A m c]
  l4 : p4 < B
  l5 : p5 < B
  po : pout < B
  g : w.grownBy W (some pout)
  lB : w.heap.size ≤ B
  sB : B ≤ W.heap.size
  o : ∃ (A1 : Option Addr) (c1 : Nat), Blk W pout 116 #[.slice A1 zs.length c1] ∧ Own W B 128 5 plC A1 zs.length c1 zs
theorem AlI.keep {w : World} {B p4 p5 pout : Nat} {A : Option Addr} {m c : Nat} {zs : List Bk} {X Y : World} {row : Option Nat} (h : AlI w B p4 p5 pout A m c zs X) (hg : X.grownBy Y row) (hr : ∀ r, row = some r → B ≤ r ∧ ((∃ o : Obj, X.heap[r]? = some o ∧ o.isCells = false) ∨ ∃ cs t fr, X.heap[r]? = some (.cells cs t fr) ∧ TB t = true)) : AlI w B p4 p5 pout A m c zs Y := by
  obtain ⟨A1, c1, h1, h2⟩ := h.o
  have hlow : ∀ k, k < B → row ≠ some k := fun k hk e => by have := (hr k e).1; omega
  refine ⟨h.b4.keep hg (hlow _ h.l4), h.b5.keep hg (hlow _ h.l5), h.l4, h.l5, h.po, ⟨hg.os.trans h.g.os, hg.tape.trans h.g.tape, hg.output.trans h.g.output, Nat.le_trans h.g.size hg.size, fun k hk hne => (hg.block k (Nat.lt_of_lt_of_le hk h.g.size) (fun e => hlow k (Nat.lt_of_lt_of_le hk h.lB) e.symm)).trans (h.g.block k hk hne)⟩, h.lB, Nat.le_trans h.sB hg.size, A1, c1, h1.keep hg (hlow _ h.po), h2.keep hg (fun k hk e => ?_)⟩
  obtain ⟨cur, hc⟩ := h2.heap_at e
  exact rowT hr hc rfl hk
theorem AlI.below {w : World} {B p4 p5 pout : Nat} {A : Option Addr} {m c : Nat} {zs : List Bk} {X Y : World} (h : AlI w B p4 p5 pout A m c zs X) (hb : Below X.heap.size X Y) : AlI w B p4 p5 pout A m c zs Y := h.keep (grownB (row := none) hb) (fun r e => by cases e)
theorem grown_row {w X Y : World} {p : Nat} {row : Option Nat} (h : w.grownBy X (some p)) (hg : X.grownBy Y row) (hr : ∀ j, row = some j → w.heap.size ≤ j ∨ j = p) : w.grownBy Y (some p) :=
  ⟨hg.os.trans h.os, hg.tape.trans h.tape, hg.output.trans h.output, Nat.le_trans h.size hg.size, fun k hk hne => (hg.block k (Nat.lt_of_lt_of_le hk h.size) (fun e => by rcases hr k e.symm with h1 | h1; omega; exact hne (by rw [h1]))).trans (h.block k hk hne)⟩
theorem AlI.push {w : World} {B p4 p5 pout : Nat} {A : Option Addr} {m c : Nat} {zs : List Bk} {W w5 : World} {A1 A3 : Option Addr} {c1 c3 : Nat} (h : AlI w B p4 p5 pout A m c zs W) (b : Bk) (h1 : Blk W pout 116 #[.slice A1 zs.length c1]) (h2 : Own W B 128 5 plC A1 zs.length c1 zs)
    (ho : Own w5 B 128 5 plC A3 (zs.length + 1) c3 (zs ++ [b])) (hg : (W.alloc (.cells (plC b).toArray 128)).grownBy w5 (blk A1)) :
    AlI w B p4 p5 pout A m c (zs ++ [b]) (w5.setCell ⟨pout, 0, none⟩ (.slice A3 (zs.length + 1) c3)) ∧ KpB pout W (w5.setCell ⟨pout, 0, none⟩ (.slice A3 (zs.length + 1) c3)) ∧ KeepsOthers W (w5.setCell ⟨pout, 0, none⟩ (.slice A3 (zs.length + 1) c3))
      ∧ ∀ p6 cs, Blk W p6 126 cs → Blk (w5.setCell ⟨pout, 0, none⟩ (.slice A3 (zs.length + 1) c3)) p6 126 cs := by
  have hal := alloc1 W (.cells (plC b).toArray 128)
  have hG := gset w5 pout 0 (.slice A3 (zs.length + 1) c3)
  have hrow : ∀ j, blk A1 = some j → B ≤ j := fun j e => (h2.lt j e).1
  have x6 := (h1.alloc (.cells (plC b).toArray 128)).keep hg (fun e => h2.ne_blk h1 (by decide) e)
  have hlow : ∀ k, k < B → blk A1 ≠ some k := fun k hk e => by have := hrow k e; omega
  have hpoB := h.po
  have hsB := h.sB
  have y4 := (h.b4.alloc (.cells (plC b).toArray 128)).keep hg (hlow _ h.l4)
  have y5 := (h.b5.alloc (.cells (plC b).toArray 128)).keep hg (hlow _ h.l5)
  have hz1 := hal.size
  have hz2 := hg.size
  have hz3 := hG.size
  refine ⟨⟨y4.keep hG (x6.ne_ty y4 (by decide)), y5.keep hG (x6.ne_ty y5 (by decide)), h.l4, h.l5, h.po, ?_, h.lB, by omega, A3, c3, ?_, ?_⟩, ?_, ?_, ?_⟩
  · exact grown_row (grown_row (grown_row h.g (grownB (row := none) hal) (fun j e => by cases e)) hg (fun j e => .inl (Nat.le_trans h.lB (hrow j e)))) hG (fun j e => .inr (by cases e; rfl))
  · rw [List.length_append, List.length_singleton]; exact x6.set_ 0 _
  · rw [List.length_append, List.length_singleton]; exact ho.keep hG (fun k hk e => by cases hk; exact ho.ne_blk x6 (by decide) e)
  · refine ((KpB.of_below hal (by omega)).grow hg (fun j e => by have := hrow j e; omega) (fun j e => ?_) (by omega)).grow hG (fun j e => by cases e; exact Nat.le_refl _) (fun j e => by cases e; exact ⟨_, _, _, x6, by decide⟩) (by omega)
    obtain ⟨cur, hc⟩ := (h2.alloc (.cells (plC b).toArray 128)).heap_at e
    exact ⟨cur, _, _, hc, by decide⟩
  · exact ((others_below hal).trans (KeepsOthers.of_grownBy hg fun j o ej hj => by
      obtain ⟨cur, hc⟩ := (h2.alloc (.cells (plC b).toArray 128)).heap_at ej
      rw [hc] at hj; cases hj; rfl)).trans (KeepsOthers.setCell w5 ⟨pout, 0, none⟩ (.slice A3 (zs.length + 1) c3))
  · intro p6 cs h6
    have y6 := (h6.alloc (.cells (plC b).toArray 128)).keep hg (fun e => h2.ne_blk h6 (by decide) e)
    exact y6.keep hG (x6.ne_ty y6 (by decide))
def AlPost (w : World) (pout : Nat) (bs : List Bk) (e : Ending) (w' : World) : Prop := ∃ (v : Value) (A1 : Option Addr) (c1 : Nat), e = .returned v ∧ Blk w' pout 116 #[.slice A1 bs.length c1] ∧ Own w' w.heap.size 128 5 plC A1 bs.length c1 bs ∧ w.grownBy w' (some pout)
theorem boxes_al (w : World) (x y : Value) : Blk ((w.alloc (.cells #[x] 3)).alloc (.cells #[y] 54)) w.heap.size 3 #[x]
    ∧ Blk ((w.alloc (.cells #[x] 3)).alloc (.cells #[y] 54)) (w.heap.size + 1) 54 #[y]
    ∧ Below w.heap.size w ((w.alloc (.cells #[x] 3)).alloc (.cells #[y] 54)) := by
  have B2 := (Blk.new w 3 #[x]).alloc (.cells #[y] 54)
  have B3 := Blk.new (w.alloc (.cells #[x] 3)) 54 #[y]
  simp only [World.size_alloc] at B3
  exact ⟨B2, B3, ((alloc1 w _).alloc (by simp) _)⟩
set_option maxRecDepth 100000 in
set_option maxHeartbeats 8000000 in
theorem all1_any (A : Option Addr) (m c : Nat) (xs : List It) (ys : List Fi) (pout pv : Nat) (w : World) (ha : Fl w A m xs ys) (hy : DocFl ys) (hout : Blk w pout 116 #[.slice none 0 0]) (hlow : 0 < m → Low pout A) :
    Calls Tryz.prog 113 #[.int .i64 0, .slice A m c, .pointer (some ⟨pout, 0, none⟩), .pointer (some ⟨pv, 0, none⟩)] w (AlPost w pout (bkL ys m)) := by
  have hly := ha.ly
  have hm : m ≤ 1000000 := by have := hy.fw.nf.ok.len; omega
  have hbl := bkL_len ys m
  have HPK := Lib.hid (pkL_all ys m)
  have HST := Lib.hid (fun q W (hW : Below w.heap.size w W) (hq : Blk W q 54 #[.slice A m c]) => blocks_stops 7 q pout A m c xs ys W hm (fun k hk => hy.fw.one k (by omega)) (fun k hk => hy.kd k (by omega)) (fun k hk => by obtain ⟨s, e, _⟩ := ha.f k hk; exact ⟨s, e⟩) hly hy.last (ha.i.below hW) hlow (by have := hout.lt; have := hW.size; omega) (hq.cell 0 rfl))
  have cB := Lib.hid (fun W => blocks_any A m c W)
  have hf : ∀ k, k < m → ∃ s : SV, gIt xs k = itF (gFi ys k) s := fun k hk => by obtain ⟨s, e, _⟩ := ha.f k hk; exact ⟨s, e⟩
  have HF := Lib.hid (fun k (hk : k < m) => And.intro (hf k hk) (And.intro (hy.fw.one k (by omega)) (hy.kd k (by omega))))
  have HIT := Lib.hid ha.i
  have HLW := Lib.hid (show 0 < m → ∀ ad, A = some ad → ad.block ≠ pout from fun h0 ad e => by have : ad.block < pout := hlow h0 ad e; omega)
  have HX := Lib.hid (boxes_al w (.int .i64 0) (.slice A m c))
  generalize bkL ys m = bs at *
  clear hf ha hy hly
  refine (callsIn_wide (n := 8)).1 ?_
  refine callsIn_of_wp_marks Tryz.func113 rfl trivial ?_ rfl
  simp only [Tryz.ntmps113, List.size_toArray, List.length_cons, List.length_nil, Nat.reduceAdd, Nat.reduceSub, Array.replicate_succ, Array.replicate_zero, List.push_toArray, List.append_toArray, List.nil_append, List.cons_append]
  gi_upto_region 0 with fail
  gi_cut [4, 5] from 85 (fun v4 v5 wx => ∃ p4 p5, v4 = .pointer (some ⟨p4, 0, none⟩) ∧ v5 = .pointer (some ⟨p5, 0, none⟩) ∧ Blk wx p4 3 #[.int .i64 0] ∧ Blk wx p5 54 #[.slice A m c] ∧ Below w.heap.size w wx)
  case first =>
    gi_wp2
    gi_meet
    case rel => exact ⟨_, _, rfl, rfl, HX.out.1, HX.out.2.1, HX.out.2.2⟩
  case rest =>
  obtain ⟨p4, p5, rfl, rfl, B4, B5, hbw⟩ := hcut
  clear HX
  have q5 := B5.cell 0 rfl
  gi_wp2_with (refine ⟨trivial, ?_⟩; gi_at_call 114; refine (callsIn_wide.2 (cB.out _)).mono ?_; rintro e w4 HQ; obtain ⟨u1, rfl, N1, hu1, hb4⟩ := HQ)
  have hbx := below_trans' hbw hbw.size hb4
  have hpo := hout.lt
  have hsz := hbx.size
  have hI0 : AlI w w4.heap.size p4 p5 pout A m c [] w4 := ⟨B4.below hb4, B5.below hb4, (B4.below hb4).lt, (B5.below hb4).lt, by omega, ⟨hbx.os, hbx.tape, hbx.output, hbx.size, fun k hk _ => hbx.block k hk⟩, hbx.size, Nat.le_refl _, none, 0, hout.below hbx, Own.nil_ _ _ _ _ _⟩
  have hST := HST.out u1 w4 hbx N1
  clear cB B4 B5 q5 hbw hb4 hu1 HST hout
  refine wpIn_rangeFunc_T rfl (by omega) (gf := 140) (lb := #[.pointer (some ⟨u1, 0, none⟩)]) rfl trivial (enters_of Tryz.func140 (by kernel_rfl) rfl)
    hST KpB.trans_ (KpB.put_ (by omega)) (Below.refl _ _) (fun _ => rfl)
    (fun pre W => AlI w w4.heap.size p4 p5 pout A m c (pkL bs pre) W) (fun _ _ _ => False) (fun pre X Y row h hg hr => AlI.keep h hg hr) (fun _ _ _ _ _ h _ _ => h)
    hI0
    (fun x a' W => ∃ p6, w4.heap.size ≤ p6 ∧ Blk W p6 126 (bkC4 (gBk bs x)).toArray ∧ a' = { tmps := #[.int .i64 0, .slice A m c, .pointer (some ⟨pout, 0, none⟩), .pointer (some ⟨pv, 0, none⟩), .pointer (some ⟨p4, 0, none⟩), .pointer (some ⟨p5, 0, none⟩), .pointer (some ⟨p6, 0, none⟩), undef, undef, undef, undef, undef, undef, undef, undef, .slice A m c, .func (.func 140) #[] #[.pointer (some ⟨u1, 0, none⟩)], .agg (bkC4 (gBk bs x)).toArray, undef, undef, undef, undef, undef, undef, undef, undef, undef, undef, undef, undef, undef, undef, undef, undef, undef, undef, undef, undef, undef, undef, undef, undef, undef, undef, undef, undef, undef, undef, undef, undef, undef, undef, undef, undef, undef, undef, undef, undef, undef, undef, undef, undef, undef, undef, undef, undef, undef, undef, undef, undef, undef, undef, undef, undef, undef, undef, undef, undef, undef, undef, undef, undef, undef, undef, undef], defers := [] })
    (fun x a' => fun _ X Y row h hg hr => by
      obtain ⟨p6, h0, h1, h2⟩ := h
      exact ⟨p6, h0, h1.keep hg (rowT hr h1 rfl), h2⟩) ?assign ?body ?done ?stop
  case assign =>
    intro l pre x W K hI hK
    obtain ⟨⟨bk, b1, b2, bm⟩, hbk⟩ : ∃ b, gBk bs x = b := ⟨_, rfl⟩
    rw [hbk] at hK ⊢
    rw [show (bkC4 ⟨bk, b1, b2, bm⟩).toArray = #[.int .i64 bk, .int .i64 b1, .int .i64 b2, .bool bm] from rfl] at hK ⊢
    have B5 := Blk.new W 126 #[.int .i64 bk, .int .i64 b1, .int .i64 b2, .bool bm]
    have hb5 := alloc1 W (.cells #[.int .i64 bk, .int .i64 b1, .int .i64 b2, .bool bm] 126)
    have HK := Lib.hid (fun a' => hK a' _ ((others_below hb5).from w4.heap.size) (KpB.of_below hb5 (by have := hI.sB; omega)) (hI.below hb5))
    have hsB := hI.sB
    clear hK hb5
    gi_wp2
    exact HK.out _ ⟨_, hsB, B5, rfl⟩
  case body =>
    rintro l pre x a' W hl _ hI ⟨p6, hp6, B6, rfl⟩ hlt
    have hpl := pkL_len bs pre
    have HY := Lib.hid (fun h => pkL_yes (bs := bs) (pre := pre) (x := x) h)
    have HN := Lib.hid (fun h => pkL_no (bs := bs) (pre := pre) (x := x) h)
    have FIN := Lib.hid (show ∀ v, KeepsFrom w4.heap.size W v → KpB pout W v → AlI w w4.heap.size p4 p5 pout A m c (pkL bs (pre ++ [x])) v → ownPostG w4.heap.size (KpB pout) (fun pre W => AlI w w4.heap.size p4 p5 pout A m c (pkL bs pre) W) (fun _ _ _ => False) (pre ++ [x]) W .normal { tmps := #[], defers := [] } v from fun v h1 h2 h3 => ⟨h1, h2, h3⟩)
    generalize pkL bs (pre ++ [x]) = zs2 at *
    generalize pkL bs pre = zs at *
    generalize gBk bs x = b at *
    obtain ⟨bk, b1, b2, bm⟩ := b
    have B6 : Blk W p6 126 #[.int .i64 bk, .int .i64 b1, .int .i64 b2, .bool bm] := B6
    have k0 := B6.cell 0 rfl
    have k1 := B6.cell 1 rfl
    have k2 := B6.cell 2 rfl
    have k3 := B6.cell 3 rfl
    have hsB := hI.sB
    by_cases hk1 : bk = 1
    · have HE := Lib.hid (HY.out hk1)
      subst hk1
      obtain ⟨A1, c1, h1, h2⟩ := hI.o
      have q4 := hI.b4.cell 0 rfl
      have cp := h1.cell 0 rfl
      gi_upto_region 4 with fail
      refine wpIn_region_plain l _ (by kernel_rfl) ?_
      go_wp2_with (at_builtin; refine wpList_push elemPl rfl (.tmp 21) (.tmp 25) rfl rfl _ rfl (h2.alloc _) ⟨1, b1, b2, bm⟩ _ rfl rfl (plC_one _) rfl ⟨by omega, by unfold maxLen; omega⟩ (Nat.le_trans hsB (by simp)) ?_; intro A3 c3 w5 ho hg ha; have x6 := (h1.alloc (.cells (plC ⟨1, b1, b2, bm⟩).toArray 128)).keep hg (fun e => h2.ne_blk h1 (by decide) e); have f6 := x6.frozen 0; have c6 := x6.cell 0 rfl)
      obtain ⟨GI, K5, O5, C6⟩ := hI.push ⟨1, b1, b2, bm⟩ h1 h2 ho hg
      have C6 := C6 p6 _ B6
      rw [← HE.out] at GI
      clear ho hg ha x6 f6 c6 h1 h2 q4 cp hI B6 k0 k1 k2 k3
      refine ⟨rfl, ?_⟩
      generalize w5.setCell ⟨pout, 0, none⟩ (.slice A3 (zs.length + 1) c3) = W5 at *
      have q5 := GI.b5.cell 0 rfl
      gi_wp2
      gi_loopw [7, 29] (fun va vi wr => ∃ i : Nat, va = .int .i64 i ∧ vi = .int .i64 i ∧ i ≤ m ∧ Below W5.heap.size W5 wr) (fun _ vi _ => m - (intOf vi).toNat)
      case atStart => exact ⟨0, rfl, rfl, Nat.zero_le _, Below.refl _ _⟩
      case round =>
        obtain ⟨i, rfl, rfl, hi, hbr⟩ := hrel
        clear q5
        by_cases hlt2 : i < m
        · obtain ⟨⟨s, e2⟩, hon, hkk⟩ := HF.out i hlt2
          have hII := (HIT.out.keepRow GI.g HLW.out).below hbr
          obtain ⟨g, o, e, hgl, hr⟩ := hII.at_ itZ hlt2
          rw [show xs.getD i itZ = gIt xs i from rfl, e2, fiL_it] at hr
          subst e
          obtain ⟨BX, hBx⟩ := boxed_it wr (itF (gFi ys i) s)
          have NZ := newZ wr
          have hone1 : (fiL (gFi ys i) s).toArray.all (·.oneCell') = true := itA_one (itF (gFi ys i) s)
          rw [fiA_it] at BX hBx
          have hsz0 : (Tryz.prog.info? 102).map (·.size) = some (fiL (gFi ys i) s).length := size_it
          have cS := Lib.hid (fun W => size_any (gFi ys i) s W hon)
          generalize gFi ys i = y at *
          have D6 := (C6.below hbr).below hBx
          have hbr2 := below_trans' hbr hbr.size hBx
          clear e2 hII
          gi_upto_region 9 with (first | (refine wlF_load rfl 102 _ rfl g (o + i * 11) rfl (fiL y s) _ hr Tryz.underlying102 rfl hsz0 ?_) | (refine wlF_store rfl 102 _ _ rfl wr.heap.size (fiL y s).toArray rfl rfl 102 _ NZ (by kernel_rfl) rfl hone1 ?_))
          show Code.wpIn _ _ _ _ _ _ ((wr.alloc (.cells itZA 102)).setRow wr.heap.size (fiL y s).toArray)
          generalize (wr.alloc (.cells itZA 102)).setRow wr.heap.size (fiL y s).toArray = W7 at *
          generalize wr.heap.size = p9 at *
          have r9 : W7.rangeAt p9 0 (fiL y s) := Blk.rng BX
          clear hr NZ hone1 hBx hbr
          gi_upto_region 10 with (first | (refine ⟨trivial, ?_⟩; gi_at_call 115; refine (CallsIn.inRound l (callsIn_wide.2 (cS.out _))).mono ?_; rintro e W8 ⟨rfl, hb8⟩) | (refine wlF_load rfl 102 _ rfl p9 0 rfl (fiL y s) _ r9 Tryz.underlying102 rfl hsz0 ?_))
          have X8 := BX.below hb8
          have E6 := D6.below hb8
          have hbr3 := below_trans' hbr2 hbr2.size hb8
          have j1 := E6.cell 1 rfl
          have j2 := E6.cell 2 rfl
          have q0 : W8.cell? ⟨p9, 0, none⟩ = some (.int .i64 y.kind) := X8.cell 0 rfl
          have h6 : (y.kind == 6) = false := beq_eq_false_iff_ne.2 (by omega)
          have h7 : (y.kind == 7) = false := beq_eq_false_iff_ne.2 (by omega)
          have hw1 : IntKind.i64.wrap ((i : Int) + 1) = (i : Int) + 1 := IntWalk.i64_in _ (by omega)
          generalize y.kind = kd at *
          clear BX D6 r9 hb8 hbr2 cS hon hkk X8 E6
          gi_wp2
          all_goals
            go_roundw
            case rel => exact ⟨i + 1, by simp, by simp, by omega, hbr3⟩
            case measure => rw [intOf, intOf]; omega
        · have : i = m := by omega
          subst this
          have FF := Lib.hid (FIN.out wr ((O5.trans (others_below hbr)).from _) (K5.trans_ (KpB.of_below hbr (by have := GI.po; have := GI.sB; omega))) (GI.below hbr))
          gi_wp2
          exact FF.out
    · have HE := Lib.hid (HN.out hk1)
      have hkf : (bk == 1) = false := beq_eq_false_iff_ne.2 hk1
      have GI := hI
      rw [← HE.out] at GI
      have K5 : KpB pout W W := KpB.of_below (Below.refl _ _) (by have := hI.po; omega)
      have O5 := KeepsOthers.refl W
      have C6 := B6
      clear B6 k1 k2 k3 hI
      gi_upto_region 5 with fail
      clear k0 hkf
      obtain ⟨W5, hW5⟩ : ∃ W5, W5 = W := ⟨_, rfl⟩
      rw [← hW5] at GI C6 ⊢
      have K5 : KpB pout W W5 := by rw [hW5]; exact K5
      have O5 : KeepsOthers W W5 := by rw [hW5]; exact O5
      clear hW5
      have q5 := GI.b5.cell 0 rfl
      gi_wp2
      gi_loopw [7, 29] (fun va vi wr => ∃ i : Nat, va = .int .i64 i ∧ vi = .int .i64 i ∧ i ≤ m ∧ Below W5.heap.size W5 wr) (fun _ vi _ => m - (intOf vi).toNat)
      case atStart => exact ⟨0, rfl, rfl, Nat.zero_le _, Below.refl _ _⟩
      case round =>
        obtain ⟨i, rfl, rfl, hi, hbr⟩ := hrel
        clear q5
        by_cases hlt2 : i < m
        · obtain ⟨⟨s, e2⟩, hon, hkk⟩ := HF.out i hlt2
          have hII := (HIT.out.keepRow GI.g HLW.out).below hbr
          obtain ⟨g, o, e, hgl, hr⟩ := hII.at_ itZ hlt2
          rw [show xs.getD i itZ = gIt xs i from rfl, e2, fiL_it] at hr
          subst e
          obtain ⟨BX, hBx⟩ := boxed_it wr (itF (gFi ys i) s)
          have NZ := newZ wr
          have hone1 : (fiL (gFi ys i) s).toArray.all (·.oneCell') = true := itA_one (itF (gFi ys i) s)
          rw [fiA_it] at BX hBx
          have hsz0 : (Tryz.prog.info? 102).map (·.size) = some (fiL (gFi ys i) s).length := size_it
          have cS := Lib.hid (fun W => size_any (gFi ys i) s W hon)
          generalize gFi ys i = y at *
          have D6 := (C6.below hbr).below hBx
          have hbr2 := below_trans' hbr hbr.size hBx
          clear e2 hII
          gi_upto_region 9 with (first | (refine wlF_load rfl 102 _ rfl g (o + i * 11) rfl (fiL y s) _ hr Tryz.underlying102 rfl hsz0 ?_) | (refine wlF_store rfl 102 _ _ rfl wr.heap.size (fiL y s).toArray rfl rfl 102 _ NZ (by kernel_rfl) rfl hone1 ?_))
          show Code.wpIn _ _ _ _ _ _ ((wr.alloc (.cells itZA 102)).setRow wr.heap.size (fiL y s).toArray)
          generalize (wr.alloc (.cells itZA 102)).setRow wr.heap.size (fiL y s).toArray = W7 at *
          generalize wr.heap.size = p9 at *
          have r9 : W7.rangeAt p9 0 (fiL y s) := Blk.rng BX
          clear hr NZ hone1 hBx hbr
          gi_upto_region 10 with (first | (refine ⟨trivial, ?_⟩; gi_at_call 115; refine (CallsIn.inRound l (callsIn_wide.2 (cS.out _))).mono ?_; rintro e W8 ⟨rfl, hb8⟩) | (refine wlF_load rfl 102 _ rfl p9 0 rfl (fiL y s) _ r9 Tryz.underlying102 rfl hsz0 ?_))
          have X8 := BX.below hb8
          have E6 := D6.below hb8
          have hbr3 := below_trans' hbr2 hbr2.size hb8
          have j1 := E6.cell 1 rfl
          have j2 := E6.cell 2 rfl
          have q0 : W8.cell? ⟨p9, 0, none⟩ = some (.int .i64 y.kind) := X8.cell 0 rfl
          have h6 : (y.kind == 6) = false := beq_eq_false_iff_ne.2 (by omega)
          have h7 : (y.kind == 7) = false := beq_eq_false_iff_ne.2 (by omega)
          have hw1 : IntKind.i64.wrap ((i : Int) + 1) = (i : Int) + 1 := IntWalk.i64_in _ (by omega)
          generalize y.kind = kd at *
          clear BX D6 r9 hb8 hbr2 cS hon hkk X8 E6
          gi_wp2
          all_goals
            go_roundw
            case rel => exact ⟨i + 1, by simp, by simp, by omega, hbr3⟩
            case measure => rw [intOf, intOf]; omega
        · have : i = m := by omega
          subst this
          have FF := Lib.hid (FIN.out wr ((O5.trans (others_below hbr)).from _) (K5.trans_ (KpB.of_below hbr (by have := GI.po; have := GI.sB; omega))) (GI.below hbr))
          gi_wp2
          exact FF.out
  case done =>
    rintro D zs W hD rfl hI hK
    rw [HPK.out] at hI
    have hr : ∀ r, some D = some r → w4.heap.size ≤ r ∧ ((∃ o : Obj, W.heap[r]? = some o ∧ o.isCells = false) ∨ ∃ cs t fr, W.heap[r]? = some (.cells cs t fr) ∧ TB t = true) := fun r e => by cases e; exact ⟨hD, .inl ⟨_, hK, rfl⟩⟩
    have hI2 := AlI.keep hI (grownBy_putObj' W D (.deferred none)) hr
    obtain ⟨A1, c1, h1, h2⟩ := hI2.o
    have hE := Lib.hid (And.intro h1 (And.intro (h2.base hI2.lB) hI2.g))
    clear hI hI2 h1 h2 hr
    gi_wp2
    refine ⟨by simp, .inl ⟨_, _, rfl, run_takeDeferred hK, ?_⟩⟩
    exact ⟨_, results_none rfl _ _ _, _, A1, c1, rfl, hE.out.1, hE.out.2.1, hE.out.2.2⟩
  case stop =>
    rintro D c pre W _ _ h _
    exact h.elim
end Go.Proofs.YthbodpjkckminaaGreatDoor

namespace Go.Proofs.YthbodpjkckminaaGreatDoor
open Go.RowKit

def PaPost (w : World) (bs : List Bk) (e : Ending) (w' : World) : Prop := ∃ (A' : Option Addr) (c' : Nat), e = .returned (.slice A' bs.length c') ∧ Own w' w.heap.size 128 5 plC A' bs.length c' bs ∧ Below w.heap.size w w'
theorem boxes_pa (w : World) (D : Array Value) (x y : Value) : Blk (((w.alloc (.cells D 63)).alloc (.cells #[x] 116)).alloc (.cells #[y] 214)) w.heap.size 63 D
    ∧ Blk (((w.alloc (.cells D 63)).alloc (.cells #[x] 116)).alloc (.cells #[y] 214)) (w.heap.size + 1) 116 #[x]
    ∧ Blk (((w.alloc (.cells D 63)).alloc (.cells #[x] 116)).alloc (.cells #[y] 214)) (w.heap.size + 1 + 1) 214 #[y]
    ∧ Below w.heap.size w (((w.alloc (.cells D 63)).alloc (.cells #[x] 116)).alloc (.cells #[y] 214)) := by
  have B2 := ((Blk.new w 63 D).alloc (.cells #[x] 116)).alloc (.cells #[y] 214)
  have B3 := (Blk.new (w.alloc (.cells D 63)) 116 #[x]).alloc (.cells #[y] 214)
  have B4 := Blk.new ((w.alloc (.cells D 63)).alloc (.cells #[x] 116)) 214 #[y]
  simp only [World.size_alloc] at B3 B4
  exact ⟨B2, B3, B4, (((alloc1 w _).alloc (by simp) _).alloc (by simp; omega) _)⟩
set_option maxRecDepth 100000 in
set_option maxHeartbeats 8000000 in
theorem pall_any (A : Option Addr) (m c : Nat) (LA : Option Addr) (ln lc : Nat) (xs : List It) (ys : List Fi) (w : World) (ha : Fl w A m xs ys) (hy : DocFl ys) :
    Calls Tryz.prog 85 #[.agg (docL A m c LA ln lc).toArray] w (PaPost w (bkL ys m)) := by
  have cV := Lib.hid (fun W pv (hb : Below w.heap.size w W) pout (hp : w.heap.size ≤ pout) (ho : Blk W pout 116 #[.slice none 0 0]) => all1_any A m c xs ys pout pv W (ha.below hb) hy ho (fun h0 ad e => Nat.lt_of_lt_of_le (ha.i.lowW h0 ad e) hp))
  have HP := Lib.hid (show ∀ e w', (∃ (A' : Option Addr) (c' : Nat), e = .returned (.slice A' (bkL ys m).length c') ∧ Own w' w.heap.size 128 5 plC A' (bkL ys m).length c' (bkL ys m) ∧ Below w.heap.size w w') → PaPost w (bkL ys m) e w' from fun _ _ h => h)
  generalize bkL ys m = bs at *
  clear ha hy
  rw [show (docL A m c LA ln lc).toArray = #[.slice A m c, .slice none 0 0, .int .i64 0, .int .i64 0, .slice none 0 0, .slice none 0 0, .slice none 0 0, .slice none 0 0, .slice LA ln lc, .slice none 0 0, .slice none 0 0] from rfl] at *
  have HX := Lib.hid (boxes_pa w #[.slice A m c, .slice none 0 0, .int .i64 0, .int .i64 0, .slice none 0 0, .slice none 0 0, .slice none 0 0, .slice none 0 0, .slice LA ln lc, .slice none 0 0, .slice none 0 0] (.slice none 0 0) .nilFunc)
  go_enter Tryz.func85, Tryz.ntmps85
  go_upto_region 3 with fail
  obtain ⟨B2, B3, B4, hbw⟩ := HX.out
  clear HX
  generalize ((w.alloc (.cells #[.slice A m c, .slice none 0 0, .int .i64 0, .int .i64 0, .slice none 0 0, .slice none 0 0, .slice none 0 0, .slice none 0 0, .slice LA ln lc, .slice none 0 0, .slice none 0 0] 63)).alloc (.cells #[.slice none 0 0] 116)).alloc (.cells #[.nilFunc] 214) = w1 at *
  obtain ⟨p1, hp1⟩ : ∃ p, p = w.heap.size := ⟨_, rfl⟩
  obtain ⟨p3, hp3⟩ : ∃ p, p = w.heap.size + 1 := ⟨_, rfl⟩
  obtain ⟨p4, hp4⟩ : ∃ p, p = w.heap.size + 1 + 1 := ⟨_, rfl⟩
  rw [← hp4] at B4 ⊢
  rw [← hp3] at B3 ⊢
  rw [← hp1] at B2 ⊢
  have q0 := B2.cell 0 rfl
  have q4 := B4.cell 0 rfl
  have f4 := B4.frozen 0
  have hG := gset w1 p4 0 (.func (.func 113) #[] #[.pointer (some ⟨p3, 0, none⟩), .pointer (some ⟨p4, 0, none⟩)])
  have C2 := B2.keep hG (by simp; omega)
  have C3 := B3.keep hG (by simp; omega)
  have C4 := B4.set_ 0 (.func (.func 113) #[] #[.pointer (some ⟨p3, 0, none⟩), .pointer (some ⟨p4, 0, none⟩)])
  have hb2 := hbw.setCell (p := ⟨p4, 0, none⟩) (show w.heap.size ≤ p4 by omega) (.func (.func 113) #[] #[.pointer (some ⟨p3, 0, none⟩), .pointer (some ⟨p4, 0, none⟩)])
  have hlo : w.heap.size ≤ p3 := by omega
  clear hp1 hp3 hp4
  go_upto_region 4 with fail
  generalize w1.setCell ⟨p4, 0, none⟩ (.func (.func 113) #[] #[.pointer (some ⟨p3, 0, none⟩), .pointer (some ⟨p4, 0, none⟩)]) = w2 at *
  have cV := cV.out w2 p4 hb2 p3 hlo C3
  clear q0 q4 f4 hG B2 B3 B4 hbw
  have q0 := C2.cell 0 rfl
  have q4 := C4.cell 0 rfl
  go_upto_region 5 with (go_at_call 113; refine cV.mono ?_; rintro e w3 ⟨v, A1, c1, rfl, h1, h2, h3⟩)
  have q3 := h1.cell 0 rfl
  have HE := Lib.hid (And.intro (h2.base hb2.size) (show Below w.heap.size w w3 from hb2.grown h3 hb2.size (fun k e => by cases e; exact hlo)))
  clear h1 h2 h3 q0 q4 C2 C3 C4 cV
  go_wp2_with fail
  go_ret
  exact HP.out _ _ ⟨A1, c1, rfl, HE.out.1, HE.out.2⟩
end Go.Proofs.YthbodpjkckminaaGreatDoor
