/- the law's state of a list. the law's sameEntries, of equal entries. -/
import Derived.Test.YthbodpjkckminaaGreatDoorm28
import Derived.Test.YthbodpjkckminaaGreatDoorm21
import Derived.Test.YthbodpjkckminaaGreatDoorm22
import Derived.Test.YthbodpjkckminaaGreatDoorm26
namespace Go.Proofs.YthbodpjkckminaaGreatDoor
open Go.RowKit Go.Sort

/-- a list paragraph that can be numbered. -/
structure ItmOk (es : List LsE) (vs : List (List Lv)) (x : Itm) (L : Nat) : Prop where
  lv : x.level = (L : Int) + 1
  L : L < (lsF es x.list).n
  n9 : (lsF es x.list).n ≤ 9
  cl : clE (lvs es vs x.list) = 0
  ln : (lvs es vs x.list).length = (lsF es x.list).n
  r0 : 0 ≤ x.restart
  r1 : x.restart ≤ 32767
  id : okZ x.list
  nz : x.list ≠ 0
  isin : x.list ∈ idsL es
def ItmsOk (es : List LsE) (vs : List (List Lv)) (l : List Itm) : Prop := ∀ i, i < l.length → ∃ L, ItmOk es vs (gItm l i) L
theorem gItm_at {l : List Itm} {i : Nat} (h : i < l.length) : gItm l i = l[i] := by unfold gItm; rw [List.getD_eq_getElem?_getD, List.getElem?_eq_getElem h]; rfl
theorem itms_ok {w : World} {A : Option Addr} {m : Nat} {xs : List It} {ys : List Fi} {LA : Option Addr} {ln : Nat} {es : List LsE} {vs : List (List Lv)} (hD : DocR w A m xs ys LA ln es vs) : ItmsOk es vs (itmL es ys (pmL ys m)) := fun i hi => by
  rw [gItm_at hi]
  have hm := List.getElem_mem hi
  generalize (itmL es ys (pmL ys m))[i] = x at *
  unfold itmL at hm
  obtain ⟨k, hk, rfl⟩ := List.mem_map.1 hm
  obtain ⟨hk1, hk2⟩ := List.mem_filter.1 hk
  obtain ⟨hk3, hk4⟩ := pmL_mem hk1
  have hp : pid es ys k ≠ 0 := by simpa using hk2
  obtain ⟨L, ls, le, hN⟩ := hD.num hk3 hk4 hp
  have e1 := hN.el
  have e2 := hN.vl
  exact ⟨L, hN.lv, by show L < (lsF es (pid es ys k)).n; rw [e1]; exact hN.L, by show (lsF es (pid es ys k)).n ≤ 9; rw [e1]; exact hN.n9, by show clE (lvs es vs (pid es ys k)) = 0; rw [e2]; exact hN.cl, by show (lvs es vs (pid es ys k)).length = (lsF es (pid es ys k)).n; rw [e1, e2]; exact hN.ln, hN.r0, hN.r1, hN.id, hp, hN.isin⟩
theorem stM_take (es : List LsE) (vs : List (List Lv)) {l : List Itm} {i : Nat} (h : i < l.length) (id : Int) : stM es vs (l.take (i + 1)) id = if (gItm l i).list = id then nxM es vs id (stM es vs (l.take i) id) (gItm l i) else stM es vs (l.take i) id := by
  rw [List.take_succ_eq_append_getElem h, stM_snoc, gItm_at h]
theorem stM_ok {es : List LsE} {vs : List (List Lv)} {l : List Itm} (hok : ItmsOk es vs l) (id : Int) : ∀ i, i ≤ l.length → CnOk (32767 + (i : Int)) (stM es vs (l.take i) id)
  | 0, _ => cnZ_ok (by omega)
  | i + 1, hi => by
    have ih := stM_ok hok id i (by omega)
    rw [stM_take es vs (by omega) id]
    obtain ⟨L, h⟩ := hok i (by omega)
    by_cases e : (gItm l i).list = id
    · rw [if_pos e]
      unfold nxM
      rw [← e]
      rw [← e] at ih
      have hL := h.L
      have hlv := h.lv
      have := next_ok (n := (lsF es (gItm l i).list).n) (L := ((gItm l i).level - 1).toNat) (r := (gItm l i).restart) (lvok_of h.ln h.cl) (by omega) h.r0 h.r1 (show (32767 : Int) ≤ 32767 + (i : Int) by omega) ih
      rw [show 32767 + ((i + 1 : Nat) : Int) = 32767 + (i : Int) + 1 by omega]
      exact this
    · rw [if_neg e]
      exact fun j => ⟨(ih j).1, by have := (ih j).2; omega⟩
theorem Sl.itm {w : World} {A : Option Addr} {n : Nat} {l : List Itm} (h : Sl w 5 itmC A n l) {k : Nat} (hk : k < n) :
    ∃ ad, A = some ad ∧ ad.block < w.heap.size ∧ w.cell? (ad.add (k * 5)) = some (.int .i64 0) ∧ w.cell? ⟨(ad.add (k * 5)).block, (ad.add (k * 5)).off + 1, none⟩ = some (.int .i64 (gItm l k).at_) ∧ w.cell? ⟨(ad.add (k * 5)).block, (ad.add (k * 5)).off + 2, none⟩ = some (.int .i64 (gItm l k).list) ∧ w.cell? ⟨(ad.add (k * 5)).block, (ad.add (k * 5)).off + 3, none⟩ = some (.int .i64 (gItm l k).level)
      ∧ w.cell? ⟨(ad.add (k * 5)).block, (ad.add (k * 5)).off + 4, none⟩ = some (.int .i64 (gItm l k).restart) := by
  obtain ⟨ad, e, hl, h0, hj⟩ := h.fld itmZ hk
  exact ⟨ad, e, hl, h0 _ rfl, hj 1 _ (by omega) rfl, hj 2 _ (by omega) rfl, hj 3 _ (by omega) rfl, hj 4 _ (by omega) rfl⟩
structure StW (w : World) (p3 p6 p7 : Nat) (D : Array Value) (Z : Cn) (v : World) : Prop where
  b3 : Blk v p3 63 D
  b6 : Blk v p6 26 (cnA cnZ)
  b7 : Blk v p7 26 (cnA Z)
  l6 : w.heap.size ≤ p6
  l7 : w.heap.size ≤ p7
  n67 : p6 ≠ p7
  bel : Below w.heap.size w v
theorem StW.below {w v v' : World} {p3 p6 p7 : Nat} {D : Array Value} {Z : Cn} (h : StW w p3 p6 p7 D Z v) (hb : Below v.heap.size v v') : StW w p3 p6 p7 D Z v' :=
  ⟨h.b3.below hb, h.b6.below hb, h.b7.below hb, h.l6, h.l7, h.n67, below_trans' h.bel h.bel.size hb⟩
theorem StW.put {w v : World} {p3 p6 p7 : Nat} {D : Array Value} {Z : Cn} (h : StW w p3 p6 p7 D Z v) (Z' : Cn) : StW w p3 p6 p7 D Z' (v.setCells p7 0 (cnL Z')) := by
  have hg := only_setCells p7 (cnL Z') 0 v
  exact ⟨h.b3.keep hg (h.b7.ne_ty h.b3 (by decide)), h.b6.keep hg (by have := h.n67; simp; omega), Blk.setCells_ (cnL Z') [] (cnL Z) v h.b7 rfl, h.l6, h.l7, h.n67, below_setC h.bel (Nat.le_refl _) h.l7 _⟩
theorem st_new (w : World) (D : Array Value) : StW w w.heap.size (w.heap.size + 1) (w.heap.size + 1 + 1) D cnZ (((w.alloc (.cells D 63)).alloc (.cells (cnA cnZ) 26)).alloc (.cells (cnA cnZ) 26)) := by
  have B2 := ((Blk.new w 63 D).alloc (.cells (cnA cnZ) 26)).alloc (.cells (cnA cnZ) 26)
  have B3 := (Blk.new (w.alloc (.cells D 63)) 26 (cnA cnZ)).alloc (.cells (cnA cnZ) 26)
  have B4 := Blk.new ((w.alloc (.cells D 63)).alloc (.cells (cnA cnZ) 26)) 26 (cnA cnZ)
  simp only [World.size_alloc] at B3 B4
  exact ⟨B2, B3, B4, by omega, by omega, by omega, (((alloc1 w _).alloc (by simp) _).alloc (by simp; omega) _)⟩
set_option maxRecDepth 100000 in
set_option maxHeartbeats 16000000 in
theorem lstate_any (A : Option Addr) (m c : Nat) (LA : Option Addr) (ln lc : Nat) (es : List LsE) (vs : List (List Lv)) (AI : Option Addr) (n cI : Nat) (l : List Itm) (id : Int) (w : World) (hl : LsT w LA ln es vs) (hln : ln ≤ 1000000) (hs : Sl w 5 itmC AI n l) (hn : n ≤ 1000000) (hok : ItmsOk es vs l) (hid : id ∈ idsL es) (h9 : (lsF es id).n ≤ 9) :
    Calls Tryz.prog 89 #[.agg (docL A m c LA ln lc).toArray, .slice AI n cI, .int .i64 id] w fun e w' => e = .returned (.agg (cnA (stM es vs l id))) ∧ Below w.heap.size w w' := by
  have hix : (idsL es).idxOf id < ln := by
    have := List.idxOf_lt_length_iff.2 hid
    rw [idsL_len, hl.l.len] at this
    exact this
  have cFd := Lib.hid (fun W (hb : Below w.heap.size w W) => lfindS_any svZ svZ svZ LA ln lc es id W (hl.below hb).l hln)
  rw [show fdP (idsL es) id = (((idsL es).idxOf id : Nat) : Int) from if_pos hid, show (stL svZ LA ln lc svZ svZ).toArray = #[.slice none 0 0, .slice LA ln lc, .slice none 0 0, .slice none 0 0] from rfl] at cFd
  rw [show (docL A m c LA ln lc).toArray = #[.slice A m c, .slice none 0 0, .int .i64 0, .int .i64 0, .slice none 0 0, .slice none 0 0, .slice none 0 0, .slice none 0 0, .slice LA ln lc, .slice none 0 0, .slice none 0 0] from rfl] at *
  have HX := Lib.hid (st_new w #[.slice A m c, .slice none 0 0, .int .i64 0, .int .i64 0, .slice none 0 0, .slice none 0 0, .slice none 0 0, .slice none 0 0, .slice LA ln lc, .slice none 0 0, .slice none 0 0])
  have HLV := Lib.hid (fun W (hb : Below w.heap.size w W) => (hl.below hb).v _ hix)
  obtain ⟨ad, eA, hadl, v0, v1⟩ := hl.l.ls hix
  have HC := Lib.hid (fun W (hb : Below w.heap.size w W) => And.intro (keepC hb v0) (keepC hb v1))
  have hle : lsF es id = gE es ((idsL es).idxOf id) := rfl
  have hls : lvs es vs id = vs.getD ((idsL es).idxOf id) [] := rfl
  have HS := Lib.hid (fun W (hb : Below w.heap.size w W) => hs.below hb)
  have hlen := hs.len
  have HST := Lib.hid (fun i (hi : i < n) => stM_take es vs (l := l) (i := i) (by rw [hlen]; exact hi) id)
  have HOK := Lib.hid (fun i (hi : i < n) => hok i (by rw [hlen]; exact hi))
  have HCN := Lib.hid (fun i (hi : i ≤ n) => stM_ok hok id i (by rw [hlen]; exact hi))
  have HTN := Lib.hid (show stM es vs (l.take n) id = stM es vs l id by rw [List.take_of_length_le (by rw [hlen]; exact Nat.le_refl _)])
  rw [hle] at h9
  have HLE := Lib.hid hle
  have HLS := Lib.hid hls
  clear v0 v1 hl hs hok hid hlen hle hls
  generalize (idsL es).idxOf id = ix at *
  generalize gE es ix = le at *
  obtain ⟨gid, lA, lN, lC⟩ := le
  simp only at h9 HLV HC
  have hix' : (ix : Int) < ln := by omega
  subst eA
  go_enter Tryz.func89, Tryz.ntmps89
  go_upto_region 1 with fail
  go_cut [7] (fun v7 wx => ∃ p3 p6 p7, w.heap.size = p3 ∧ w.heap.size + 1 = p6 ∧ v7 = .pointer (some ⟨p7, 0, none⟩) ∧ StW w p3 p6 p7 #[.slice A m c, .slice none 0 0, .int .i64 0, .int .i64 0, .slice none 0 0, .slice none 0 0, .slice none 0 0, .slice none 0 0, .slice (some ad) ln lc, .slice none 0 0, .slice none 0 0] cnZ wx)
  case first =>
    go_wp2_with fail
    go_meet
    case rel => exact ⟨_, _, _, rfl, rfl, rfl, HX.out⟩
  case rest =>
  obtain ⟨p3, p6, p7, hp3, hp6, rfl, X0⟩ := hcut
  rw [hp6, hp3]
  clear HX hp3 hp6
  generalize wc = w1 at *
  have HK := Lib.hid (show ∀ W, Below w1.heap.size w1 W → W.cell? ⟨p3, 7, none⟩ = some (.slice none 0 0) ∧ W.cell? ⟨p3, 8, none⟩ = some (.slice (some ad) ln lc) ∧ W.cell? ⟨p3, 9, none⟩ = some (.slice none 0 0) ∧ W.cell? ⟨p3, 10, none⟩ = some (.slice none 0 0) ∧ W.cell? ⟨(ad.add (ix * 2)).block, (ad.add (ix * 2)).off + 1, none⟩ = some (.slice lA lN lC) from fun W hb => ⟨(X0.b3.below hb).cell 7 rfl, (X0.b3.below hb).cell 8 rfl, (X0.b3.below hb).cell 9 rfl, (X0.b3.below hb).cell 10 rfl, (HC.out W (below_trans' X0.bel X0.bel.size hb)).2⟩)
  go_upto_region 2 with fail
  refine wp_region_held_drew (S := fun W => W.cell? ⟨p3, 7, none⟩ = some (.slice none 0 0) ∧ W.cell? ⟨p3, 8, none⟩ = some (.slice (some ad) ln lc) ∧ W.cell? ⟨p3, 9, none⟩ = some (.slice none 0 0) ∧ W.cell? ⟨p3, 10, none⟩ = some (.slice none 0 0) ∧ W.cell? ⟨(ad.add (ix * 2)).block, (ad.add (ix * 2)).off + 1, none⟩ = some (.slice lA lN lC)) (by kernel_rfl) (HK.out w1 (Below.refl _ _)) (fun hHeld => ?_)
  have hwd := bDrew (Below.refl w1.heap.size w1)
  generalize w1.drew = wd at *
  refine hx_take 0 (some 10) _ rfl (by kernel_rfl) (by kernel_rfl) (by kernel_rfl) (fun _ _ _ h => h) rfl (Or.inl ⟨by rfl, fun w hSw => by first | (go_simp; done) | (go_simp; with_reducible rfl) | (go_simp; rfl)⟩) (by assumption) ?_
  try simp only [Act.put, List.setIfInBounds_toArray, List.set_cons_zero, List.set_cons_succ]
  refine hx_take 3 (some 13) _ rfl (by kernel_rfl) (by kernel_rfl) (by kernel_rfl) (fun _ _ _ h => h) rfl (Or.inl ⟨by rfl, fun w hSw => by first | (go_simp; done) | (go_simp; with_reducible rfl) | (go_simp; rfl)⟩) (by assumption) ?_
  try simp only [Act.put, List.setIfInBounds_toArray, List.set_cons_zero, List.set_cons_succ]
  refine hx_take 5 (some 15) _ rfl (by kernel_rfl) (by kernel_rfl) (by kernel_rfl) (fun _ _ _ h => h) rfl (Or.inl ⟨by rfl, fun w hSw => by first | (go_simp; done) | (go_simp; with_reducible rfl) | (go_simp; rfl)⟩) (by assumption) ?_
  try simp only [Act.put, List.setIfInBounds_toArray, List.set_cons_zero, List.set_cons_succ]
  refine hx_take 1 (some 11) _ rfl (by kernel_rfl) (by kernel_rfl) (by kernel_rfl) (fun _ _ _ h => h) rfl (Or.inl ⟨by rfl, fun w hSw => by first | (go_simp; done) | (go_simp; with_reducible rfl) | (go_simp; rfl)⟩) (by assumption) ?_
  try simp only [Act.put, List.setIfInBounds_toArray, List.set_cons_zero, List.set_cons_succ]
  refine hx_take 4 (some 14) (.agg #[.slice none 0 0, .slice (some ad) ln lc, .slice none 0 0, .slice none 0 0]) rfl (by kernel_rfl) (by kernel_rfl) (by kernel_rfl) (fun _ _ _ h => h) rfl (Or.inl ⟨by rfl, fun w hSw => by first | (go_simp; done) | (go_simp; with_reducible rfl) | (go_simp; rfl)⟩) (by assumption) ?_
  try simp only [Act.put, List.setIfInBounds_toArray, List.set_cons_zero, List.set_cons_succ]
  refine hx_take 2 (some 12) _ rfl (by kernel_rfl) (by kernel_rfl) (by kernel_rfl) (fun _ _ _ h => h) rfl (Or.inl ⟨by rfl, fun w hSw => by first | (go_simp; done) | (go_simp; with_reducible rfl) | (go_simp; rfl)⟩) (by assumption) ?_
  try simp only [Act.put, List.setIfInBounds_toArray, List.set_cons_zero, List.set_cons_succ]
  refine hx1 6 (by kernel_rfl) ?_
  refine hx_call 6 (some 16) _ _ (.int .i64 (ix : Nat)) _ rfl (by rfl) rfl (by first | (go_simp; done) | (go_simp; rfl)) (cFd.out wd (below_trans' X0.bel X0.bel.size hwd)) ?_
  rintro w2 hb2
  have hw2 := below_trans' hwd hwd.size hb2
  have hh2 := HK.out w2 hw2
  refine ⟨hh2, ?_⟩
  try simp only [Act.put, List.setIfInBounds_toArray, List.set_cons_zero, List.set_cons_succ]
  refine hx_take 7 (some 17) (.pointer (some (ad.add (ix * 2)))) rfl (by kernel_rfl) (by kernel_rfl) (by kernel_rfl) (fun _ _ _ h => h) rfl (Or.inl ⟨by rfl, fun w hSw => by first | (go_simp; done) | (go_simp; with_reducible rfl) | (go_simp; rfl)⟩) (by assumption) ?_
  try simp only [Act.put, List.setIfInBounds_toArray, List.set_cons_zero, List.set_cons_succ]
  refine hx_take 8 (some 18) _ rfl (by kernel_rfl) (by kernel_rfl) (by kernel_rfl) (fun _ _ _ h => h) rfl (Or.inl ⟨by rfl, fun w hSw => by first | (go_simp; done) | (go_simp; with_reducible rfl) | (go_simp; rfl)⟩) (by assumption) ?_
  try simp only [Act.put, List.setIfInBounds_toArray, List.set_cons_zero, List.set_cons_succ]
  refine hx_take 9 (some 19) (.slice lA lN lC) rfl (by kernel_rfl) (by kernel_rfl) (by kernel_rfl) (fun _ _ _ h => h) rfl (Or.inl ⟨by rfl, fun w hSw => by first | (go_simp; done) | (go_simp; with_reducible rfl) | (go_simp; rfl)⟩) (by assumption) ?_
  try simp only [Act.put, List.setIfInBounds_toArray, List.set_cons_zero, List.set_cons_succ]
  refine hx_take 10 (some 8) _ rfl (by kernel_rfl) (by kernel_rfl) (by kernel_rfl) (fun _ _ _ h => h) rfl (Or.inl ⟨by rfl, fun w hSw => by first | (go_simp; done) | (go_simp; with_reducible rfl) | (go_simp; rfl)⟩) (by assumption) ?_
  try simp only [Act.put, List.setIfInBounds_toArray, List.set_cons_zero, List.set_cons_succ]
  refine wpAnyH_done (by kernel_rfl) ?_ _
  have X2 := X0.below hw2
  clear hh2 hHeld hwd hb2 HK cFd X0 hw2
  go_wp2_with fail
  go_loopw [9] (fun vi wr => ∃ i : Nat, vi = .int .i64 i ∧ i ≤ n ∧ StW w p3 p6 p7 #[.slice A m c, .slice none 0 0, .int .i64 0, .int .i64 0, .slice none 0 0, .slice none 0 0, .slice none 0 0, .slice none 0 0, .slice (some ad) ln lc, .slice none 0 0, .slice none 0 0] (stM es vs (l.take i) id) wr) (fun vi _ => n - (intOf vi).toNat)
  case atStart => exact ⟨0, rfl, Nat.zero_le _, X2⟩
  case round =>
    obtain ⟨i, rfl, hi, X⟩ := hrel
    clear X2
    by_cases hlt : i < n
    · obtain ⟨ad2, eI, hadl2, c0, c1, c2, c3, c4⟩ := (HS.out wr X.bel).itm hlt
      obtain ⟨ad3, eI3, hadl3, _⟩ := (HS.out w (Below.refl _ _)).itm hlt
      rw [eI] at eI3
      cases eI3
      subst eI
      obtain ⟨L, hO⟩ := HOK.out i hlt
      have hst := HST.out i hlt
      have hcn := HCN.out i hi
      have hlt' : (i : Int) < n := by omega
      clear c0 c1
      by_cases he : (gItm l i).list = id
      · rw [if_pos he] at hst
        unfold nxM at hst
        have hOL := hO.L
        have hlv := hO.lv
        have hr0 := hO.r0
        rw [he, HLE.out] at hOL
        rw [HLE.out, HLS.out, hlv, show ((L : Int) + 1 - 1).toNat = L by omega] at hst
        simp only at hst hOL
        rw [hlv] at c3
        rw [he] at c2
        obtain ⟨Z, hZ⟩ : ∃ Z, stM es vs (l.take i) id = Z := ⟨_, rfl⟩
        rw [hZ] at hst hcn X
        have HST1 := Lib.hid hst
        have hbi : (id == id) = true := beq_self_eq_true _
        generalize (gItm l i).restart = rs at *
        clear hO hlv he hst hZ hr0
        have cN := Lib.hid (fun W (hb : Below w.heap.size w W) => lnext_any lA lN lC (vs.getD ix []) Z (32767 + (i : Int)) L rs W (HLV.out W hb) h9 hOL ⟨(hcn L).1, (hcn L).2⟩ (by omega))
        rw [cnA_L Z] at cN
        obtain ⟨Z2, hZ2⟩ : ∃ Z2, nextC (vs.getD ix []) lN Z L rs = Z2 := ⟨_, rfl⟩
        rw [hZ2] at cN HST1
        clear hZ2 hcn
        go_upto_region 7 with fail
        have HI := Lib.hid (show ∀ W, Below wr.heap.size wr W → W.cell? ⟨(ad2.add (i * 5)).block, (ad2.add (i * 5)).off + 3, none⟩ = some (.int .i64 ((L : Int) + 1)) ∧ W.cell? ⟨(ad2.add (i * 5)).block, (ad2.add (i * 5)).off + 4, none⟩ = some (.int .i64 rs) from fun W hb => ⟨keepC hb c3, keepC hb c4⟩)
        refine wp_region_held_drew (S := fun W => W.cell? ⟨(ad2.add (i * 5)).block, (ad2.add (i * 5)).off + 3, none⟩ = some (.int .i64 ((L : Int) + 1)) ∧ W.cell? ⟨(ad2.add (i * 5)).block, (ad2.add (i * 5)).off + 4, none⟩ = some (.int .i64 rs)) (by kernel_rfl) ⟨c3, c4⟩ (fun hHeld => ?_)
        have hwd := bDrew (Below.refl wr.heap.size wr)
        have Xd := X.below hwd
        clear X
        generalize wr.drew = wd at *
        have zR : (Tryz.prog.info? 26).map (·.size) = some (cnL Z).length := by kernel_rfl
        have gR : wd.rangeAt p7 0 (cnL Z) := Blk.rng (l := cnL Z) Xd.b7
        refine hx_take 0 (some 33) _ rfl (by kernel_rfl) (by kernel_rfl) (by kernel_rfl) (fun _ _ _ h => h) rfl (Or.inl ⟨by rfl, fun w hSw => by first | (go_simp; done) | (go_simp; with_reducible rfl) | (go_simp; rfl)⟩) (by assumption) ?_
        try simp only [Act.put, List.setIfInBounds_toArray, List.set_cons_zero, List.set_cons_succ]
        refine hx_take 2 (some 35) _ rfl (by kernel_rfl) (by kernel_rfl) (by kernel_rfl) (fun _ _ _ h => h) rfl (Or.inl ⟨by rfl, fun w hSw => by first | (go_simp; done) | (go_simp; with_reducible rfl) | (go_simp; rfl)⟩) (by assumption) ?_
        try simp only [Act.put, List.setIfInBounds_toArray, List.set_cons_zero, List.set_cons_succ]
        refine hx_take 3 (some 36) _ rfl (by kernel_rfl) (by kernel_rfl) (by kernel_rfl) (fun _ _ _ h => h) rfl (Or.inl ⟨by rfl, fun w hSw => by first | (go_simp; done) | (go_simp; with_reducible rfl) | (go_simp; rfl)⟩) (by assumption) ?_
        try simp only [Act.put, List.setIfInBounds_toArray, List.set_cons_zero, List.set_cons_succ]
        refine hx_take 7 (some 40) _ rfl (by kernel_rfl) (by kernel_rfl) (by kernel_rfl) (fun _ _ _ h => h) rfl (Or.inl ⟨by rfl, fun w hSw => by first | (go_simp; done) | (go_simp; with_reducible rfl) | (go_simp; rfl)⟩) (by assumption) ?_
        try simp only [Act.put, List.setIfInBounds_toArray, List.set_cons_zero, List.set_cons_succ]
        refine hx_take 8 (some 41) _ rfl (by kernel_rfl) (by kernel_rfl) (by kernel_rfl) (fun _ _ _ h => h) rfl (Or.inl ⟨by rfl, fun w hSw => by first | (go_simp; done) | (go_simp; with_reducible rfl) | (go_simp; rfl)⟩) (by assumption) ?_
        try simp only [Act.put, List.setIfInBounds_toArray, List.set_cons_zero, List.set_cons_succ]
        refine hx_take 4 (some 37) (.pointer (some (ad2.add (i * 5)))) rfl (by kernel_rfl) (by kernel_rfl) (by kernel_rfl) (fun _ _ _ h => h) rfl (Or.inl ⟨by rfl, fun w hSw => by first | (go_simp; done) | (go_simp; with_reducible rfl) | (go_simp; rfl)⟩) (by assumption) ?_
        try simp only [Act.put, List.setIfInBounds_toArray, List.set_cons_zero, List.set_cons_succ]
        refine hx_take 9 (some 42) (.pointer (some (ad2.add (i * 5)))) rfl (by kernel_rfl) (by kernel_rfl) (by kernel_rfl) (fun _ _ _ h => h) rfl (Or.inl ⟨by rfl, fun w hSw => by first | (go_simp; done) | (go_simp; with_reducible rfl) | (go_simp; rfl)⟩) (by assumption) ?_
        try simp only [Act.put, List.setIfInBounds_toArray, List.set_cons_zero, List.set_cons_succ]
        refine hx_take 5 (some 38) _ rfl (by kernel_rfl) (by kernel_rfl) (by kernel_rfl) (fun _ _ _ h => h) rfl (Or.inl ⟨by rfl, fun w hSw => by first | (go_simp; done) | (go_simp; with_reducible rfl) | (go_simp; rfl)⟩) (by assumption) ?_
        try simp only [Act.put, List.setIfInBounds_toArray, List.set_cons_zero, List.set_cons_succ]
        refine hx_take 10 (some 43) _ rfl (by kernel_rfl) (by kernel_rfl) (by kernel_rfl) (fun _ _ _ h => h) rfl (Or.inl ⟨by rfl, fun w hSw => by first | (go_simp; done) | (go_simp; with_reducible rfl) | (go_simp; rfl)⟩) (by assumption) ?_
        try simp only [Act.put, List.setIfInBounds_toArray, List.set_cons_zero, List.set_cons_succ]
        refine hx_take 6 (some 39) (.int .i64 ((L : Int) + 1)) rfl (by kernel_rfl) (by kernel_rfl) (by kernel_rfl) (fun _ _ _ h => h) rfl (Or.inl ⟨by rfl, fun w hSw => by first | (go_simp; done) | (go_simp; with_reducible rfl) | (go_simp; rfl)⟩) (by assumption) ?_
        try simp only [Act.put, List.setIfInBounds_toArray, List.set_cons_zero, List.set_cons_succ]
        refine hx_take 11 (some 44) (.int .i64 rs) rfl (by kernel_rfl) (by kernel_rfl) (by kernel_rfl) (fun _ _ _ h => h) rfl (Or.inl ⟨by rfl, fun w hSw => by first | (go_simp; done) | (go_simp; with_reducible rfl) | (go_simp; rfl)⟩) (by assumption) ?_
        try simp only [Act.put, List.setIfInBounds_toArray, List.set_cons_zero, List.set_cons_succ]
        refine hx1 1 (by kernel_rfl) ?_
        refine hx_loadQ 1 (some 34) _ _ p7 0 (cnL Z) _ rfl (by rfl) rfl rfl rfl gR Tryz.underlying26 rfl zR hHeld ?_
        try simp only [Act.put, List.setIfInBounds_toArray, List.set_cons_zero, List.set_cons_succ]
        refine hx1 12 (by kernel_rfl) ?_
        refine hx_call 12 (some 45) _ _ (.agg (cnA Z2)) _ rfl (by rfl) rfl (by go_simp) (cN.out wd Xd.bel) ?_
        rintro w4 hb4
        have h4 := HI.out w4 (below_trans' hwd hwd.size hb4)
        refine ⟨h4, ?_⟩
        try simp only [Act.put, List.setIfInBounds_toArray, List.set_cons_zero, List.set_cons_succ]
        have X4 := Xd.below hb4
        have X5 := X4.put Z2
        have h5 : (w4.setCells p7 0 (cnL Z2)).cell? ⟨(ad2.add (i * 5)).block, (ad2.add (i * 5)).off + 3, none⟩ = some (.int .i64 ((L : Int) + 1)) ∧ (w4.setCells p7 0 (cnL Z2)).cell? ⟨(ad2.add (i * 5)).block, (ad2.add (i * 5)).off + 4, none⟩ = some (.int .i64 rs) := ⟨cell_setCells h4.1 (by rw [block_add]; have := X4.l7; omega), cell_setCells h4.2 (by show (ad2.add (i * 5)).block ≠ p7; rw [block_add]; have := X4.l7; omega)⟩
        refine hx1 13 (by kernel_rfl) ?_
        refine hx_storeQ 13 26 (.tmp 7) (.tmp 45) p7 0 (cnL Z2) rfl (by rfl) rfl rfl rfl rfl (X4.b7.thereM (q := 0) (n := 18) (by simp [cnA_size])) (by kernel_rfl) (cnL_one Z2) h5 ?_
        refine wpAnyH_done (by kernel_rfl) ?_ _
        clear h4 h5 X4 Xd hb4 hwd hHeld gR
        go_wp2_with fail
        go_roundw
        case rel => exact ⟨i + 1, by simp, hlt, by rw [HST1.out]; exact X5⟩
        case measure => rw [intOf, intOf]; omega
      · rw [if_neg he] at hst
        have HST1 := Lib.hid hst
        have hbi : ((gItm l i).list == id) = false := beq_eq_false_iff_ne.2 he
        clear hst he hO hcn c3 c4
        generalize (gItm l i).list = li at *
        go_wp2_with fail
        go_roundw
        case rel => exact ⟨i + 1, by simp, hlt, by rw [HST1.out]; exact X⟩
        case measure => rw [intOf, intOf]; omega
    · have hin : i = n := by omega
      subst hin
      rw [HTN.out] at X
      obtain ⟨Z, hZ⟩ : ∃ Z, stM es vs l id = Z := ⟨_, rfl⟩
      rw [hZ] at X
      have HZ := Lib.hid hZ
      clear hZ
      have hni : ¬ (i : Int) < i := by omega
      have B7 := X.b7
      have B6 := X.b6
      have HE := Lib.hid (below_setRow X.bel X.l6 (cnA Z))
      unfold Blk at B6 B7
      clear X HCN HST HOK
      go_wp2_with (first | (refine wpList_load_row rfl 26 _ rfl p7 rfl 26 _ (0, 0) _ B7 Tryz.underlying26 rfl (by kernel_rfl) ?_) | (refine wpList_store_row rfl 26 _ _ rfl p6 _ rfl rfl 26 _ B6 (by kernel_rfl) rfl (cnA_one Z) ?_))
      refine bodyPost_ret (results_cell_row rfl _ _ p6 26 _ (0, 0) _ rfl (setRow_heap wr p6 _ _ _ _ B6) Tryz.underlying26 rfl (by kernel_rfl)) rfl ?_
      exact ⟨by rw [HZ.out], HE.out⟩
end Go.Proofs.YthbodpjkckminaaGreatDoor

namespace Go.Proofs.YthbodpjkckminaaGreatDoor
open Go.RowKit

theorem stoodEn : Tryz.prog.stoodInHeld 73 = false := by kernel_rfl
theorem fieldsEn : Tryz.prog.underlying 73 = some (.struct (Tryz.prog.fieldsOf 73)) := by kernel_rfl
theorem fieldsEnL : (Tryz.prog.fieldsOf 73).toList.map (fun f => (f.name, f.type, f.offset)) = [("At", 71, 0), ("List", 3, 2), ("Level", 3, 3), ("Number", 3, 4), ("Label", 9, 5)] := by kernel_rfl
theorem stoodPs : Tryz.prog.stoodInHeld 71 = false := by kernel_rfl
theorem fieldsPs : Tryz.prog.underlying 71 = some (.struct (Tryz.prog.fieldsOf 71)) := by kernel_rfl
theorem fieldsPsL : (Tryz.prog.fieldsOf 71).toList.map (fun f => (f.name, f.type, f.offset)) = [("Flow", 3, 0), ("At", 3, 1)] := by kernel_rfl
theorem equalPs (d : Nat) (a b : Int) (w : World) : (Op.equalIn (d + 2) 71 (.agg #[.int .i64 a, .int .i64 b]) (.agg #[.int .i64 a, .int .i64 b])).run Tryz.prog w = .ok true w := by
  rw [run_equalIn_struct w (d + 1) 71 _ _ fieldsPs stoodPs, eqFields_map _ _ _ _ _ fieldsPsL]
  have u3 := Tryz.underlying3
  simp only [List.foldr_cons, List.foldr_nil, part, isAgg]
  simp [run_underlying u3, run_equalIn_int w d 3 .i64 .i64 _ _ u3]
theorem equalEn_self (at_ li lv nu : Int) (lb : ByteArray) (w : World) : (Op.equalIn 10000 73 (.agg #[.int .i64 0, .int .i64 at_, .int .i64 li, .int .i64 lv, .int .i64 nu, .string lb]) (.agg #[.int .i64 0, .int .i64 at_, .int .i64 li, .int .i64 lv, .int .i64 nu, .string lb])).run Tryz.prog w = .ok true w := by
  rw [run_equalIn_struct w 9999 73 _ _ fieldsEn stoodEn, eqFields_map _ _ _ _ _ fieldsEnL]
  have u3 := Tryz.underlying3
  have u9 := Tryz.underlying9
  have a1 : ∀ w, (isAgg 71).run Tryz.prog w = .ok true w := fun w => by kernel_rfl
  have a2 : ∀ w, (isAgg 3).run Tryz.prog w = .ok false w := fun w => by kernel_rfl
  have a3 : ∀ w, (isAgg 9).run Tryz.prog w = .ok false w := fun w => by kernel_rfl
  have s1 : ∀ w, (sizeOf 71).run Tryz.prog w = .ok 2 w := fun w => by kernel_rfl
  have p1 : ∀ w, (part 71 #[.int .i64 0, .int .i64 at_, .int .i64 li, .int .i64 lv, .int .i64 nu, .string lb] 0).run Tryz.prog w = .ok (.agg #[.int .i64 0, .int .i64 at_]) w := fun w => by
    simp only [part, Sem.run_bind, a1, Result.andThen_ok, if_true, s1, Sem.run_pure]; rfl
  have e1 : ∀ w, (Op.equalIn 9999 71 (.agg #[.int .i64 0, .int .i64 at_]) (.agg #[.int .i64 0, .int .i64 at_])).run Tryz.prog w = .ok true w := fun w => equalPs 9997 0 at_ w
  simp only [List.foldr_cons, List.foldr_nil, Sem.run_bind, Sem.run_ite, p1, e1, Result.andThen_ok]
  simp only [part, Sem.run_bind, a2, a3, Result.andThen_ok]
  simp [run_equalIn_int w 9998 3 .i64 .i64 _ _ u3, run_equalIn_string w 9998 9 _ _ u9]
set_option maxRecDepth 100000 in
set_option maxHeartbeats 4000000 in
theorem sameE_any (A : Option Addr) (n c : Nat) (B : Option Addr) (d : Nat) (E : List En) (w : World) (hn : n ≤ 1000000) (S1 : Sl w 6 enC A n E) (S2 : Sl w 6 enC B n E) :
    Calls Tryz.prog 21 #[.slice A n c, .slice B n d] w fun e w' => e = .returned (.bool true) ∧ Below w.heap.size w w' := by
  have bne1 : ((n : Int) != (n : Int)) = false := bne_self_eq_false _
  go_enter Tryz.func21, Tryz.ntmps21
  go_wp2_with fail
  go_loopw [5] (fun vi wr => ∃ i : Nat, vi = .int .i64 i ∧ i ≤ n ∧ Below w.heap.size w wr) (fun vi _ => n - (intOf vi).toNat)
  case atStart => exact ⟨0, rfl, Nat.zero_le _, Below.refl _ _⟩
  case round =>
    obtain ⟨i, rfl, hi, hb⟩ := hrel
    by_cases hlt : i < n
    · obtain ⟨ad, eA, hl, f0, f1, f2, f3, f4, f5⟩ := (S1.below hb).en hlt
      obtain ⟨ad2, eB, hl2, g0, g1, g2, g3, g4, g5⟩ := (S2.below hb).en hlt
      subst eA; subst eB
      have hlt' : (i : Int) < n := by omega
      generalize (gEn E i).at_ = at_ at *
      generalize (gEn E i).list = li at *
      generalize (gEn E i).level = lv at *
      generalize (gEn E i).num = nu at *
      generalize (gEn E i).lab = lb at *
      have heq := equalEn_self at_ li lv nu lb
      go_upto_region 6 with fail
      go_quiet (fail)
      have hb2 := below_trans' hb hb.size (below_drewN (Below.refl wr.heap.size wr) nq)
      clear f0 f1 f2 f3 f4 f5 g0 g1 g2 g3 g4 g5 hb
      go_wp2_with fail
      go_roundw
      case rel => exact ⟨i + 1, by simp, hlt, hb2⟩
      case measure => rw [intOf, intOf]; omega
    · have hge : ¬ (i : Int) < n := by omega
      go_wp2_with fail
      go_ret
      exact ⟨rfl, hb⟩
end Go.Proofs.YthbodpjkckminaaGreatDoor
