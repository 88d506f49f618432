/- the law's entry. the law's entries. -/
import Derived.Test.YthbodpjkckminaaGreatDoorm29
import Derived.Test.YthbodpjkckminaaGreatDoorm21
namespace Go.Proofs.YthbodpjkckminaaGreatDoor
open Go.RowKit Go.Sort

theorem boxes_en (w : World) (D E : Array Value) : Blk ((w.alloc (.cells D 63)).alloc (.cells E 73)) w.heap.size 63 D
    ∧ Blk ((w.alloc (.cells D 63)).alloc (.cells E 73)) (w.heap.size + 1) 73 E
    ∧ Below w.heap.size w ((w.alloc (.cells D 63)).alloc (.cells E 73)) := by
  have B2 := (Blk.new w 63 D).alloc (.cells E 73)
  have B3 := Blk.new (w.alloc (.cells D 63)) 73 E
  simp only [World.size_alloc] at B3
  exact ⟨B2, B3, ((alloc1 w _).alloc (by simp) _)⟩
set_option maxRecDepth 100000 in
set_option maxHeartbeats 16000000 in
theorem lentry_any (A : Option Addr) (m c : Nat) (LA : Option Addr) (ln lc : Nat) (es : List LsE) (vs : List (List Lv)) (AI : Option Addr) (n cI : Nat) (l : List Itm) (w : World) (hg : Gl w) (hl : LsT w LA ln es vs) (hln : ln ≤ 1000000) (hs : Sl w 5 itmC AI (n + 1) l) (hn : n ≤ 999999) (hok : ItmsOk es vs l) :
    Calls Tryz.prog 48 #[.agg (docL A m c LA ln lc).toArray, .slice AI (n + 1) cI] w fun e w' => e = .returned (.agg (enC (entX es vs (stM es vs l (gItm l n).list) (gItm l n))).toArray) ∧ Below w.heap.size w w' := by
  obtain ⟨L, hO⟩ := hok n (by rw [hs.len]; omega)
  have hid := hO.isin
  have hlv := hO.lv
  have hLn := hO.L
  have h9 := hO.n9
  have hcl := hO.cl
  have hlnn := hO.ln
  obtain ⟨ad2, eI, hadl2, c0, c1, c2, c3, c4⟩ := hs.itm (k := n) (by omega)
  have cSt := Lib.hid (fun W (hb : Below w.heap.size w W) => lstate_any A m c LA ln lc es vs AI (n + 1) cI l (gItm l n).list W (hl.below hb) hln (hs.below hb) (by omega) hok hid h9)
  have hEX : enC (entX es vs (stM es vs l (gItm l n).list) (gItm l n)) = [.int .i64 0, .int .i64 (gItm l n).at_, .int .i64 (gItm l n).list, .int .i64 (gItm l n).level, .int .i64 (stM es vs l (gItm l n).list ((gItm l n).level - 1).toNat).1, .string (fillB (lvs es vs (gItm l n).list) ((gItm l n).level - 1).toNat (numsF (lvs es vs (gItm l n).list) (stM es vs l (gItm l n).list) (((gItm l n).level - 1).toNat + 1)))] := rfl
  rw [hlv, show ((L : Int) + 1 - 1).toNat = L by omega] at hEX
  rw [hlv] at c3
  generalize (gItm l n).at_ = at_ at *
  generalize (gItm l n).restart = rs at *
  generalize (gItm l n).list = id at *
  have hix : (idsL es).idxOf id < ln := by
    have := List.idxOf_lt_length_iff.2 hid
    rw [idsL_len, hl.l.len] at this
    exact this
  have cFd := Lib.hid (fun W (hb : Below w.heap.size w W) => lfindS_any svZ svZ svZ LA ln lc es id W (hl.below hb).l hln)
  rw [show fdP (idsL es) id = (((idsL es).idxOf id : Nat) : Int) from if_pos hid, show (stL svZ LA ln lc svZ svZ).toArray = #[.slice none 0 0, .slice LA ln lc, .slice none 0 0, .slice none 0 0] from rfl] at cFd
  have HLV := Lib.hid (fun W (hb : Below w.heap.size w W) => (hl.below hb).v _ hix)
  obtain ⟨ad, eA, hadl, v0, v1⟩ := hl.l.ls hix
  have HC := Lib.hid (fun W (hb : Below w.heap.size w W) => keepC hb v1)
  have hle : lsF es id = gE es ((idsL es).idxOf id) := rfl
  have hls : lvs es vs id = vs.getD ((idsL es).idxOf id) [] := rfl
  rw [hle] at hLn h9 hlnn
  rw [hls] at hcl hlnn hEX
  obtain ⟨Z, hZ⟩ : ∃ Z, stM es vs l id = Z := ⟨_, rfl⟩
  rw [hZ] at cSt hEX ⊢
  rw [hEX]
  have HG := Lib.hid hg
  clear v0 v1 hl hs hok hle hls hZ hEX hO hlv hid hg
  generalize (idsL es).idxOf id = ix at *
  generalize vs.getD ix [] = ls at *
  generalize gE es ix = le at *
  obtain ⟨gid, lA, lN, lC⟩ := le
  simp only at hLn h9 hlnn HLV HC
  have hck : ckE ls lN ((L : Int) + 1) = 0 := by
    unfold ckE
    rw [if_neg (by simpa using hcl), if_neg (by omega)]
  have cSh := Lib.hid (fun W (hb : Below w.heap.size w W) => lshown_any lA lN lC ls Z (L + 1) W (HLV.out W hb) h9 (by omega))
  rw [show (((L + 1 : Nat)) : Int) = (L : Int) + 1 from rfl] at cSh
  have cFi := Lib.hid (fun W (hb : Below w.heap.size w W) BN cN (h : Sl W 1 intC BN (L + 1) (numsF ls Z (L + 1))) => fill_any lA lN lC ls L BN (L + 1) cN (numsF ls Z (L + 1)) W (HG.out.below hb) (HLV.out W hb) h hck (by omega))
  obtain ⟨lab, hlab⟩ : ∃ lab, fillB ls L (numsF ls Z (L + 1)) = lab := ⟨_, rfl⟩
  rw [hlab] at cFi ⊢
  rw [show (docL A m c LA ln lc).toArray = #[.slice A m c, .slice none 0 0, .int .i64 0, .int .i64 0, .slice none 0 0, .slice none 0 0, .slice none 0 0, .slice none 0 0, .slice LA ln lc, .slice none 0 0, .slice none 0 0] from rfl] at *
  rw [cnA_L Z] at cSh
  have hix' : (ix : Int) < ln := by omega
  have hL9 : L < 9 := by omega
  have hL9' : (L : Int) < 9 := by omega
  clear hlab hck hcl hlnn h9 hLn
  subst eA; subst eI
  have HX := Lib.hid (boxes_en w #[.slice A m c, .slice none 0 0, .int .i64 0, .int .i64 0, .slice none 0 0, .slice none 0 0, .slice none 0 0, .slice none 0 0, .slice (some ad) ln lc, .slice none 0 0, .slice none 0 0] #[.int .i64 0, .int .i64 0, .int .i64 0, .int .i64 0, .int .i64 0, .string ⟨#[]⟩])
  have hw1 : IntKind.i64.wrap ((n : Int) + 1 - 1) = (n : Int) := by rw [show (n : Int) + 1 - 1 = n by omega]; exact IntWalk.i64_in _ (by omega)
  have hw2 : IntKind.i64.wrap ((L : Int) + 1 - 1) = (L : Int) := by rw [show (L : Int) + 1 - 1 = L by omega]; exact IntWalk.i64_in _ (by omega)
  have hL0 : (0 : Int) ≤ (L : Int) := by omega
  have hw0 : IntKind.i64.wrap (L : Int) = (L : Int) := IntWalk.i64_in _ (by omega)
  go_enter Tryz.func48, Tryz.ntmps48
  go_upto_region 1 with fail
  obtain ⟨B2, B4, hb1⟩ := HX.out
  clear HX
  generalize (w.alloc (.cells #[.slice A m c, .slice none 0 0, .int .i64 0, .int .i64 0, .slice none 0 0, .slice none 0 0, .slice none 0 0, .slice none 0 0, .slice (some ad) ln lc, .slice none 0 0, .slice none 0 0] 63)).alloc (.cells #[.int .i64 0, .int .i64 0, .int .i64 0, .int .i64 0, .int .i64 0, .string ⟨#[]⟩] 73) = w1 at *
  obtain ⟨p2, hp2⟩ : ∃ p, p = w.heap.size := ⟨_, rfl⟩
  obtain ⟨p4, hp4⟩ : ∃ p, p = w.heap.size + 1 := ⟨_, rfl⟩
  have HL4 := Lib.hid (show w.heap.size ≤ p4 by omega)
  rw [← hp4] at B4 ⊢
  rw [← hp2] at B2 ⊢
  clear hp2 hp4
  have c0 := keepC hb1 c0
  have c1 := keepC hb1 c1
  have c2 := keepC hb1 c2
  have c3 := keepC hb1 c3
  have c4 := keepC hb1 c4
  go_upto_region 2 with fail
  have hal := alloc1 w1 (.cells #[.int .i64 0, .int .i64 at_, .int .i64 id, .int .i64 ((L : Int) + 1), .int .i64 rs] 184)
  have B5 := Blk.new w1 184 #[.int .i64 0, .int .i64 at_, .int .i64 id, .int .i64 ((L : Int) + 1), .int .i64 rs]
  have B2 := B2.below hal
  have B4 := B4.below hal
  have hb2 := below_trans' hb1 hb1.size hal
  clear c0 c1 c2 c3 c4 hal hb1 hw1
  generalize w1.alloc (.cells #[.int .i64 0, .int .i64 at_, .int .i64 id, .int .i64 ((L : Int) + 1), .int .i64 rs] 184) = w2 at *
  generalize w1.heap.size = p5 at *
  have HK := Lib.hid (show ∀ W, Below w2.heap.size w2 W → W.cell? ⟨p2, 7, none⟩ = some (.slice none 0 0) ∧ W.cell? ⟨p2, 8, none⟩ = some (.slice (some ad) ln lc) ∧ W.cell? ⟨p2, 9, none⟩ = some (.slice none 0 0) ∧ W.cell? ⟨p2, 10, none⟩ = some (.slice none 0 0) ∧ W.cell? ⟨(ad.add (ix * 2)).block, (ad.add (ix * 2)).off + 1, none⟩ = some (.slice lA lN lC) ∧ W.cell? ⟨p5, 2, none⟩ = some (.int .i64 id) from fun W hb => ⟨(B2.below hb).cell 7 rfl, (B2.below hb).cell 8 rfl, (B2.below hb).cell 9 rfl, (B2.below hb).cell 10 rfl, HC.out W (below_trans' hb2 hb2.size hb), (B5.below hb).cell 2 rfl⟩)
  refine wp_region_held_drew (S := fun W => W.cell? ⟨p2, 7, none⟩ = some (.slice none 0 0) ∧ W.cell? ⟨p2, 8, none⟩ = some (.slice (some ad) ln lc) ∧ W.cell? ⟨p2, 9, none⟩ = some (.slice none 0 0) ∧ W.cell? ⟨p2, 10, none⟩ = some (.slice none 0 0) ∧ W.cell? ⟨(ad.add (ix * 2)).block, (ad.add (ix * 2)).off + 1, none⟩ = some (.slice lA lN lC) ∧ W.cell? ⟨p5, 2, none⟩ = some (.int .i64 id)) (by kernel_rfl) (HK.out w2 (Below.refl _ _)) (fun hHeld => ?_)
  have hwd := bDrew (Below.refl w2.heap.size w2)
  generalize w2.drew = wd at *
  refine hx_take 0 (some 16) _ rfl (by kernel_rfl) (by kernel_rfl) (by kernel_rfl) (fun _ _ _ h => h) rfl (Or.inl ⟨by rfl, fun w hSw => by first | (go_simp; done) | (go_simp; with_reducible rfl) | (go_simp; rfl)⟩) (by assumption) ?_
  try simp only [Act.put, List.setIfInBounds_toArray, List.set_cons_zero, List.set_cons_succ]
  refine hx_take 3 (some 19) _ rfl (by kernel_rfl) (by kernel_rfl) (by kernel_rfl) (fun _ _ _ h => h) rfl (Or.inl ⟨by rfl, fun w hSw => by first | (go_simp; done) | (go_simp; with_reducible rfl) | (go_simp; rfl)⟩) (by assumption) ?_
  try simp only [Act.put, List.setIfInBounds_toArray, List.set_cons_zero, List.set_cons_succ]
  refine hx_take 5 (some 21) _ rfl (by kernel_rfl) (by kernel_rfl) (by kernel_rfl) (fun _ _ _ h => h) rfl (Or.inl ⟨by rfl, fun w hSw => by first | (go_simp; done) | (go_simp; with_reducible rfl) | (go_simp; rfl)⟩) (by assumption) ?_
  try simp only [Act.put, List.setIfInBounds_toArray, List.set_cons_zero, List.set_cons_succ]
  refine hx_take 1 (some 17) _ rfl (by kernel_rfl) (by kernel_rfl) (by kernel_rfl) (fun _ _ _ h => h) rfl (Or.inl ⟨by rfl, fun w hSw => by first | (go_simp; done) | (go_simp; with_reducible rfl) | (go_simp; rfl)⟩) (by assumption) ?_
  try simp only [Act.put, List.setIfInBounds_toArray, List.set_cons_zero, List.set_cons_succ]
  refine hx_take 4 (some 20) (.agg #[.slice none 0 0, .slice (some ad) ln lc, .slice none 0 0, .slice none 0 0]) rfl (by kernel_rfl) (by kernel_rfl) (by kernel_rfl) (fun _ _ _ h => h) rfl (Or.inl ⟨by rfl, fun w hSw => by first | (go_simp; done) | (go_simp; with_reducible rfl) | (go_simp; rfl)⟩) (by assumption) ?_
  try simp only [Act.put, List.setIfInBounds_toArray, List.set_cons_zero, List.set_cons_succ]
  refine hx_take 6 (some 22) (.int .i64 id) rfl (by kernel_rfl) (by kernel_rfl) (by kernel_rfl) (fun _ _ _ h => h) rfl (Or.inl ⟨by rfl, fun w hSw => by first | (go_simp; done) | (go_simp; with_reducible rfl) | (go_simp; rfl)⟩) (by assumption) ?_
  try simp only [Act.put, List.setIfInBounds_toArray, List.set_cons_zero, List.set_cons_succ]
  refine hx_take 2 (some 18) _ rfl (by kernel_rfl) (by kernel_rfl) (by kernel_rfl) (fun _ _ _ h => h) rfl (Or.inl ⟨by rfl, fun w hSw => by first | (go_simp; done) | (go_simp; with_reducible rfl) | (go_simp; rfl)⟩) (by assumption) ?_
  try simp only [Act.put, List.setIfInBounds_toArray, List.set_cons_zero, List.set_cons_succ]
  refine hx1 7 (by kernel_rfl) ?_
  refine hx_call 7 (some 23) _ _ (.int .i64 (ix : Nat)) _ rfl (by rfl) rfl (by first | (go_simp; done) | (go_simp; rfl)) (cFd.out wd (below_trans' hb2 hb2.size hwd)) ?_
  rintro w3 hb3
  have hw3 := below_trans' hwd hwd.size hb3
  have hh3 := HK.out w3 hw3
  refine ⟨hh3, ?_⟩
  try simp only [Act.put, List.setIfInBounds_toArray, List.set_cons_zero, List.set_cons_succ]
  refine hx_take 8 (some 24) (.pointer (some (ad.add (ix * 2)))) rfl (by kernel_rfl) (by kernel_rfl) (by kernel_rfl) (fun _ _ _ h => h) rfl (Or.inl ⟨by rfl, fun w hSw => by first | (go_simp; done) | (go_simp; with_reducible rfl) | (go_simp; rfl)⟩) (by assumption) ?_
  try simp only [Act.put, List.setIfInBounds_toArray, List.set_cons_zero, List.set_cons_succ]
  refine hx_take 9 (some 25) _ rfl (by kernel_rfl) (by kernel_rfl) (by kernel_rfl) (fun _ _ _ h => h) rfl (Or.inl ⟨by rfl, fun w hSw => by first | (go_simp; done) | (go_simp; with_reducible rfl) | (go_simp; rfl)⟩) (by assumption) ?_
  try simp only [Act.put, List.setIfInBounds_toArray, List.set_cons_zero, List.set_cons_succ]
  refine hx_take 10 (some 26) (.slice lA lN lC) rfl (by kernel_rfl) (by kernel_rfl) (by kernel_rfl) (fun _ _ _ h => h) rfl (Or.inl ⟨by rfl, fun w hSw => by first | (go_simp; done) | (go_simp; with_reducible rfl) | (go_simp; rfl)⟩) (by assumption) ?_
  try simp only [Act.put, List.setIfInBounds_toArray, List.set_cons_zero, List.set_cons_succ]
  refine hx_take 11 (some 6) _ rfl (by kernel_rfl) (by kernel_rfl) (by kernel_rfl) (fun _ _ _ h => h) rfl (Or.inl ⟨by rfl, fun w hSw => by first | (go_simp; done) | (go_simp; with_reducible rfl) | (go_simp; rfl)⟩) (by assumption) ?_
  try simp only [Act.put, List.setIfInBounds_toArray, List.set_cons_zero, List.set_cons_succ]
  refine wpAnyH_done (by kernel_rfl) ?_ _
  have B2 := B2.below hw3
  have B4 := B4.below hw3
  have B5 := B5.below hw3
  have hb3 := below_trans' hb2 hb2.size hw3
  clear hh3 hHeld hwd HK cFd hw3 hb2
  have q0 := B2.cell 0 rfl
  have q1 := B2.cell 1 rfl
  have q2 := B2.cell 2 rfl
  have q3 := B2.cell 3 rfl
  have q4 := B2.cell 4 rfl
  have q5 := B2.cell 5 rfl
  have q6 := B2.cell 6 rfl
  have q7 := B2.cell 7 rfl
  have q8 := B2.cell 8 rfl
  have q9 := B2.cell 9 rfl
  have q10 := B2.cell 10 rfl
  have k2 := B5.cell 2 rfl
  have cSt := cSt.out w3 hb3
  go_upto_region 3 with fail
  go_cut [7] (fun v7 wx => ∃ p7, v7 = .pointer (some ⟨p7, 0, none⟩) ∧ Blk wx p7 26 (cnA Z) ∧ Below w3.heap.size w3 wx)
  case first =>
    go_wp2_with (first | (go_at_call 89; refine cSt.mono ?_; rintro e w4 ⟨rfl, hb4⟩; have NZ := Blk.new w4 26 (cnA cnZ); obtain ⟨BX, hBX⟩ := boxed_g w4 26 (cnA cnZ) (cnA Z); have HX := Lib.hid (And.intro BX (below_trans' hb4 hb4.size hBX)); clear BX hBX hb4) | (refine wpList_store_row rfl 26 _ _ rfl w4.heap.size (cnA Z) rfl rfl 26 (cnA cnZ) NZ (by kernel_rfl) rfl (cnA_one Z) ?_))
    go_meet
    case rel => exact ⟨_, rfl, HX.out.1, HX.out.2⟩
  case rest =>
  obtain ⟨p7, rfl, B7, hb7⟩ := hcut
  clear q0 q1 q2 q3 q4 q5 q6 q7 q8 q9 q10 k2 cSt
  have B4 := B4.below hb7
  have B5 := B5.below hb7
  have hb4 := below_trans' hb3 hb3.size hb7
  clear hb7 B2 hb3
  generalize wc = w4 at *
  have k3 := B5.cell 3 rfl
  have r7 : w4.rangeAt p7 0 (cnL Z) := Blk.rng B7
  have hsz7 : (Tryz.prog.info? 26).map (·.size) = some (cnL Z).length := by kernel_rfl
  go_upto_region 4 with fail
  go_cut [8, 9] (fun v8 v9 wx => v8 = .string lab ∧ v9 = .int .i64 0 ∧ Below w4.heap.size w4 wx)
  case first =>
    refine wp_region_held_drew (S := fun W => W.cell? ⟨p5, 3, none⟩ = some (.int .i64 ((L : Int) + 1)) ∧ W.rangeAt p7 0 (cnL Z)) (by kernel_rfl) ⟨k3, r7⟩ (fun hHeld => ?_)
    refine hx_take 0 (some 33) _ rfl (by kernel_rfl) (by kernel_rfl) (by kernel_rfl) (fun _ _ _ h => h) rfl (Or.inl ⟨by rfl, fun w hSw => by first | (go_simp; done) | (go_simp; with_reducible rfl) | (go_simp; rfl)⟩) (by assumption) ?_
    try simp only [Act.put, List.setIfInBounds_toArray, List.set_cons_zero, List.set_cons_succ]
    refine hx_take 1 (some 34) _ rfl (by kernel_rfl) (by kernel_rfl) (by kernel_rfl) (fun _ _ _ h => h) rfl (Or.inl ⟨by rfl, fun w hSw => by first | (go_simp; done) | (go_simp; with_reducible rfl) | (go_simp; rfl)⟩) (by assumption) ?_
    try simp only [Act.put, List.setIfInBounds_toArray, List.set_cons_zero, List.set_cons_succ]
    refine hx_take 3 (some 36) _ rfl (by kernel_rfl) (by kernel_rfl) (by kernel_rfl) (fun _ _ _ h => h) rfl (Or.inl ⟨by rfl, fun w hSw => by first | (go_simp; done) | (go_simp; with_reducible rfl) | (go_simp; rfl)⟩) (by assumption) ?_
    try simp only [Act.put, List.setIfInBounds_toArray, List.set_cons_zero, List.set_cons_succ]
    refine hx_take 5 (some 38) _ rfl (by kernel_rfl) (by kernel_rfl) (by kernel_rfl) (fun _ _ _ h => h) rfl (Or.inl ⟨by rfl, fun w hSw => by first | (go_simp; done) | (go_simp; with_reducible rfl) | (go_simp; rfl)⟩) (by assumption) ?_
    try simp only [Act.put, List.setIfInBounds_toArray, List.set_cons_zero, List.set_cons_succ]
    refine hx_take 2 (some 35) _ rfl (by kernel_rfl) (by kernel_rfl) (by kernel_rfl) (fun _ _ _ h => h) rfl (Or.inl ⟨by rfl, fun w hSw => by first | (go_simp; done) | (go_simp; with_reducible rfl) | (go_simp; rfl)⟩) (by assumption) ?_
    try simp only [Act.put, List.setIfInBounds_toArray, List.set_cons_zero, List.set_cons_succ]
    refine hx_take 6 (some 39) _ rfl (by kernel_rfl) (by kernel_rfl) (by kernel_rfl) (fun _ _ _ h => h) rfl (Or.inl ⟨by rfl, fun w hSw => by first | (go_simp; done) | (go_simp; with_reducible rfl) | (go_simp; rfl)⟩) (by assumption) ?_
    try simp only [Act.put, List.setIfInBounds_toArray, List.set_cons_zero, List.set_cons_succ]
    refine hx_take 4 (some 37) (.agg (cnL Z).toArray) rfl (by kernel_rfl) (by kernel_rfl) (by kernel_rfl) (fun _ _ _ h => h) rfl (yieldsIf_load_mid (by rfl) _ _ rfl p7 0 rfl (cnL Z) _ (fun w hSw => hSw.2) Tryz.underlying26 rfl hsz7) (by assumption) ?_
    try simp only [Act.put, List.setIfInBounds_toArray, List.set_cons_zero, List.set_cons_succ]
    refine hx1 7 (by kernel_rfl) ?_
    refine hx_callE 7 (some 40) _ _ (fun v w' => ∃ BN cN, v = .slice BN (L + 1) cN ∧ Own w' w4.drew.heap.size 3 1 intC BN (L + 1) cN (numsF ls Z (L + 1)) ∧ Below w4.drew.heap.size w4.drew w') rfl (by rfl) rfl (by first | (go_simp; done) | (go_simp; rfl)) ((cSh.out w4.drew (bDrew hb4)).mono (fun e w' ⟨B, cB, he, ho, hb⟩ => ⟨_, he, B, cB, rfl, ho, hb⟩)) ?_
    rintro v w5 ⟨BN, cN, rfl, oN, hb5⟩
    have hb45 := below_trans' (bDrew (Below.refl w4.heap.size w4)) (bDrew (Below.refl w4.heap.size w4)).size hb5
    refine ⟨⟨keepC hb45 k3, fun j u hu => keepC hb45 (r7 j u hu)⟩, ?_⟩
    try simp only [Act.put, List.setIfInBounds_toArray, List.set_cons_zero, List.set_cons_succ]
    refine hx1 8 (by kernel_rfl) ?_
    refine hx_call 8 (some 41) _ _ (.tuple #[.string lab, .int .i64 0]) _ rfl (by rfl) rfl (by go_simp) (cFi.out w5 (below_trans' hb4 hb4.size hb45) BN cN (oN.sl intC_len)) ?_
    rintro w6 hb6
    have hb46 := below_trans' hb45 hb45.size hb6
    have hS6 : w6.cell? ⟨p5, 3, none⟩ = some (.int .i64 ((L : Int) + 1)) ∧ w6.rangeAt p7 0 (cnL Z) := ⟨keepC hb46 k3, fun j u hu => keepC hb46 (r7 j u hu)⟩
    refine ⟨hS6, ?_⟩
    try simp only [Act.put, List.setIfInBounds_toArray, List.set_cons_zero, List.set_cons_succ]
    refine hx_take 9 (some 32) _ rfl (by kernel_rfl) (by kernel_rfl) (by kernel_rfl) (fun _ _ _ h => h) rfl (Or.inl ⟨by rfl, fun w hSw => by first | (go_simp; done) | (go_simp; with_reducible rfl) | (go_simp; rfl)⟩) (by assumption) ?_
    try simp only [Act.put, List.setIfInBounds_toArray, List.set_cons_zero, List.set_cons_succ]
    refine hx_take 10 (some 42) _ rfl (by kernel_rfl) (by kernel_rfl) (by kernel_rfl) (fun _ _ _ h => h) rfl (Or.inl ⟨by rfl, fun w hSw => by first | (go_simp; done) | (go_simp; with_reducible rfl) | (go_simp; rfl)⟩) (by assumption) ?_
    try simp only [Act.put, List.setIfInBounds_toArray, List.set_cons_zero, List.set_cons_succ]
    refine hx_take 11 (some 43) _ rfl (by kernel_rfl) (by kernel_rfl) (by kernel_rfl) (fun _ _ _ h => h) rfl (Or.inl ⟨by rfl, fun w hSw => by first | (go_simp; done) | (go_simp; with_reducible rfl) | (go_simp; rfl)⟩) (by assumption) ?_
    try simp only [Act.put, List.setIfInBounds_toArray, List.set_cons_zero, List.set_cons_succ]
    refine hx_take 12 (some 8) _ rfl (by kernel_rfl) (by kernel_rfl) (by kernel_rfl) (fun _ _ _ h => h) rfl (Or.inl ⟨by rfl, fun w hSw => by first | (go_simp; done) | (go_simp; with_reducible rfl) | (go_simp; rfl)⟩) (by assumption) ?_
    try simp only [Act.put, List.setIfInBounds_toArray, List.set_cons_zero, List.set_cons_succ]
    refine hx_take 13 (some 9) _ rfl (by kernel_rfl) (by kernel_rfl) (by kernel_rfl) (fun _ _ _ h => h) rfl (Or.inl ⟨by rfl, fun w hSw => by first | (go_simp; done) | (go_simp; with_reducible rfl) | (go_simp; rfl)⟩) (by assumption) ?_
    try simp only [Act.put, List.setIfInBounds_toArray, List.set_cons_zero, List.set_cons_succ]
    refine wpAnyH_done (by kernel_rfl) ?_ _
    have HB := Lib.hid hb46
    clear hb5 hb6 hb45 hb46 oN hS6
    go_wp2_with fail
    go_meet
    case rel => exact ⟨rfl, rfl, HB.out⟩
  case rest =>
  obtain ⟨rfl, rfl, hb9⟩ := hcut
  have B4 := B4.below hb9
  have B5 := B5.below hb9
  have B7 := B7.below hb9
  have hbw := below_trans' hb4 hb4.size hb9
  clear k3 r7 hsz7 hb4 hb9 cSh cFi
  generalize wc = w5 at *
  go_upto_region 5 with fail
  have hQ5 : ∀ W, Blk W p5 184 #[.int .i64 0, .int .i64 at_, .int .i64 id, .int .i64 ((L : Int) + 1), .int .i64 rs] → Blk W p7 26 (cnA Z) → W.cell? ⟨p5, 0, none⟩ = some (.int .i64 0) ∧ W.cell? ⟨p5, 1, none⟩ = some (.int .i64 at_) ∧ W.cell? ⟨p5, 2, none⟩ = some (.int .i64 id) ∧ W.cell? ⟨p5, 3, none⟩ = some (.int .i64 ((L : Int) + 1)) ∧ W.cell? ⟨p7, L, none⟩ = some (.int .i64 (Z L).1) := fun W h1 h2 => ⟨h1.cell 0 rfl, h1.cell 1 rfl, h1.cell 2 rfl, h1.cell 3 rfl, (h2.cn hL9).1⟩
  refine wp_region_held_drew (S := fun W => W.cell? ⟨p5, 0, none⟩ = some (.int .i64 0) ∧ W.cell? ⟨p5, 1, none⟩ = some (.int .i64 at_) ∧ W.cell? ⟨p5, 2, none⟩ = some (.int .i64 id) ∧ W.cell? ⟨p5, 3, none⟩ = some (.int .i64 ((L : Int) + 1)) ∧ W.cell? ⟨p7, L, none⟩ = some (.int .i64 (Z L).1)) (by kernel_rfl) (hQ5 w5 B5 B7) (fun hHeld => ?_)
  have hwd := bDrew (Below.refl w5.heap.size w5)
  have B4 := B4.below hwd
  have B5 := B5.below hwd
  have B7 := B7.below hwd
  have hbw := below_trans' hbw hbw.size hwd
  clear hwd
  generalize w5.drew = wd at *
  refine hx_take 0 (some 44) _ rfl (by kernel_rfl) (by kernel_rfl) (by kernel_rfl) (fun _ _ _ h => h) rfl (Or.inl ⟨by rfl, fun w hSw => by first | (go_simp; done) | (go_simp; with_reducible rfl) | (go_simp; rfl)⟩) (by assumption) ?_
  try simp only [Act.put, List.setIfInBounds_toArray, List.set_cons_zero, List.set_cons_succ]
  refine hx_take 2 (some 46) _ rfl (by kernel_rfl) (by kernel_rfl) (by kernel_rfl) (fun _ _ _ h => h) rfl (Or.inl ⟨by rfl, fun w hSw => by first | (go_simp; done) | (go_simp; with_reducible rfl) | (go_simp; rfl)⟩) (by assumption) ?_
  try simp only [Act.put, List.setIfInBounds_toArray, List.set_cons_zero, List.set_cons_succ]
  refine hx_take 4 (some 48) _ rfl (by kernel_rfl) (by kernel_rfl) (by kernel_rfl) (fun _ _ _ h => h) rfl (Or.inl ⟨by rfl, fun w hSw => by first | (go_simp; done) | (go_simp; with_reducible rfl) | (go_simp; rfl)⟩) (by assumption) ?_
  try simp only [Act.put, List.setIfInBounds_toArray, List.set_cons_zero, List.set_cons_succ]
  refine hx_take 6 (some 50) _ rfl (by kernel_rfl) (by kernel_rfl) (by kernel_rfl) (fun _ _ _ h => h) rfl (Or.inl ⟨by rfl, fun w hSw => by first | (go_simp; done) | (go_simp; with_reducible rfl) | (go_simp; rfl)⟩) (by assumption) ?_
  try simp only [Act.put, List.setIfInBounds_toArray, List.set_cons_zero, List.set_cons_succ]
  refine hx_take 9 (some 53) _ rfl (by kernel_rfl) (by kernel_rfl) (by kernel_rfl) (fun _ _ _ h => h) rfl (Or.inl ⟨by rfl, fun w hSw => by first | (go_simp; done) | (go_simp; with_reducible rfl) | (go_simp; rfl)⟩) (by assumption) ?_
  try simp only [Act.put, List.setIfInBounds_toArray, List.set_cons_zero, List.set_cons_succ]
  refine hx_take 12 (some 56) _ rfl (by kernel_rfl) (by kernel_rfl) (by kernel_rfl) (fun _ _ _ h => h) rfl (Or.inl ⟨by rfl, fun w hSw => by first | (go_simp; done) | (go_simp; with_reducible rfl) | (go_simp; rfl)⟩) (by assumption) ?_
  try simp only [Act.put, List.setIfInBounds_toArray, List.set_cons_zero, List.set_cons_succ]
  refine hx_take 1 (some 45) (.agg #[.int .i64 0, .int .i64 at_]) rfl (by kernel_rfl) (by kernel_rfl) (by kernel_rfl) (fun _ _ _ h => h) rfl (Or.inl ⟨by rfl, fun w hSw => by first | (go_simp; done) | (go_simp; with_reducible rfl) | (go_simp; rfl)⟩) (by assumption) ?_
  try simp only [Act.put, List.setIfInBounds_toArray, List.set_cons_zero, List.set_cons_succ]
  refine hx_take 3 (some 47) _ rfl (by kernel_rfl) (by kernel_rfl) (by kernel_rfl) (fun _ _ _ h => h) rfl (Or.inl ⟨by rfl, fun w hSw => by first | (go_simp; done) | (go_simp; with_reducible rfl) | (go_simp; rfl)⟩) (by assumption) ?_
  try simp only [Act.put, List.setIfInBounds_toArray, List.set_cons_zero, List.set_cons_succ]
  refine hx_take 5 (some 49) (.int .i64 ((L : Int) + 1)) rfl (by kernel_rfl) (by kernel_rfl) (by kernel_rfl) (fun _ _ _ h => h) rfl (Or.inl ⟨by rfl, fun w hSw => by first | (go_simp; done) | (go_simp; with_reducible rfl) | (go_simp; rfl)⟩) (by assumption) ?_
  try simp only [Act.put, List.setIfInBounds_toArray, List.set_cons_zero, List.set_cons_succ]
  refine hx_take 7 (some 51) (.int .i64 ((L : Int) + 1)) rfl (by kernel_rfl) (by kernel_rfl) (by kernel_rfl) (fun _ _ _ h => h) rfl (Or.inl ⟨by rfl, fun w hSw => by first | (go_simp; done) | (go_simp; with_reducible rfl) | (go_simp; rfl)⟩) (by assumption) ?_
  try simp only [Act.put, List.setIfInBounds_toArray, List.set_cons_zero, List.set_cons_succ]
  refine hx_take 8 (some 52) (.int .i64 (L : Int)) rfl (by kernel_rfl) (by kernel_rfl) (by kernel_rfl) (fun _ _ _ h => h) rfl (Or.inl ⟨by rfl, fun w hSw => by first | (go_simp; done) | (go_simp; with_reducible rfl) | (go_simp; rfl)⟩) (by assumption) ?_
  try simp only [Act.put, List.setIfInBounds_toArray, List.set_cons_zero, List.set_cons_succ]
  refine hx_take 10 (some 54) _ rfl (by kernel_rfl) (by kernel_rfl) (by kernel_rfl) (fun _ _ _ h => h) rfl (Or.inl ⟨by rfl, fun w hSw => by first | (go_simp; done) | (go_simp; with_reducible rfl) | (go_simp; rfl)⟩) (by assumption) ?_
  try simp only [Act.put, List.setIfInBounds_toArray, List.set_cons_zero, List.set_cons_succ]
  refine hx_take 11 (some 55) (.int .i64 (Z L).1) rfl (by kernel_rfl) (by kernel_rfl) (by kernel_rfl) (fun _ _ _ h => h) rfl (Or.inl ⟨by rfl, fun w hSw => by first | (go_simp; done) | (go_simp; with_reducible rfl) | (go_simp; rfl)⟩) (by assumption) ?_
  try simp only [Act.put, List.setIfInBounds_toArray, List.set_cons_zero, List.set_cons_succ]
  refine hx_take 13 (some 57) _ rfl (by kernel_rfl) (by kernel_rfl) (by kernel_rfl) (fun _ _ _ h => h) rfl (Or.inl ⟨by rfl, fun w hSw => by first | (go_simp; done) | (go_simp; with_reducible rfl) | (go_simp; rfl)⟩) (by assumption) ?_
  try simp only [Act.put, List.setIfInBounds_toArray, List.set_cons_zero, List.set_cons_succ]
  have hg := only_setCells p4 [.int .i64 0, .int .i64 at_, .int .i64 id, .int .i64 ((L : Int) + 1), .int .i64 (Z L).1, .string lab] 0 wd
  have hF := hQ5 (wd.setCells p4 0 [.int .i64 0, .int .i64 at_, .int .i64 id, .int .i64 ((L : Int) + 1), .int .i64 (Z L).1, .string lab]) (B5.keep hg (B4.ne_ty B5 (by decide))) (B7.keep hg (B4.ne_ty B7 (by decide)))
  have B4' := Blk.setCells_ [.int .i64 0, .int .i64 at_, .int .i64 id, .int .i64 ((L : Int) + 1), .int .i64 (Z L).1, .string lab] [] [.int .i64 0, .int .i64 0, .int .i64 0, .int .i64 0, .int .i64 0, .string ⟨#[]⟩] wd B4 rfl
  have HE := Lib.hid (below_setC hbw (Nat.le_refl _) HL4.out [.int .i64 0, .int .i64 at_, .int .i64 id, .int .i64 ((L : Int) + 1), .int .i64 (Z L).1, .string lab])
  refine hx1 14 (by kernel_rfl) ?_
  refine hx_storeQ 14 73 (.tmp 4) (.tmp 57) p4 0 [.int .i64 0, .int .i64 at_, .int .i64 id, .int .i64 ((L : Int) + 1), .int .i64 (Z L).1, .string lab] rfl (by rfl) rfl rfl rfl rfl (B4.thereM (q := 0) (n := 6) (by decide)) (by kernel_rfl) (by simp [Value.oneCell']) hF ?_
  refine wpAnyH_done (by kernel_rfl) ?_ _
  have B4' : (wd.setCells p4 0 [.int .i64 0, .int .i64 at_, .int .i64 id, .int .i64 ((L : Int) + 1), .int .i64 (Z L).1, .string lab]).heap[p4]? = some (.cells [.int .i64 0, .int .i64 at_, .int .i64 id, .int .i64 ((L : Int) + 1), .int .i64 (Z L).1, .string lab].toArray 73 (0, 0)) := B4'
  clear hg hF hHeld hQ5 B5 B7 B4 hbw
  go_wp2_with fail
  refine bodyPost_ret (results_cell_row rfl _ _ p4 73 _ (0, 0) _ rfl B4' Tryz.underlying73 rfl (by kernel_rfl)) rfl ?_
  exact ⟨rfl, HE.out⟩
end Go.Proofs.YthbodpjkckminaaGreatDoor

namespace Go.Proofs.YthbodpjkckminaaGreatDoor
open Go.RowKit Go.Sort

theorem sizeItm : ∀ w, (sizeOf 184).run Tryz.prog w = .ok 5 w := fun w => by kernel_rfl
theorem itmsOk_take {es : List LsE} {vs : List (List Lv)} {l : List Itm} (h : ItmsOk es vs l) (k : Nat) : ItmsOk es vs (l.take k) := fun i hi => by
  have h1 : i < l.length := Nat.lt_of_lt_of_le hi (List.length_take_le' k l)
  have h2 : i < k := Nat.lt_of_lt_of_le hi (List.length_take_le k l)
  have e : gItm (l.take k) i = gItm l i := by unfold gItm; rw [List.getD_eq_getElem?_getD, List.getElem?_take_of_lt h2, ← List.getD_eq_getElem?_getD]
  rw [e]
  exact h i h1
theorem entM_take (es : List LsE) (vs : List (List Lv)) (l : List Itm) (i : Nat) : entX es vs (stM es vs (l.take (i + 1)) (gItm (l.take (i + 1)) i).list) (gItm (l.take (i + 1)) i) = entM es vs l i := by
  have e : gItm (l.take (i + 1)) i = gItm l i := by unfold gItm; rw [List.getD_eq_getElem?_getD, List.getElem?_take_of_lt (by omega), ← List.getD_eq_getElem?_getD]
  rw [e]
  rfl
set_option maxRecDepth 100000 in
set_option maxHeartbeats 16000000 in
theorem lentries_any (A : Option Addr) (m c : Nat) (LA : Option Addr) (ln lc : Nat) (xs : List It) (ys : List Fi) (es : List LsE) (vs : List (List Lv)) (w : World) (hg : Gl w) (hD : DocR w A m xs ys LA ln es vs) :
    Calls Tryz.prog 22 #[.agg (docL A m c LA ln lc).toArray] w (EnPost w (runL es vs ys (pmL ys m)).es) := by
  have hm : m ≤ 1000000 := by have := hD.dy.fw.nf.ok.len; have := hD.fl.ly; omega
  have hbm := itmL_len es ys (pmL ys m)
  rw [pmL_len ys m] at hbm
  have hbk := bkL_len ys m
  have cT := Lib.hid (fun W (hb : Below w.heap.size w W) => litems_any A m c LA ln lc xs ys es vs W (hD.below hb))
  have hok := itms_ok hD
  rw [runL_ent]
  have HP := Lib.hid (show ∀ e w', (∃ (A' : Option Addr) (c' : Nat), e = .returned (.slice A' (entL es vs (itmL es ys (pmL ys m)) (itmL es ys (pmL ys m)).length).length c') ∧ Own w' w.heap.size 73 6 enC A' (entL es vs (itmL es ys (pmL ys m)) (itmL es ys (pmL ys m)).length).length c' (entL es vs (itmL es ys (pmL ys m)) (itmL es ys (pmL ys m)).length) ∧ Below w.heap.size w w') → EnPost w (entL es vs (itmL es ys (pmL ys m)) (itmL es ys (pmL ys m)).length) e w' from fun _ _ h => h)
  unfold ItPost at cT
  obtain ⟨l, hl⟩ : ∃ l, itmL es ys (pmL ys m) = l := ⟨_, rfl⟩
  rw [hl] at cT hok hbm HP ⊢
  have hln : l.length ≤ 1000000 := by omega
  have cE := Lib.hid (fun W (hb : Below w.heap.size w W) AT cc i (hi : i < l.length) (hs : Sl W 5 itmC AT l.length l) => lentry_any A m c LA ln lc es vs AT i cc (l.take (i + 1)) W (hg.below hb) (hD.below hb).ls hD.ll (hs.take (by omega)) (by omega) (itmsOk_take hok (i + 1)))
  have HEM := Lib.hid (fun i => entM_take es vs l i)
  have HES := Lib.hid (fun i => entL_succ es vs l i)
  have HEL := Lib.hid (fun i => entL_len es vs l i)
  rw [show (docL A m c LA ln lc).toArray = #[.slice A m c, .slice none 0 0, .int .i64 0, .int .i64 0, .slice none 0 0, .slice none 0 0, .slice none 0 0, .slice none 0 0, .slice LA ln lc, .slice none 0 0, .slice none 0 0] from rfl] at *
  have HX := Lib.hid (boxes_lit w #[.slice A m c, .slice none 0 0, .int .i64 0, .int .i64 0, .slice none 0 0, .slice none 0 0, .slice none 0 0, .slice none 0 0, .slice LA ln lc, .slice none 0 0, .slice none 0 0] 63)
  clear hl hbm hbk hm hok hg hD
  go_enter Tryz.func22, Tryz.ntmps22
  go_upto_region 1 with fail
  obtain ⟨B1, hb1⟩ := HX.out
  clear HX
  generalize w.alloc (.cells #[.slice A m c, .slice none 0 0, .int .i64 0, .int .i64 0, .slice none 0 0, .slice none 0 0, .slice none 0 0, .slice none 0 0, .slice LA ln lc, .slice none 0 0, .slice none 0 0] 63) = w1 at *
  obtain ⟨p1, hp1⟩ : ∃ p1, p1 = w.heap.size := ⟨_, rfl⟩
  rw [← hp1] at B1 ⊢
  clear hp1
  have q0 := B1.cell 0 rfl
  have q1 := B1.cell 1 rfl
  have q2 := B1.cell 2 rfl
  have q3 := B1.cell 3 rfl
  have q4 := B1.cell 4 rfl
  have q5 := B1.cell 5 rfl
  have q6 := B1.cell 6 rfl
  have q7 := B1.cell 7 rfl
  have q8 := B1.cell 8 rfl
  have q9 := B1.cell 9 rfl
  have q10 := B1.cell 10 rfl
  have cT := cT.out w1 hb1
  go_wp2_with (go_at_call 47; refine cT.mono ?_; rintro e w2 ⟨AT, cc, rfl, oT, hb2⟩)
  have B1 := B1.below hb2
  have hb2' := below_trans' hb1 hb1.size hb2
  have ST := oT.sl itmC_len
  have hcp := oT.cap.1
  clear q0 q1 q2 q3 q4 q5 q6 q7 q8 q9 q10 cT oT hb1 hb2
  have HK := Lib.hid (show ∀ W, Below w2.heap.size w2 W → W.cell? ⟨p1, 0, none⟩ = some (.slice A m c) ∧ W.cell? ⟨p1, 1, none⟩ = some (.slice none 0 0) ∧ W.cell? ⟨p1, 2, none⟩ = some (.int .i64 0) ∧ W.cell? ⟨p1, 3, none⟩ = some (.int .i64 0) ∧ W.cell? ⟨p1, 4, none⟩ = some (.slice none 0 0) ∧ W.cell? ⟨p1, 5, none⟩ = some (.slice none 0 0) ∧ W.cell? ⟨p1, 6, none⟩ = some (.slice none 0 0) ∧ W.cell? ⟨p1, 7, none⟩ = some (.slice none 0 0) ∧ W.cell? ⟨p1, 8, none⟩ = some (.slice LA ln lc) ∧ W.cell? ⟨p1, 9, none⟩ = some (.slice none 0 0) ∧ W.cell? ⟨p1, 10, none⟩ = some (.slice none 0 0) from fun W hb => ⟨(B1.below hb).cell 0 rfl, (B1.below hb).cell 1 rfl, (B1.below hb).cell 2 rfl, (B1.below hb).cell 3 rfl, (B1.below hb).cell 4 rfl, (B1.below hb).cell 5 rfl, (B1.below hb).cell 6 rfl, (B1.below hb).cell 7 rfl, (B1.below hb).cell 8 rfl, (B1.below hb).cell 9 rfl, (B1.below hb).cell 10 rfl⟩)
  go_loopw [3, 5] (fun vo vi wr => ∃ (i : Nat) (AO : Option Addr) (cO : Nat), vo = .slice AO i cO ∧ vi = .int .i64 i ∧ i ≤ l.length ∧ Own wr w2.heap.size 73 6 enC AO i cO (entL es vs l i) ∧ Below w2.heap.size w2 wr) (fun _ vi _ => l.length - (intOf vi).toNat)
  case atStart => exact ⟨0, none, 0, rfl, rfl, Nat.zero_le _, Own.nil_ _ _ _ _ _, Below.refl _ _⟩
  case round =>
    obtain ⟨i, AO, cO, rfl, rfl, hi, ho, hbr⟩ := hrel
    by_cases hlt : i < l.length
    · have hlt' : (i : Int) < l.length := by omega
      have hw1 : IntKind.i64.wrap ((i : Int) + 1) = (i : Int) + 1 := IntWalk.i64_in _ (by omega)
      have hcut := run_cut_h Tryz.underlying120 sizeItm AT (n := l.length) (c := cc) (k := i + 1) (by omega) hcp
      rw [show (((i + 1 : Nat)) : Int) = (i : Int) + 1 from rfl] at hcut
      have hem := HEM.out i
      have hes := HES.out i
      go_upto_region 6 with fail
      refine wp_region_held_drew (S := fun W => W.cell? ⟨p1, 0, none⟩ = some (.slice A m c) ∧ W.cell? ⟨p1, 1, none⟩ = some (.slice none 0 0) ∧ W.cell? ⟨p1, 2, none⟩ = some (.int .i64 0) ∧ W.cell? ⟨p1, 3, none⟩ = some (.int .i64 0) ∧ W.cell? ⟨p1, 4, none⟩ = some (.slice none 0 0) ∧ W.cell? ⟨p1, 5, none⟩ = some (.slice none 0 0) ∧ W.cell? ⟨p1, 6, none⟩ = some (.slice none 0 0) ∧ W.cell? ⟨p1, 7, none⟩ = some (.slice none 0 0) ∧ W.cell? ⟨p1, 8, none⟩ = some (.slice LA ln lc) ∧ W.cell? ⟨p1, 9, none⟩ = some (.slice none 0 0) ∧ W.cell? ⟨p1, 10, none⟩ = some (.slice none 0 0)) (by kernel_rfl) (HK.out wr hbr) (fun hHeld => ?_)
      have hwd := below_trans' hbr hbr.size (bDrew (Below.refl wr.heap.size wr))
      have ho := ho.below (bDrew (Below.refl wr.heap.size wr))
      generalize wr.drew = wd at *
      have cE := cE.out wd (below_trans' hb2' hb2'.size hwd) AT cc i hlt (ST.below hwd)
      rw [hem] at cE
      obtain ⟨en, hen⟩ : ∃ en, entM es vs l i = en := ⟨_, rfl⟩
      rw [hen] at cE hes
      have HES1 := Lib.hid hes
      clear hem hes hen
      refine hx_take 0 (some 14) _ rfl (by kernel_rfl) (by kernel_rfl) (by kernel_rfl) (fun _ _ _ h => h) rfl (Or.inl ⟨by rfl, fun w hSw => by first | (go_simp; done) | (go_simp; with_reducible rfl) | (go_simp; rfl)⟩) (by assumption) ?_
      try simp only [Act.put, List.setIfInBounds_toArray, List.set_cons_zero, List.set_cons_succ]
      refine hx_take 1 (some 15) (.agg #[.slice A m c, .slice none 0 0, .int .i64 0, .int .i64 0, .slice none 0 0, .slice none 0 0, .slice none 0 0, .slice none 0 0, .slice LA ln lc, .slice none 0 0, .slice none 0 0]) rfl (by kernel_rfl) (by kernel_rfl) (by kernel_rfl) (fun _ _ _ h => h) rfl (Or.inl ⟨by rfl, fun w hSw => by first | (go_simp; done) | (go_simp; with_reducible rfl) | (go_simp; rfl)⟩) (by assumption) ?_
      try simp only [Act.put, List.setIfInBounds_toArray, List.set_cons_zero, List.set_cons_succ]
      refine hx_take 2 (some 16) _ rfl (by kernel_rfl) (by kernel_rfl) (by kernel_rfl) (fun _ _ _ h => h) rfl (Or.inl ⟨by rfl, fun w hSw => by first | (go_simp; done) | (go_simp; with_reducible rfl) | (go_simp; rfl)⟩) (by assumption) ?_
      try simp only [Act.put, List.setIfInBounds_toArray, List.set_cons_zero, List.set_cons_succ]
      refine hx_take 3 (some 17) _ rfl (by kernel_rfl) (by kernel_rfl) (by kernel_rfl) (fun _ _ _ h => h) rfl (Or.inl ⟨by rfl, fun w hSw => by first | (go_simp; done) | (go_simp; with_reducible rfl) | (go_simp; rfl)⟩) (by assumption) ?_
      try simp only [Act.put, List.setIfInBounds_toArray, List.set_cons_zero, List.set_cons_succ]
      refine hx_take 4 (some 18) (.int .i64 ((i : Int) + 1)) rfl (by kernel_rfl) (by kernel_rfl) (by kernel_rfl) (fun _ _ _ h => h) rfl (Or.inl ⟨by rfl, fun w hSw => by first | (go_simp; done) | (go_simp; with_reducible rfl) | (go_simp; rfl)⟩) (by assumption) ?_
      try simp only [Act.put, List.setIfInBounds_toArray, List.set_cons_zero, List.set_cons_succ]
      refine hx_take 5 (some 19) (.slice AT (i + 1) cc) rfl (by kernel_rfl) (by kernel_rfl) (by kernel_rfl) (fun _ _ _ h => h) rfl (Or.inl ⟨by rfl, fun w hSw => by first | (go_simp; done) | (go_simp; with_reducible rfl) | (go_simp; rfl)⟩) (by assumption) ?_
      try simp only [Act.put, List.setIfInBounds_toArray, List.set_cons_zero, List.set_cons_succ]
      refine hx1 6 (by kernel_rfl) ?_
      refine hx_call 6 (some 20) _ _ (.agg (enC en).toArray) _ rfl (by rfl) rfl (by first | (go_simp; done) | (go_simp; rfl)) cE ?_
      rintro w4 hb4
      have hw4 := below_trans' hwd hwd.size hb4
      have hh4 := HK.out w4 hw4
      refine ⟨hh4, ?_⟩
      try simp only [Act.put, List.setIfInBounds_toArray, List.set_cons_zero, List.set_cons_succ]
      have ho4 := ho.below hb4
      have hal := alloc1 w4 (.cells (enC en).toArray 73)
      have hw5 := below_trans' hw4 hw4.size hal
      have hh5 := HK.out _ hw5
      refine hx1 7 (by kernel_rfl) ?_
      refine hx_val 7 (some 21) (.slice (some ⟨w4.heap.size, 0, none⟩) 1 1) (w4.alloc (.cells (enC en).toArray 73)) rfl (by rfl) rfl (by first | (go_simp; done) | (go_simp; rfl)) hh5 ?_
      try simp only [Act.put, List.setIfInBounds_toArray, List.set_cons_zero, List.set_cons_succ]
      refine hx1 8 (by kernel_rfl) ?_
      refine hx_pushW 8 (some 22) elemEn (.tmp 14) (.tmp 21) rfl (by rfl) rfl rfl rfl w4.heap.size rfl (ho4.below hal) en w4 rfl rfl (enC_one en) rfl ⟨by omega, by unfold maxLen; omega⟩ hw5.size ?_
      intro A3 c3 w6 ho6 hg6
      have hw6 : Below w2.heap.size w2 w6 := hw5.grown hg6 hw5.size (fun k e => ((ho4.below hal).lt k e).1)
      have hh6 := HK.out w6 hw6
      refine ⟨hh6, ?_⟩
      try simp only [Act.put, List.setIfInBounds_toArray, List.set_cons_zero, List.set_cons_succ]
      refine hx_take 9 (some 3) _ rfl (by kernel_rfl) (by kernel_rfl) (by kernel_rfl) (fun _ _ _ h => h) rfl (Or.inl ⟨by rfl, fun w hSw => by first | (go_simp; done) | (go_simp; with_reducible rfl) | (go_simp; rfl)⟩) (by assumption) ?_
      try simp only [Act.put, List.setIfInBounds_toArray, List.set_cons_zero, List.set_cons_succ]
      refine wpAnyH_done (by kernel_rfl) ?_ _
      clear hh4 hh5 hh6 hHeld hwd ho ho4 hal hw4 hw5 hb4 hg6 cE
      go_wp2_with fail
      go_roundw
      case rel => exact ⟨i + 1, A3, c3, rfl, by simp, hlt, by rw [HES1.out]; exact ho6, hw6⟩
      case measure => rw [intOf, intOf]; omega
    · have hil : i = l.length := by omega
      have hni : ¬ (i : Int) < l.length := by omega
      have HE := Lib.hid (And.intro (ho.base hb2'.size) (below_trans' hb2' hb2'.size hbr))
      have HI := Lib.hid hil
      clear ho hbr hil hlt
      go_wp2_with fail
      go_ret
      exact HP.out _ _ ⟨AO, cO, by rw [HEL.out, ← HI.out]; rfl, by rw [HEL.out, ← HI.out]; exact HE.out.1, HE.out.2⟩
end Go.Proofs.YthbodpjkckminaaGreatDoor
