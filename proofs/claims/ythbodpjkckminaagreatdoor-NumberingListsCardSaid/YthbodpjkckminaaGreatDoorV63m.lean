/- the law's built: a document of paragraphs of two lists. -/
import Derived.Test.YthbodpjkckminaaGreatDoorm20
namespace Go.Proofs.YthbodpjkckminaaGreatDoor
open Go.RowKit

theorem elemIm : Elem Tryz.prog 53 67 3 3 := Elem.mk Tryz.underlying53 (z := .agg #[.int .u8 0, .int .u8 0, .int .u8 0]) (by kernel_rfl) rfl (by omega)
theorem Sl.im {w : World} {A : Option Addr} {n : Nat} {l : List Im} (h : Sl w 3 imC A n l) {k : Nat} (hk : k < n) :
    ∃ ad, A = some ad ∧ ad.block < w.heap.size ∧ w.cell? (ad.add (k * 3)) = some (.int .u8 (gIm l k).li) ∧ w.cell? ⟨(ad.add (k * 3)).block, (ad.add (k * 3)).off + 1, none⟩ = some (.int .u8 (gIm l k).lv) ∧ w.cell? ⟨(ad.add (k * 3)).block, (ad.add (k * 3)).off + 2, none⟩ = some (.int .u8 (gIm l k).re) := by
  obtain ⟨ad, e, hl, h0, hj⟩ := h.fld imZ hk
  exact ⟨ad, e, hl, h0 _ rfl, hj 1 _ (by omega) rfl, hj 2 _ (by omega) rfl⟩
def dcA (AI : Option Addr) (mi cI gl : Nat) : Array Value := #[.slice AI mi cI, .slice none 0 0, .int .i64 0, .int .i64 0, .slice none 0 0, .slice none 0 0, .slice none 0 0, .slice none 0 0, .slice (some ⟨gl, 0, none⟩) 2 2, .slice none 0 0, .slice none 0 0]
structure BtS (w : World) (p6 p7 gl : Nat) (Aa : Option Addr) (na ca : Nat) (Ab : Option Addr) (nb cb : Nat) (AI : Option Addr) (mi cI : Nat) (zs : List It) (ys : List Fi) (v : World) : Prop where
  b6 : Blk v p6 63 #[.slice none 0 0, .slice none 0 0, .int .i64 0, .int .i64 0, .slice none 0 0, .slice none 0 0, .slice none 0 0, .slice none 0 0, .slice none 0 0, .slice none 0 0, .slice none 0 0]
  b7 : Blk v p7 63 #[.slice AI mi cI, .slice none 0 0, .int .i64 0, .int .i64 0, .slice none 0 0, .slice none 0 0, .slice none 0 0, .slice none 0 0, .slice (some ⟨gl, 0, none⟩) 2 2, .slice none 0 0, .slice none 0 0]
  bl : Blk v gl 96 #[.int .i64 1, .slice Aa na ca, .int .i64 2, .slice Ab nb cb]
  fm : Mk_ v w.heap.size AI mi cI zs ys
  l6 : w.heap.size ≤ p6
  l7 : w.heap.size ≤ p7
  n67 : p6 ≠ p7
  bel : Below w.heap.size w v
section
variable {w v v' : World} {p6 p7 gl na ca nb cb mi cI : Nat} {Aa Ab AI : Option Addr} {zs : List It} {ys : List Fi}
theorem BtS.below (h : BtS w p6 p7 gl Aa na ca Ab nb cb AI mi cI zs ys v) (hb : Below v.heap.size v v') : BtS w p6 p7 gl Aa na ca Ab nb cb AI mi cI zs ys v' :=
  ⟨h.b6.below hb, h.b7.below hb, h.bl.below hb, h.fm.below hb, h.l6, h.l7, h.n67, below_trans' h.bel h.bel.size hb⟩
theorem BtS.one (h : BtS w p6 p7 gl Aa na ca Ab nb cb AI mi cI zs ys v) {s : SV} {y : Fi} (hp : Own v w.heap.size 91 2 prC s.A s.n s.c y.ps) (hy : gFi ys mi = y) {A' : Option Addr} {c' : Nat}
    (hO : Own v' w.heap.size 102 11 itC A' (mi + 1) c' (zs ++ [itF y s])) (hg : v.grownBy v' (blk AI)) :
    BtS w p6 p7 gl Aa na ca Ab nb cb A' (mi + 1) c' (zs ++ [itF y s]) ys (v'.setCell ⟨p7, 0, none⟩ (.slice A' (mi + 1) c')) ∧ Blk v' p7 63 #[.slice AI mi cI, .slice none 0 0, .int .i64 0, .int .i64 0, .slice none 0 0, .slice none 0 0, .slice none 0 0, .slice none 0 0, .slice (some ⟨gl, 0, none⟩) 2 2, .slice none 0 0, .slice none 0 0] := by
  have hM := h.fm.push hp hy hO hg
  have hG := gset v' p7 0 (.slice A' (mi + 1) c')
  have y6 := h.b6.keep hg (fun e => h.fm.o.ne_blk h.b6 (by decide) e)
  have y7 := h.b7.keep hg (fun e => h.fm.o.ne_blk h.b7 (by decide) e)
  have yl := h.bl.keep hg (fun e => h.fm.o.ne_blk h.bl (by decide) e)
  refine ⟨⟨y6.keep hG (by have := h.n67; simp; omega), y7.set_ 0 _, yl.keep hG (y7.ne_ty yl (by decide)), ⟨hM.o.keep hG (fun k hk e => by cases hk; exact hM.o.ne_blk y7 (by decide) e), fun k hk => ?_⟩, h.l6, h.l7, h.n67, (h.bel.grown hg h.bel.size (fun k e => (h.fm.o.lt k e).1)).setCell (p := ⟨p7, 0, none⟩) h.l7 _⟩, y7⟩
  obtain ⟨s, e, hs⟩ := hM.f k hk
  exact ⟨s, e, hs.keep hG (fun k hk e => by cases hk; exact hs.ne_blk y7 (by decide) e)⟩
end
theorem bt_new (w : World) (Aa : Option Addr) (na ca : Nat) (Ab : Option Addr) (nb cb : Nat) (ys : List Fi) : BtS w w.heap.size (w.heap.size + 1 + 1) (w.heap.size + 1) Aa na ca Ab nb cb none 0 0 [] ys (((w.alloc (.cells #[.slice none 0 0, .slice none 0 0, .int .i64 0, .int .i64 0, .slice none 0 0, .slice none 0 0, .slice none 0 0, .slice none 0 0, .slice none 0 0, .slice none 0 0, .slice none 0 0] 63)).alloc (.cells #[.int .i64 1, .slice Aa na ca, .int .i64 2, .slice Ab nb cb] 96)).alloc (.cells #[.slice none 0 0, .slice none 0 0, .int .i64 0, .int .i64 0, .slice none 0 0, .slice none 0 0, .slice none 0 0, .slice none 0 0, .slice (some ⟨w.heap.size + 1, 0, none⟩) 2 2, .slice none 0 0, .slice none 0 0] 63)) := by
  generalize hZ : (#[.slice none 0 0, .slice none 0 0, .int .i64 0, .int .i64 0, .slice none 0 0, .slice none 0 0, .slice none 0 0, .slice none 0 0, .slice none 0 0, .slice none 0 0, .slice none 0 0] : Array Value) = Z
  generalize hC : (#[.int .i64 1, .slice Aa na ca, .int .i64 2, .slice Ab nb cb] : Array Value) = C
  generalize hD : (#[.slice none 0 0, .slice none 0 0, .int .i64 0, .int .i64 0, .slice none 0 0, .slice none 0 0, .slice none 0 0, .slice none 0 0, .slice (some ⟨w.heap.size + 1, 0, none⟩) 2 2, .slice none 0 0, .slice none 0 0] : Array Value) = D
  have B4 := ((Blk.new w 63 Z).alloc (.cells C 96)).alloc (.cells D 63)
  have BL := (Blk.new (w.alloc (.cells Z 63)) 96 C).alloc (.cells D 63)
  have B5 := Blk.new ((w.alloc (.cells Z 63)).alloc (.cells C 96)) 63 D
  simp only [World.size_alloc] at B4 BL B5
  have hb := (((alloc1 w (.cells Z 63)).alloc (by simp) (.cells C 96)).alloc (by simp; omega) (.cells D 63))
  subst hZ hC hD
  exact ⟨B4, B5, BL, Mk_.nil _ _ _, Nat.le_refl _, by omega, by omega, hb⟩
def BtPost (w : World) (Aa : Option Addr) (na ca : Nat) (Ab : Option Addr) (nb cb : Nat) (l : List Im) (e : Ending) (w' : World) : Prop := ∃ (AI : Option Addr) (cI : Nat) (zs : List It) (gl : Nat), e = .returned (.agg (docL AI (ysB l).length cI (some ⟨gl, 0, none⟩) 2 2).toArray) ∧ Mk_ w' w.heap.size AI (ysB l).length cI zs (ysB l) ∧ Blk w' gl 96 #[.int .i64 1, .slice Aa na ca, .int .i64 2, .slice Ab nb cb] ∧ Below w.heap.size w w'
set_option maxRecDepth 100000 in
set_option maxHeartbeats 8000000 in
theorem built_any (A : Option Addr) (n c : Nat) (l : List Im) (Aa : Option Addr) (na ca : Nat) (Ab : Option Addr) (nb cb : Nat) (w : World) (hl : Sl w 3 imC A n l) (hok : ∀ x, x ∈ l → ImOk x) :
    Calls Tryz.prog 18 #[.slice A n c, .slice Aa na ca, .slice Ab nb cb] w (BtPost w Aa na ca Ab nb cb l) := by
  have hlen := hl.len
  have HX := Lib.hid (bt_new w Aa na ca Ab nb cb (ysB l))
  have HP := Lib.hid (show ∀ e w', (∃ (AI : Option Addr) (cI : Nat) (zs : List It) (gl : Nat), e = .returned (.agg (docL AI (ysB l).length cI (some ⟨gl, 0, none⟩) 2 2).toArray) ∧ Mk_ w' w.heap.size AI (ysB l).length cI zs (ysB l) ∧ Blk w' gl 96 #[.int .i64 1, .slice Aa na ca, .int .i64 2, .slice Ab nb cb] ∧ Below w.heap.size w w') → BtPost w Aa na ca Ab nb cb l e w' from fun _ _ h => h)
  have HLN := Lib.hid hlen
  have HL := Lib.hid (fun W (hb : Below w.heap.size w W) => hl.below hb)
  have HYL := Lib.hid (ysB_len l)
  have HYA := Lib.hid (fun k (hk : k < (ysB l).length) => ysB_at l hk)
  have HOK := Lib.hid (fun k (hk : k < n) => show ImOk (gIm l k) from by
    have hk' : k < l.length := by omega
    have e : gIm l k = l[k] := by unfold gIm; rw [List.getD_eq_getElem?_getD, List.getElem?_eq_getElem hk']; rfl
    rw [e]; exact hok _ (List.getElem_mem hk'))
  clear hl hok hlen
  generalize ysB l = ys at *
  go_enter Tryz.func18, Tryz.ntmps18
  go_upto_region 1 with fail
  go_cut [7] (fun v7 wx => ∃ p6 p7 gl, w.heap.size = p6 ∧ v7 = .pointer (some ⟨p7, 0, none⟩) ∧ BtS w p6 p7 gl Aa na ca Ab nb cb none 0 0 [] ys wx)
  case first =>
    go_wp2_with fail
    go_meet
    case rel => exact ⟨_, _, _, rfl, rfl, HX.out⟩
  case rest =>
  obtain ⟨p6, p7, gl, hp6, rfl, X0⟩ := hcut
  rw [hp6]
  clear HX hp6
  generalize wc = w1 at *
  go_wp2_with fail
  go_loopw [8] (fun vi wr => ∃ (i : Nat) (AI : Option Addr) (cI : Nat) (zs : List It), vi = .int .i64 i ∧ i ≤ n ∧ i ≤ 40 ∧ BtS w p6 p7 gl Aa na ca Ab nb cb AI i cI zs ys wr) (fun vi _ => n - (intOf vi).toNat)
  case atStart => exact ⟨0, none, 0, [], rfl, Nat.zero_le _, Nat.zero_le _, X0⟩
  case round =>
    obtain ⟨i, AI, cI, zs, rfl, hi, hi40, X⟩ := hrel
    clear X0
    by_cases hlt : i < n ∧ i < 40
    · obtain ⟨hlt, hlt40⟩ := hlt
      obtain ⟨ad, eA, hadl, k0, k1, k2⟩ := (HL.out _ X.bel).im hlt
      subst eA
      have hox := HOK.out i hlt
      have HG := Lib.hid (show gFi ys i = imF (gIm l i) from HYA.out i (by rw [HYL.out, ← HLN.out] at *; omega))
      obtain ⟨x, hx⟩ : ∃ x, x = gIm l i := ⟨_, rfl⟩
      rw [← hx] at k0 k1 k2 hox HG
      clear hx
      have hlt' : (i : Int) < n := by omega
      have hlt4' : (i : Int) < 40 := by omega
      have HC := Lib.hid (show ∀ W, Below wr.heap.size wr W → W.cell? (ad.add (i * 3)) = some (.int .u8 x.li) ∧ W.cell? ⟨(ad.add (i * 3)).block, (ad.add (i * 3)).off + 1, none⟩ = some (.int .u8 x.lv) ∧ W.cell? ⟨(ad.add (i * 3)).block, (ad.add (i * 3)).off + 2, none⟩ = some (.int .u8 x.re) from fun W hb => ⟨keepC hb k0, keepC hb k1, keepC hb k2⟩)
      have h3 : x.li.tmod 3 = x.li % 3 := Int.tmod_eq_emod_of_nonneg hox.li.1
      have h9 : x.lv.tmod 9 = x.lv % 9 := Int.tmod_eq_emod_of_nonneg hox.lv.1
      have h8 : x.re.tmod 8 = x.re % 8 := Int.tmod_eq_emod_of_nonneg hox.re.1
      have hm3 : 0 ≤ x.li % 3 ∧ x.li % 3 < 3 := by omega
      have hm9 : 0 ≤ x.lv % 9 ∧ x.lv % 9 < 9 := by omega
      have hm8 : 0 ≤ x.re % 8 ∧ x.re % 8 < 8 := by omega
      have hwa : IntKind.i64.wrap (x.li % 3) = x.li % 3 := IntWalk.i64_in _ (by omega)
      have hwb : IntKind.i64.wrap (1 + x.li % 3) = 1 + x.li % 3 := IntWalk.i64_in _ (by omega)
      have hwc : IntKind.i64.wrap (x.lv % 9) = x.lv % 9 := IntWalk.i64_in _ (by omega)
      have hwd : IntKind.i64.wrap (1 + x.lv % 9) = 1 + x.lv % 9 := IntWalk.i64_in _ (by omega)
      have hwe : IntKind.i64.wrap (x.re % 8) = x.re % 8 := IntWalk.i64_in _ (by omega)
      go_upto_region 6 with fail
      by_cases hq : x.li % 3 < 2
      · have hB : liB x = true := decide_eq_true hq
        go_upto_region 7 with fail
        refine wp_region_held_drew (S := fun W => W.cell? (ad.add (i * 3)) = some (.int .u8 x.li) ∧ W.cell? ⟨(ad.add (i * 3)).block, (ad.add (i * 3)).off + 1, none⟩ = some (.int .u8 x.lv)) (by kernel_rfl) ⟨k0, k1⟩ (fun hHeld => ?_)
        have hbd := bDrew (Below.refl wr.heap.size wr)
        have X := X.below hbd
        clear k0 k1 k2
        generalize wr.drew = wd at *
        have hal := alloc1 wd (.cells #[.int .i64 33, .int .i64 (1 + x.li % 3), .int .i64 34, .int .i64 (1 + x.lv % 9)] 91)
        have oP : Own (wd.alloc (.cells #[.int .i64 33, .int .i64 (1 + x.li % 3), .int .i64 34, .int .i64 (1 + x.lv % 9)] 91)) w.heap.size 91 2 prC (some ⟨wd.heap.size, 0, none⟩) 2 2 [⟨33, 1 + x.li % 3⟩, ⟨34, 1 + x.lv % 9⟩] := Own.lit (w := wd) (B := w.heap.size) (s := 2) (e := 91) (enc := prC) (xs := [⟨33, 1 + x.li % 3⟩, ⟨34, 1 + x.lv % 9⟩]) X.bel.size rfl (show (2 : Nat) ≤ maxLen by unfold maxLen; omega)
        have hb2 := below_trans' hbd hbd.size hal
        have hh2 := HC.out _ hb2
        refine hx_take 0 (some 35) _ rfl (by kernel_rfl) (by kernel_rfl) (by kernel_rfl) (fun _ _ _ h => h) rfl (Or.inl ⟨by rfl, fun w hSw => by first | (go_simp; done) | (go_simp; with_reducible rfl) | (go_simp; rfl)⟩) (by assumption) ?_
        try simp only [Act.put, List.setIfInBounds_toArray, List.set_cons_zero, List.set_cons_succ]
        refine hx_take 1 (some 36) _ rfl (by kernel_rfl) (by kernel_rfl) (by kernel_rfl) (fun _ _ _ h => h) rfl (Or.inl ⟨by rfl, fun w hSw => by first | (go_simp; done) | (go_simp; with_reducible rfl) | (go_simp; rfl)⟩) (by assumption) ?_
        try simp only [Act.put, List.setIfInBounds_toArray, List.set_cons_zero, List.set_cons_succ]
        refine hx_take 9 (some 44) _ rfl (by kernel_rfl) (by kernel_rfl) (by kernel_rfl) (fun _ _ _ h => h) rfl (Or.inl ⟨by rfl, fun w hSw => by first | (go_simp; done) | (go_simp; with_reducible rfl) | (go_simp; rfl)⟩) (by assumption) ?_
        try simp only [Act.put, List.setIfInBounds_toArray, List.set_cons_zero, List.set_cons_succ]
        refine hx_take 10 (some 45) _ rfl (by kernel_rfl) (by kernel_rfl) (by kernel_rfl) (fun _ _ _ h => h) rfl (Or.inl ⟨by rfl, fun w hSw => by first | (go_simp; done) | (go_simp; with_reducible rfl) | (go_simp; rfl)⟩) (by assumption) ?_
        try simp only [Act.put, List.setIfInBounds_toArray, List.set_cons_zero, List.set_cons_succ]
        refine hx_take 2 (some 37) _ rfl (by kernel_rfl) (by kernel_rfl) (by kernel_rfl) (fun _ _ _ h => h) rfl (Or.inl ⟨by rfl, fun w hSw => by first | (go_simp; done) | (go_simp; with_reducible rfl) | (go_simp; rfl)⟩) (by assumption) ?_
        try simp only [Act.put, List.setIfInBounds_toArray, List.set_cons_zero, List.set_cons_succ]
        refine hx_take 11 (some 46) _ rfl (by kernel_rfl) (by kernel_rfl) (by kernel_rfl) (fun _ _ _ h => h) rfl (Or.inl ⟨by rfl, fun w hSw => by first | (go_simp; done) | (go_simp; with_reducible rfl) | (go_simp; rfl)⟩) (by assumption) ?_
        try simp only [Act.put, List.setIfInBounds_toArray, List.set_cons_zero, List.set_cons_succ]
        refine hx_take 3 (some 38) _ rfl (by kernel_rfl) (by kernel_rfl) (by kernel_rfl) (fun _ _ _ h => h) rfl (Or.inl ⟨by rfl, fun w hSw => by first | (go_simp; done) | (go_simp; with_reducible rfl) | (go_simp; rfl)⟩) (by assumption) ?_
        try simp only [Act.put, List.setIfInBounds_toArray, List.set_cons_zero, List.set_cons_succ]
        refine hx_take 12 (some 47) _ rfl (by kernel_rfl) (by kernel_rfl) (by kernel_rfl) (fun _ _ _ h => h) rfl (Or.inl ⟨by rfl, fun w hSw => by first | (go_simp; done) | (go_simp; with_reducible rfl) | (go_simp; rfl)⟩) (by assumption) ?_
        try simp only [Act.put, List.setIfInBounds_toArray, List.set_cons_zero, List.set_cons_succ]
        refine hx_take 4 (some 39) _ rfl (by kernel_rfl) (by kernel_rfl) (by kernel_rfl) (fun _ _ _ h => h) rfl (Or.inl ⟨by rfl, fun w hSw => by first | (go_simp; done) | (go_simp; with_reducible rfl) | (go_simp; rfl)⟩) (by assumption) ?_
        try simp only [Act.put, List.setIfInBounds_toArray, List.set_cons_zero, List.set_cons_succ]
        refine hx_take 13 (some 48) _ rfl (by kernel_rfl) (by kernel_rfl) (by kernel_rfl) (fun _ _ _ h => h) rfl (Or.inl ⟨by rfl, fun w hSw => by first | (go_simp; done) | (go_simp; with_reducible rfl) | (go_simp; rfl)⟩) (by assumption) ?_
        try simp only [Act.put, List.setIfInBounds_toArray, List.set_cons_zero, List.set_cons_succ]
        refine hx_take 5 (some 40) (.int .u8 (x.li % 3)) rfl (by kernel_rfl) (by kernel_rfl) (by kernel_rfl) (fun _ _ _ h => h) rfl (Or.inl ⟨by rfl, fun w hSw => by first | (go_simp; done) | (go_simp; with_reducible rfl) | (go_simp; rfl)⟩) (by assumption) ?_
        try simp only [Act.put, List.setIfInBounds_toArray, List.set_cons_zero, List.set_cons_succ]
        refine hx_take 14 (some 49) (.int .u8 (x.lv % 9)) rfl (by kernel_rfl) (by kernel_rfl) (by kernel_rfl) (fun _ _ _ h => h) rfl (Or.inl ⟨by rfl, fun w hSw => by first | (go_simp; done) | (go_simp; with_reducible rfl) | (go_simp; rfl)⟩) (by assumption) ?_
        try simp only [Act.put, List.setIfInBounds_toArray, List.set_cons_zero, List.set_cons_succ]
        refine hx_take 6 (some 41) (.int .i64 (x.li % 3)) rfl (by kernel_rfl) (by kernel_rfl) (by kernel_rfl) (fun _ _ _ h => h) rfl (Or.inl ⟨by rfl, fun w hSw => by first | (go_simp; done) | (go_simp; with_reducible rfl) | (go_simp; rfl)⟩) (by assumption) ?_
        try simp only [Act.put, List.setIfInBounds_toArray, List.set_cons_zero, List.set_cons_succ]
        refine hx_take 15 (some 50) (.int .i64 (x.lv % 9)) rfl (by kernel_rfl) (by kernel_rfl) (by kernel_rfl) (fun _ _ _ h => h) rfl (Or.inl ⟨by rfl, fun w hSw => by first | (go_simp; done) | (go_simp; with_reducible rfl) | (go_simp; rfl)⟩) (by assumption) ?_
        try simp only [Act.put, List.setIfInBounds_toArray, List.set_cons_zero, List.set_cons_succ]
        refine hx_take 7 (some 42) (.int .i64 (1 + x.li % 3)) rfl (by kernel_rfl) (by kernel_rfl) (by kernel_rfl) (fun _ _ _ h => h) rfl (Or.inl ⟨by rfl, fun w hSw => by first | (go_simp; done) | (go_simp; with_reducible rfl) | (go_simp; rfl)⟩) (by assumption) ?_
        try simp only [Act.put, List.setIfInBounds_toArray, List.set_cons_zero, List.set_cons_succ]
        refine hx_take 16 (some 51) (.int .i64 (1 + x.lv % 9)) rfl (by kernel_rfl) (by kernel_rfl) (by kernel_rfl) (fun _ _ _ h => h) rfl (Or.inl ⟨by rfl, fun w hSw => by first | (go_simp; done) | (go_simp; with_reducible rfl) | (go_simp; rfl)⟩) (by assumption) ?_
        try simp only [Act.put, List.setIfInBounds_toArray, List.set_cons_zero, List.set_cons_succ]
        refine hx_take 8 (some 43) _ rfl (by kernel_rfl) (by kernel_rfl) (by kernel_rfl) (fun _ _ _ h => h) rfl (Or.inl ⟨by rfl, fun w hSw => by first | (go_simp; done) | (go_simp; with_reducible rfl) | (go_simp; rfl)⟩) (by assumption) ?_
        try simp only [Act.put, List.setIfInBounds_toArray, List.set_cons_zero, List.set_cons_succ]
        refine hx_take 17 (some 52) _ rfl (by kernel_rfl) (by kernel_rfl) (by kernel_rfl) (fun _ _ _ h => h) rfl (Or.inl ⟨by rfl, fun w hSw => by first | (go_simp; done) | (go_simp; with_reducible rfl) | (go_simp; rfl)⟩) (by assumption) ?_
        try simp only [Act.put, List.setIfInBounds_toArray, List.set_cons_zero, List.set_cons_succ]
        refine hx1 18 (by kernel_rfl) ?_
        refine hx_val 18 (some 53) (.slice (some ⟨wd.heap.size, 0, none⟩) 2 2) (wd.alloc (.cells #[.int .i64 33, .int .i64 (1 + x.li % 3), .int .i64 34, .int .i64 (1 + x.lv % 9)] 91)) rfl (by rfl) rfl (by first | (go_simp; done) | (go_simp; rfl)) ⟨hh2.1, hh2.2.1⟩ ?_
        try simp only [Act.put, List.setIfInBounds_toArray, List.set_cons_zero, List.set_cons_succ]
        have hh3 : (wd.alloc (.cells #[.int .i64 33, .int .i64 (1 + x.li % 3), .int .i64 34, .int .i64 (1 + x.lv % 9)] 91)).cell? (ad.add (i * 3)) = some (.int .u8 x.li) ∧ (wd.alloc (.cells #[.int .i64 33, .int .i64 (1 + x.li % 3), .int .i64 34, .int .i64 (1 + x.lv % 9)] 91)).cell? ⟨(ad.add (i * 3)).block, (ad.add (i * 3)).off + 1, none⟩ = some (.int .u8 x.lv) := ⟨hh2.1, hh2.2.1⟩
        refine hx_take 19 (some 9) _ rfl (by kernel_rfl) (by kernel_rfl) (by kernel_rfl) (fun _ _ _ h => h) rfl (Or.inl ⟨by rfl, fun w hSw => by first | (go_simp; done) | (go_simp; with_reducible rfl) | (go_simp; rfl)⟩) (by assumption) ?_
        try simp only [Act.put, List.setIfInBounds_toArray, List.set_cons_zero, List.set_cons_succ]
        refine wpAnyH_done (by kernel_rfl) ?_ _
        have k2 := hh2.2.2
        clear hh2 hh3 hHeld hbd hb2
        obtain ⟨gp, hgp⟩ : ∃ g, g = wd.heap.size := ⟨_, rfl⟩
        rw [← hgp] at oP ⊢
        have HGP := Lib.hid (show wd.heap.size ≤ gp by omega)
        clear hgp
        generalize wd.alloc (.cells #[.int .i64 33, .int .i64 (1 + x.li % 3), .int .i64 34, .int .i64 (1 + x.lv % 9)] 91) = wy at *
        by_cases hr : 4 < x.re % 8
        · have hR : reB x = true := decide_eq_true hr
          have hps : imP x = [⟨33, 1 + x.li % 3⟩, ⟨34, 1 + x.lv % 9⟩] ++ [⟨35, x.re % 8⟩] := by unfold imP imQ; rw [if_pos hB, if_pos hR]; rfl
          have hal2 := below_trans' hal hal.size (alloc1 wy (.cells (prC ⟨35, x.re % 8⟩).toArray 91))
          go_upto_region 11 with (at_builtin; refine wpList_push elemPr rfl (.tmp 63) (.tmp 66) rfl rfl _ rfl (oP.alloc _) ⟨35, x.re % 8⟩ _ rfl rfl (prC_one _) rfl ⟨by omega, by unfold maxLen; omega⟩ (Nat.le_trans X.bel.size hal2.size) ?_; intro A5 c5 w5 ho5 hg5 ha5)
          have X := X.below (hal2.grown hg5 hal2.size (fun k e => by cases e; exact HGP.out))
          clear hal hal2 oP hg5 ha5 k2 HGP
          rw [← hps] at ho5
          have HOY := Lib.hid (fun W (hb : Below w5.heap.size w5 W) => show Own W w.heap.size 91 2 prC A5 3 c5 (imF x).ps from ho5.below hb)
          clear ho5 hps
          obtain ⟨wy, rfl⟩ : ∃ W, W = w5 := ⟨_, rfl⟩
          -- the item is appended
          have m7 := X.b7.cell 0 rfl
          have f7 := X.b7.frozen 0
          have m7' := (X.b7.alloc (.cells (itC (itF (imF x) ⟨A5, 3, c5⟩)).toArray 102)).cell 0 rfl
          have f7' := (X.b7.alloc (.cells (itC (itF (imF x) ⟨A5, 3, c5⟩)).toArray 102)).frozen 0
          have Y := X.below (alloc1 wy (.cells (itC (itF (imF x) ⟨A5, 3, c5⟩)).toArray 102))
          go_upto_region 4 with (at_builtin; refine wpList_push elemIt rfl (.tmp 69) (.tmp 73) rfl rfl _ rfl Y.fm.o (itF (imF x) ⟨A5, 3, c5⟩) _ rfl rfl (itC_one _) rfl ⟨by omega, by unfold maxLen; omega⟩ Y.bel.size ?_; intro A3 c3 w13 ho3 hg3 ha3; obtain ⟨Z3, z7⟩ := Y.one (HOY.out _ (alloc1 wy _)) HG.out ho3 hg3; have m8 := z7.cell 0 rfl; have f8 := z7.frozen 0)
          have HF := Lib.hid Z3
          clear Z3 z7 m8 f8 ho3 hg3 ha3 Y m7 f7 m7' f7' X
          go_wp2_with fail
          go_roundw
          case rel => exact ⟨i + 1, A3, c3, _, by simp, by omega, by omega, HF.out⟩
          case measure => rw [intOf, intOf]; omega
        · have hR : reB x = false := decide_eq_false hr
          have X := X.below hal
          have hps : imP x = [⟨33, 1 + x.li % 3⟩, ⟨34, 1 + x.lv % 9⟩] := by unfold imP imQ; rw [if_pos hB, hR]; rfl
          rw [← hps] at oP
          have HOY := Lib.hid (fun W (hb : Below wy.heap.size wy W) => show Own W w.heap.size 91 2 prC (some ⟨gp, 0, none⟩) 2 2 (imF x).ps from oP.below hb)
          clear oP hps
          go_upto_region 11 with fail
          clear k2 hal HGP
          -- the item is appended
          have m7 := X.b7.cell 0 rfl
          have f7 := X.b7.frozen 0
          have m7' := (X.b7.alloc (.cells (itC (itF (imF x) ⟨(some ⟨gp, 0, none⟩), 2, 2⟩)).toArray 102)).cell 0 rfl
          have f7' := (X.b7.alloc (.cells (itC (itF (imF x) ⟨(some ⟨gp, 0, none⟩), 2, 2⟩)).toArray 102)).frozen 0
          have Y := X.below (alloc1 wy (.cells (itC (itF (imF x) ⟨(some ⟨gp, 0, none⟩), 2, 2⟩)).toArray 102))
          go_upto_region 4 with (at_builtin; refine wpList_push elemIt rfl (.tmp 69) (.tmp 73) rfl rfl _ rfl Y.fm.o (itF (imF x) ⟨(some ⟨gp, 0, none⟩), 2, 2⟩) _ rfl rfl (itC_one _) rfl ⟨by omega, by unfold maxLen; omega⟩ Y.bel.size ?_; intro A3 c3 w13 ho3 hg3 ha3; obtain ⟨Z3, z7⟩ := Y.one (HOY.out _ (alloc1 wy _)) HG.out ho3 hg3; have m8 := z7.cell 0 rfl; have f8 := z7.frozen 0)
          have HF := Lib.hid Z3
          clear Z3 z7 m8 f8 ho3 hg3 ha3 Y m7 f7 m7' f7' X
          go_wp2_with fail
          go_roundw
          case rel => exact ⟨i + 1, A3, c3, _, by simp, by omega, by omega, HF.out⟩
          case measure => rw [intOf, intOf]; omega
      · have hB : liB x = false := decide_eq_false hq
        have hps : imP x = [] := by unfold imP; rw [hB]; rfl
        have HOY := Lib.hid (fun W (hb : Below wr.heap.size wr W) => show Own W w.heap.size 91 2 prC none 0 0 (imF x).ps from by rw [show (imF x).ps = [] from hps]; exact Own.nil_ _ _ _ _ _)
        go_upto_region 11 with fail
        clear k0 k1 k2 hps
        obtain ⟨wy, rfl⟩ : ∃ W, W = wr := ⟨_, rfl⟩
        -- the item is appended
        have m7 := X.b7.cell 0 rfl
        have f7 := X.b7.frozen 0
        have m7' := (X.b7.alloc (.cells (itC (itF (imF x) ⟨none, 0, 0⟩)).toArray 102)).cell 0 rfl
        have f7' := (X.b7.alloc (.cells (itC (itF (imF x) ⟨none, 0, 0⟩)).toArray 102)).frozen 0
        have Y := X.below (alloc1 wy (.cells (itC (itF (imF x) ⟨none, 0, 0⟩)).toArray 102))
        go_upto_region 4 with (at_builtin; refine wpList_push elemIt rfl (.tmp 69) (.tmp 73) rfl rfl _ rfl Y.fm.o (itF (imF x) ⟨none, 0, 0⟩) _ rfl rfl (itC_one _) rfl ⟨by omega, by unfold maxLen; omega⟩ Y.bel.size ?_; intro A3 c3 w13 ho3 hg3 ha3; obtain ⟨Z3, z7⟩ := Y.one (HOY.out _ (alloc1 wy _)) HG.out ho3 hg3; have m8 := z7.cell 0 rfl; have f8 := z7.frozen 0)
        have HF := Lib.hid Z3
        clear Z3 z7 m8 f8 ho3 hg3 ha3 Y m7 f7 m7' f7' X
        go_wp2_with fail
        go_roundw
        case rel => exact ⟨i + 1, A3, c3, _, by simp, by omega, by omega, HF.out⟩
        case measure => rw [intOf, intOf]; omega
    · have hyi : ys.length = i := by rw [HYL.out, HLN.out]; omega
      have HYI := Lib.hid hyi
      have q0 := X.b7.cell 0 rfl
      have q1 := X.b7.cell 1 rfl
      have q2 := X.b7.cell 2 rfl
      have q3 := X.b7.cell 3 rfl
      have q4 := X.b7.cell 4 rfl
      have q5 := X.b7.cell 5 rfl
      have q6 := X.b7.cell 6 rfl
      have q7 := X.b7.cell 7 rfl
      have q8 := X.b7.cell 8 rfl
      have q9 := X.b7.cell 9 rfl
      have q10 := X.b7.cell 10 rfl
      have B6 := X.b6
      have hG := gsetRow wr p6 #[.slice AI i cI, .slice none 0 0, .int .i64 0, .int .i64 0, .slice none 0 0, .slice none 0 0, .slice none 0 0, .slice none 0 0, .slice (some ⟨gl, 0, none⟩) 2 2, .slice none 0 0, .slice none 0 0]
      have HM : Mk_ (wr.setRow p6 #[.slice AI i cI, .slice none 0 0, .int .i64 0, .int .i64 0, .slice none 0 0, .slice none 0 0, .slice none 0 0, .slice none 0 0, .slice (some ⟨gl, 0, none⟩) 2 2, .slice none 0 0, .slice none 0 0]) w.heap.size AI i cI zs ys := ⟨X.fm.o.keep hG (fun k hk e => by cases hk; exact X.fm.o.ne_blk X.b6 (by decide) e), fun k hk => by
        obtain ⟨s, e, hs⟩ := X.fm.f k hk
        exact ⟨s, e, hs.keep hG (fun k hk e => by cases hk; exact hs.ne_blk X.b6 (by decide) e)⟩⟩
      have HE := Lib.hid (And.intro HM (And.intro (X.bl.keep hG (X.b6.ne_ty X.bl (by decide))) (below_setRow X.bel X.l6 #[.slice AI i cI, .slice none 0 0, .int .i64 0, .int .i64 0, .slice none 0 0, .slice none 0 0, .slice none 0 0, .slice none 0 0, .slice (some ⟨gl, 0, none⟩) 2 2, .slice none 0 0, .slice none 0 0])))
      clear hG HM X hyi
      unfold Blk at B6
      have h2c : ((i : Int) < n ∧ ¬ (i : Int) < 40) ∨ ¬ (i : Int) < n := by omega
      clear hlt
      rcases h2c with ⟨h1c, h2c⟩ | h2c
      all_goals
        go_wp2_with (refine wpList_store_row rfl 63 _ _ rfl p6 #[.slice AI i cI, .slice none 0 0, .int .i64 0, .int .i64 0, .slice none 0 0, .slice none 0 0, .slice none 0 0, .slice none 0 0, .slice (some ⟨gl, 0, none⟩) 2 2, .slice none 0 0, .slice none 0 0] rfl rfl 63 _ B6 (by kernel_rfl) rfl (by simp [Value.oneCell']) ?_)
        refine bodyPost_ret (results_cell_row rfl _ _ p6 63 _ (0, 0) _ rfl (setRow_heap _ p6 _ _ _ _ B6) Tryz.underlying63 rfl (by kernel_rfl)) rfl ?_
        exact HP.out _ _ ⟨AI, cI, zs, gl, (by rw [HYI.out]; rfl), (by rw [HYI.out]; exact HE.out.1), HE.out.2.1, HE.out.2.2⟩
end Go.Proofs.YthbodpjkckminaaGreatDoor
