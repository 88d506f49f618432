/- leveltext.Fill, walked. renumber.Seq's find: lists by their ids. Several effects in memory, and what a region that draws its order does with them. renumber.Seq's find and the law's find; what checks answer, plain. renumber.Seq's check, plain and walked. The law's checkMarks. -/
import Derived.Test.YtbpodnhebjjkaaaGreatDoorm8
import Derived.Lib.SlicesSearch
import Derived.Deep.LoopGhost
import Derived.Test.YtbpodnhebjjkaaaGreatDoorm7
import Derived.Deep.RegionHeld3
import Derived.Test.YtbpodnhebjjkaaaGreatDoorm6
namespace Go.Proofs.YtbpodnhebjjkaaaGreatDoor
open Go.RowKit

theorem keep4 {w w' : World} {p0 p1 p2 p3 : Addr} {v0 v1 v2 v3 : Value} (hb : Below w.heap.size w w') (h : w.cell? p0 = some v0 ∧ w.cell? p1 = some v1 ∧ w.cell? p2 = some v2 ∧ w.cell? p3 = some v3) :
    w'.cell? p0 = some v0 ∧ w'.cell? p1 = some v1 ∧ w'.cell? p2 = some v2 ∧ w'.cell? p3 = some v3 := by
  have k : ∀ p v, w.cell? p = some v → w'.cell? p = some v := fun p v h => (hb.cell (World.block_lt_of_cell? _ _ h)).trans h
  exact ⟨k _ _ h.1, k _ _ h.2.1, k _ _ h.2.2.1, k _ _ h.2.2.2⟩
set_option maxHeartbeats 8000000 in
set_option maxRecDepth 100000 in
theorem fill_any (A : Option Addr) (n cA : Nat) (ls : List Lv) (L : Nat) (AN : Option Addr) (m cN : Nat) (ns : List Int) (w : World) (hg : Gl w) (ha : Sl w 4 lvC A n ls) (hns : Sl w 1 intC AN m ns) (hk : ckE ls n ((L : Int) + 1) = 0) (hm : L + 1 ≤ m) :
    Calls Tryz.prog 42 #[.slice A n cA, .int .i64 ((L : Int) + 1), .slice AN m cN] w fun e w' => e = .returned (.tuple #[.string (fillB ls L ns), .int .i64 0]) ∧ Below w.heap.size w w' := by
  have hlen := ha.len
  obtain ⟨h1, _, h3, h4⟩ := ckE_ok hlen hk
  have hL : L < n := by omega
  have cc := ltcheck_any A n cA ls ((L : Int) + 1) w ha
  rw [hk] at cc
  obtain ⟨_, _, _, _, _, _, hpe, hlv⟩ := lv_right h1 (i := L) (by omega)
  obtain ⟨hpo, hpl⟩ := parseP_ok (gL ls L).text
  have HFB := Lib.hid (show fillB ls L ns = ⟨(fillL ls L ns (parseP (gL ls L).text).length).toArray⟩ by unfold fillB fillL; rw [List.take_length])
  have HFS := Lib.hid (fun k hk => fillL_succ ls L ns (k := k) hk)
  have HFL := Lib.hid (fillL_len ls L ns)
  have hpa := fun W => parse_any (gL ls L).text W
  clear hk h1
  have hlm2 : ¬ (m : Int) < (L : Int) + 1 := by omega
  go_enter Tryz.func42, Tryz.ntmps42
  go_upto_region 6 with (first | (go_at_call 55; refine cc.mono ?_; rintro er w2 ⟨rfl, hb2⟩))
  obtain ⟨ad, e, hl2, _, _, k2, _⟩ := (ha.below hb2).lv hL
  subst e
  go_cut [9, 10] (fun v9 v10 wx => ∃ (B : Option Addr) (cB : Nat), v9 = .slice B (parseP (gL ls L).text).length cB ∧ v10 = .int .i64 0 ∧ Own wx w2.heap.size 124 3 ptC B (parseP (gL ls L).text).length cB (parseP (gL ls L).text) ∧ Below w2.heap.size w2 wx)
  case first =>
    generalize (gL ls L).text = txt at *
    go_wp2_with (first | (go_at_call 48; refine (hpa _).mono ?_; rintro er w3 ⟨B, cB, rfl, ho, hb3⟩))
    go_meet
    case rel => exact ⟨B, cB, rfl, rfl, ho, hb3⟩
  case rest =>
  obtain ⟨B, cB, rfl, rfl, ho, hb3⟩ := hcut
  have hbw := below_trans' hb2 hb2.size hb3
  have ho := ho.base hb2.size
  clear hb2 hb3 k2 hpa cc hpe
  generalize parseP (gL ls L).text = ps at *
  have b0 : Lib.IsBuilderF 134 5 wc.heap.size wc.heap.size (Lib.byteCells []) (wc.alloc (.cells #[.pointer none, .slice none 0 0] 134)) := Lib.IsBuilderF.of (Lib.fresh_isBuilder 134 5 wc)
  have hbl := (hbw.alloc hbw.size (.cells #[.pointer none, .slice none 0 0] 134))
  have hneB : blk B ≠ some wc.heap.size := fun e => by have := (ho.lt _ e).2; omega
  have ho1 := ho.alloc (.cells #[.pointer none, .slice none 0 0] 134)
  have hwB := hbw.size
  obtain ⟨b, hb⟩ : ∃ b, b = wc.heap.size := ⟨_, rfl⟩
  have HBS := Lib.hid hb
  rw [← hb] at b0 hneB hwB
  clear ho hb
  go_upto_region 7 with fail
  go_cut [11] (fun v11 wx => v11 = .pointer (some ⟨b, 0, none⟩) ∧ Lib.IsBuilderF 134 5 b b (Lib.byteCells []) wx ∧ Own wx w.heap.size 124 3 ptC B ps.length cB ps ∧ b < wx.heap.size ∧ Below w.heap.size w wx)
  case first =>
    go_wp2_with fail
    go_meet
    case rel => exact ⟨by rw [HBS.out], b0, ho1, by rw [HBS.out]; simp, hbl⟩
  case rest =>
  obtain ⟨rfl, b1, ho, hsz, hbw⟩ := hcut
  clear ho1 b0 hbl
  go_wp2_with fail
  go_loopw [36] (fun vi wr => ∃ i : Nat, vi = .int .i64 i ∧ i ≤ ps.length ∧ Lib.IsBuilderF 134 5 b b (Lib.byteCells (fillL ls L ns i)) wr ∧ Own wr w.heap.size 124 3 ptC B ps.length cB ps ∧ b < wr.heap.size ∧ Below w.heap.size w wr) (fun vi _ => ps.length - (intOf vi).toNat)
  case atStart => exact ⟨0, rfl, Nat.zero_le _, b1, ho, hsz, hbw⟩
  case round =>
    obtain ⟨i, rfl, hi, b2, ho2, hsz2, hbw2⟩ := hrel
    clear b1 ho hsz hbw
    by_cases hlt : i < ps.length
    · obtain ⟨ap, e, hap, k0, k1, k2⟩ := (ho2.sl ptC_len).pt hlt
      subst e
      have hmem : gP ps i ∈ ps := by rw [gP_get _ hlt]; exact List.getElem_mem hlt
      have po := hpo _ hmem
      have pl := hlv _ hmem
      have hS := HFS.out i hlt
      have hFl := HFL.out i
      unfold fillP at hS
      have HS := Lib.hid hS
      clear hS hmem
      generalize gP ps i = p at *
      obtain ⟨pt, lv, pb⟩ := p
      unfold PtOk at po
      simp only at k0 k1 k2 po pl HS
      go_upto_region 10 with fail
      go_cut [13] (fun v13 wx => ∃ p13, v13 = .pointer (some ⟨p13, 0, none⟩) ∧ Blk wx p13 124 #[.string ⟨pt.toArray⟩, .int .i64 lv, .bool pb] ∧ wr.heap.size ≤ p13 ∧ Below wr.heap.size wr wx)
      case first =>
        go_wp2_with fail
        go_meet
        case rel => exact ⟨_, rfl, Blk.new _ _ _, Nat.le_refl _, (Below.refl _ _).alloc (Nat.le_refl _) _⟩
      case rest =>
      obtain ⟨p13, rfl, B13, hp13, hb4⟩ := hcut
      have b3 := ibBelow b2 hb4
      have ho3 := ho2.below hb4
      have hbc := below_trans' hbw2 hbw2.size hb4
      have hsz3 : b < wc.heap.size := Nat.lt_of_lt_of_le hsz2 hb4.size
      have np : p13 ≠ b := by omega
      clear b2 ho2 hbw2 hb4 k0 k1 k2
      have q0 : wc.cell? ⟨p13, 0, none⟩ = some (.string ⟨pt.toArray⟩) := B13.cell 0 rfl
      have q1 : wc.cell? ⟨p13, 1, none⟩ = some (.int .i64 lv) := B13.cell 1 rfl
      have q2 : wc.cell? ⟨p13, 2, none⟩ = some (.bool pb) := B13.cell 2 rfl
      by_cases hz : lv = 0
      · subst hz
        have HT := Lib.hid (HS.out.trans (by rw [if_pos rfl] : _ = fillL ls L ns i ++ pt))
        clear HS
        have hwr := bWrite b b (fillL ls L ns i) ⟨pt.toArray⟩ wc b3 (by have : (⟨pt.toArray⟩ : ByteArray).size = pt.length := List.size_toArray; omega) (by omega)
        go_wp2_with (first | (go_at_call 56; refine hwr.mono ?_; rintro er w6 ⟨rfl, hB4, hb6, hk6⟩))
        go_roundw
        case measure => rw [intOf, intOf]; omega
        case rel => exact ⟨i + 1, by simp, by omega, by rw [HT.out]; exact hB4, ho3.others hk6 (by decide) hneB, Nat.lt_of_lt_of_le hsz3 hb6.size, hbc.trans (hb6.mono hwB)⟩
      · obtain ⟨k, rfl⟩ : ∃ k : Nat, lv = (k : Int) + 1 := ⟨(lv - 1).toNat, by omega⟩
        have HT := Lib.hid (HS.out.trans (by rw [if_neg hz, show ((k : Int) + 1 - 1).toNat = k by omega] : _ = fillL ls L ns i ++ (digF (gL ls k).format (gI ns k) pb).data.toList))
        clear HS
        have hkn : k < n := by omega
        have hkm : k < m := by omega
        have e0 : ((k : Int) + 1 == 0) = false := beq_eq_false_iff_ne.2 (by omega)
        have hkn' : (k : Int) < (n : Int) := by omega
        have hkm' : (k : Int) < (m : Int) := by omega
        have hk0' : (0 : Int) ≤ (k : Int) := by omega
        obtain ⟨al, e, hal, f0, _, _, _⟩ := ha.lv hkn
        obtain rfl : ad = al := by injection e
        clear e
        obtain ⟨an, e, han, g0⟩ := hns.int hkm
        subst e
        have f1 := keep1 hbc f0
        have g1 := keep1 hbc g0
        clear f0 g0
        have hw1 : IntKind.i64.wrap ((k : Int) + 1 - 1) = (k : Int) := by rw [show (k : Int) + 1 - 1 = k by omega]; exact IntWalk.i64_in _ (by omega)
        have hw2 : IntKind.i64.wrap (k : Int) = (k : Int) := IntWalk.i64_in _ (by omega)
        have hGc := hg.below hbc
        have hdg := fun W hW => digits_any (gL ls k).format (gI ns k) pb W hW
        have hds := digF_size (gL ls k).format (gI ns k) pb
        have hal2 : (ad.add (k * 4)).block < w.heap.size := by rw [block_add]; exact hal
        have han2 : (an.add k).block < w.heap.size := by rw [block_add]; exact han
        generalize (gL ls k).format = lf at *
        generalize gI ns k = nk at *
        generalize digF lf nk pb = dg at *
        have hwr := fun W (hW : Lib.IsBuilderF 134 5 b b (Lib.byteCells (fillL ls L ns i)) W) (hW2 : b ≤ W.heap.size) => bWrite b b (fillL ls L ns i) dg W hW (by omega) hW2
        go_upto_region 13 with fail
        go_region_held3 (fun w' => w'.cell? ⟨p13, 1, none⟩ = some (.int .i64 ((k : Int) + 1)) ∧ w'.cell? ⟨p13, 2, none⟩ = some (.bool pb) ∧ w'.cell? (ad.add (k * 4)) = some (.int .i64 lf) ∧ w'.cell? (an.add k) = some (.int .i64 nk))
          (first | (with_reducible exact s5) | (with_reducible exact r5) | go_keep)
          (first
            | (go_at_call 57; refine (hdg _ (hGc.drewN 1)).mono ?_; rintro er w5 ⟨rfl, hb5⟩; have r5 := keep4 (nbDrew (q := 1) hb5) ⟨q1, q2, f1, g1⟩; have b4 := ibBelow b3 (nbDrew (q := 1) hb5); have B6 := B13.below (nbDrew (q := 1) hb5); have ho4 := ho3.below (nbDrew (q := 1) hb5); have hbd := below_trans' hbc hbc.size (nbDrew (q := 1) hb5); have hsz5 := Nat.lt_of_lt_of_le hsz3 hb5.size)
            | (go_at_call 56; refine (hwr w5 b4 (Nat.le_of_lt hsz5)).mono ?_; rintro er w6 ⟨rfl, hB4, hb6, hk6⟩; have B7 : Blk w6 p13 124 #[.string ⟨pt.toArray⟩, .int .i64 ((k : Int) + 1), .bool pb] := keptCell hk6 B6 np (by decide); have s5 : w6.cell? ⟨p13, 1, none⟩ = some (.int .i64 ((k : Int) + 1)) ∧ w6.cell? ⟨p13, 2, none⟩ = some (.bool pb) ∧ w6.cell? (ad.add (k * 4)) = some (.int .i64 lf) ∧ w6.cell? (an.add k) = some (.int .i64 nk) := ⟨B7.cell 1 rfl, B7.cell 2 rfl, (hb6.cell (Nat.lt_of_lt_of_le hal2 hwB)).trans r5.2.2.1, (hb6.cell (Nat.lt_of_lt_of_le han2 hwB)).trans r5.2.2.2⟩))
        all_goals
          go_wp2_with fail
          go_roundw
          case measure => rw [intOf, intOf]; omega
          case rel => exact ⟨i + 1, by simp, by omega, by rw [HT.out]; exact hB4, ho4.others hk6 (by decide) hneB, Nat.lt_of_lt_of_le hsz5 hb6.size, hbd.trans (hb6.mono hwB)⟩
    · have : i = ps.length := by omega
      subst this
      go_wp2_with (first | (go_at_call 58; refine (Tryz.Builder_String_any_f b b (fillL ls L ns ps.length) wr b2 (by omega)).mono ?_; rintro er w7 ⟨rfl, _, hb7⟩))
      go_ret2
      exact ⟨by rw [HFB.out]; rfl, hbw2.trans (hb7.mono hwB)⟩
end Go.Proofs.YtbpodnhebjjkaaaGreatDoor

namespace Go.Proofs.YtbpodnhebjjkaaaGreatDoor
open Go.RowKit

/-- a list's definition in memory: its id and its levels' slice. -/
structure LsE where
  id : Int
  A : Option Addr
  n : Nat
  c : Nat
def lsC (e : LsE) : List Value := [.int .i64 e.id, .slice e.A e.n e.c]
theorem lsC_len (e : LsE) : (lsC e).length = 2 := rfl
theorem lsC_one (e : LsE) : ∀ u ∈ lsC e, u.oneCell' = true := by intro u hu; simp [lsC] at hu; rcases hu with rfl | rfl <;> rfl
def gE (es : List LsE) (k : Nat) : LsE := es.getD k ⟨0, none, 0, 0⟩
theorem Sl.ls {w : World} {A : Option Addr} {n : Nat} {xs : List LsE} (h : Sl w 2 lsC A n xs) {k : Nat} (hk : k < n) :
    ∃ ad, A = some ad ∧ ad.block < w.heap.size ∧ w.cell? (ad.add (k * 2)) = some (.int .i64 (gE xs k).id) ∧ w.cell? ⟨(ad.add (k * 2)).block, (ad.add (k * 2)).off + 1, none⟩ = some (.slice (gE xs k).A (gE xs k).n (gE xs k).c) := by
  obtain ⟨ad, e, hl, x, hx, hc⟩ := h.at_ hk
  have hg : gE xs k = x := by unfold gE; rw [List.getD_eq_getElem?_getD, hx]; rfl
  rw [hg]
  have f : ∀ j u, 0 < j → (lsC x)[j]? = some u → w.cell? ⟨(ad.add (k * 2)).block, (ad.add (k * 2)).off + j, none⟩ = some u := fun j u hj hu => by
    have : w.cell? ((ad.add (k * 2)).add j) = w.cell? ⟨(ad.add (k * 2)).block, (ad.add (k * 2)).off + j, none⟩ := by
      unfold Addr.add; simp [Nat.ne_of_gt hj]
    rw [← this, add_add_]; exact hc j u hu
  exact ⟨ad, e, hl, hc 0 _ rfl, f 1 _ (by omega) rfl⟩
theorem cmp_lt {x y : Int} (h : x < y) : Lib.compareInt x y = -1 := by unfold Lib.compareInt; simp [h]
theorem cmp_gt {x y : Int} (h : y < x) : Lib.compareInt x y = 1 := by unfold Lib.compareInt; simp [h]; omega
theorem cmp_eq (x : Int) : Lib.compareInt x x = 0 := by unfold Lib.compareInt; simp
set_option maxRecDepth 100000 in
theorem cmpf_any (y : Int) (A : Option Addr) (n c : Nat) (x : Int) (w : World) : Calls Tryz.prog 44 #[.agg #[.int .i64 y, .slice A n c], .int .i64 x] w fun er w' => er = .returned (.int .i64 (Lib.compareInt y x)) ∧ Below w.heap.size w w' := by
  have N := Blk.new w 27 #[.int .i64 y, .slice A n c]
  have hb := (Below.refl w.heap.size w).alloc (Nat.le_refl _) (.cells #[.int .i64 y, .slice A n c] 27)
  have q0 := N.cell 0 rfl
  have hcc := fun W => Tryz.cmp_Compare_int y x W
  generalize Lib.compareInt y x = r at *
  go_enter Tryz.func44, Tryz.ntmps44
  go_wp2_with (first | (go_at_call 45; refine (hcc _).mono ?_; rintro er w2 ⟨rfl, rfl⟩))
  go_ret
  exact ⟨rfl, hb⟩
/-- where an id stands among increasing ids, and whether it is there. -/
def ixF (zs : List Int) (x : Int) : Nat := zs.countP (· < x)
set_option maxHeartbeats 8000000 in
set_option maxRecDepth 1000000 in
theorem bsf_any (A : Option Addr) (n c : Nat) (es : List LsE) (x : Int) (w : World) (ha : Sl w 2 lsC A n es) (hbig : n ≤ 1000000) (hs : (es.map (·.id)).Pairwise (· ≤ ·)) :
    Calls Tryz.prog 43 #[.slice A n c, .int .i64 x, .func (.func 44) #[] #[]] w fun e w' => e = .returned (.tuple #[.int .i64 (ixF (es.map (·.id)) x : Nat), .bool ((es.map (·.id)).contains x)]) ∧ Below w.heap.size w w' := by
  have hl := ha.len
  have hid : ∀ k, k < n → (es.map (·.id)).getD k 0 = (gE es k).id := fun k hk => by
    unfold gE
    rw [List.getD_eq_getElem?_getD, List.getD_eq_getElem?_getD, List.getElem?_map]
    cases h : es[k]? with
    | none => rfl
    | some e => rfl
  have hzl : (es.map (·.id)).length = n := by rw [List.length_map]; exact hl
  have HI := Lib.hid hid
  clear hid
  generalize es.map (·.id) = zs at *
  have htk : zs.take n = zs := by rw [← hzl, List.take_length]
  have S := Lib.hid (Go.Lib.sorted_at zs n (by omega) (by rw [htk]; exact hs))
  have E0 := Lib.hid (fun i (hi : i ≤ n) h1 h2 => Go.Lib.search_end zs n i x (by omega) hi h1 h2 S.out)
  rw [htk] at E0
  clear hs htk hl hzl
  go_enter Tryz.func43, Tryz.ntmps43
  go_wp2_with fail
  go_loopg [9, 10] n (fun g s9 s10 wr => ∃ lo hi : Nat, s9 = .int .i64 lo ∧ s10 = .int .i64 hi ∧ lo ≤ hi ∧ hi ≤ n ∧ hi - lo ≤ g ∧ Below w.heap.size w wr ∧ (∀ t, t < lo → zs.getD t 0 < x) ∧ (∀ t, hi ≤ t → t < n → x ≤ zs.getD t 0))
  case atStart => exact ⟨0, n, rfl, rfl, Nat.zero_le _, Nat.le_refl _, by omega, Below.refl _ _, fun t ht => absurd ht (Nat.not_lt_zero _), fun t h1 h2 => by omega⟩
  case round =>
    obtain ⟨lo, hi, rfl, rfl, hlh, hin, hg, hbw, h1, h2⟩ := hrel
    have I := Lib.hid (show (∀ t, t < lo → zs.getD t 0 < x) ∧ (∀ t, hi ≤ t → t < n → x ≤ zs.getD t 0) from ⟨h1, h2⟩)
    clear h1 h2
    by_cases hlt : lo < hi
    · obtain ⟨ad, e, hl, cm, cs⟩ := (ha.below hbw).ls (k := (lo + hi) / 2) (by omega)
      have hY := HI.out ((lo + hi) / 2) (by omega)
      subst e
      generalize gE es ((lo + hi) / 2) = el at *
      obtain ⟨y, eA, en, ec⟩ := el
      simp only at cm cs hY
      have Y := Lib.hid hY
      have hcf := fun W => cmpf_any y eA en ec x W
      clear hY
      by_cases hyx : y < x
      · rw [cmp_lt hyx] at hcf
        go_wp2_with (first | (go_at_call 44; refine (hcf _).mono ?_; rintro e w3 ⟨rfl, hb3⟩))
        go_roundg (hi - ((lo + hi) / 2 + 1))
        case measure => omega
        case rel =>
          refine ⟨(lo + hi) / 2 + 1, hi, by rw [show ((lo : Int) + (hi : Int)) / 2 + 1 = (((lo + hi) / 2 + 1 : Nat) : Int) by omega], rfl, by omega, hin, Nat.le_refl _, below_trans' hbw hbw.size hb3, fun t ht => ?_, I.out.2⟩
          have := S.out t ((lo + hi) / 2) (by omega) (by omega)
          rw [Y.out] at this
          omega
      · have hnn : ¬ Lib.compareInt y x < 0 := by
          by_cases e : y = x
          · rw [e, cmp_eq]; omega
          · rw [cmp_gt (by omega)]; omega
        generalize Lib.compareInt y x = r at *
        go_wp2_with (first | (go_at_call 44; refine (hcf _).mono ?_; rintro e w3 ⟨rfl, hb3⟩))
        go_roundg ((lo + hi) / 2 - lo)
        case measure => omega
        case rel =>
          refine ⟨lo, (lo + hi) / 2, rfl, by rw [show ((lo : Int) + (hi : Int)) / 2 = (((lo + hi) / 2 : Nat) : Int) by omega], by omega, by omega, Nat.le_refl _, below_trans' hbw hbw.size hb3, I.out.1, fun t ht htn => ?_⟩
          have := S.out ((lo + hi) / 2) t ht htn
          rw [Y.out] at this
          omega
    · have hh : hi = lo := by omega
      subst hh
      have E := E0.out hi hin I.out.1 I.out.2
      have HE := Lib.hid E
      clear E
      have HX := Lib.hid (show ixF zs x = hi from HE.out.1)
      by_cases hn : hi < n
      · obtain ⟨ad, e, hl, cm, cs⟩ := (ha.below hbw).ls hn
        have hY := HI.out hi hn
        subst e
        generalize gE es hi = el at *
        obtain ⟨y, eA, en, ec⟩ := el
        simp only at cm cs hY
        have hcf := fun W => cmpf_any y eA en ec x W
        by_cases hyx : y = x
        · have HB := Lib.hid (show zs.contains x = true by rw [HE.out.2, decide_eq_true_iff]; exact ⟨hn, hY.trans hyx⟩)
          rw [hyx, cmp_eq] at hcf
          subst hyx
          clear hY HE
          go_wp2_with (first | (go_at_call 44; refine (hcf _).mono ?_; rintro e w3 ⟨rfl, hb3⟩))
          go_ret2
          exact ⟨by rw [HX.out, HB.out]; first | rfl | simp [*], below_trans' hbw hbw.size hb3⟩
        · have HB := Lib.hid (show zs.contains x = false by rw [HE.out.2, decide_eq_false_iff_not]; exact fun h => hyx (hY ▸ h.2))
          have hnz : (Lib.compareInt y x == 0) = false := by
            rw [beq_eq_false_iff_ne]
            by_cases h : y < x
            · rw [cmp_lt h]; omega
            · rw [cmp_gt (by omega)]; omega
          generalize Lib.compareInt y x = r at *
          clear hY HE
          go_wp2_with (first | (go_at_call 44; refine (hcf _).mono ?_; rintro e w3 ⟨rfl, hb3⟩))
          go_ret2
          exact ⟨by rw [HX.out, HB.out]; first | rfl | simp [*], below_trans' hbw hbw.size hb3⟩
      · have HB := Lib.hid (show zs.contains x = false by rw [HE.out.2, decide_eq_false_iff_not]; exact fun h => hn h.1)
        clear ha HE
        go_wp2_with fail
        go_ret2
        exact ⟨by rw [HX.out, HB.out]; first | rfl | simp [*], hbw⟩
end Go.Proofs.YtbpodnhebjjkaaaGreatDoor

namespace Go.Proofs.YtbpodnhebjjkaaaGreatDoor
open Go.RowKit

def ES (w : World) (l : List (Nat × Eff)) : Prop := ∀ q, q ∈ l → Blk w q.1 51 (effA q.2)
theorem ES.below {w w' : World} {l : List (Nat × Eff)} (h : ES w l) (hb : Below w.heap.size w w') : ES w' l := fun q hq => (h q hq).below hb
theorem ES.drewN {w : World} {l : List (Nat × Eff)} (h : ES w l) (n : Nat) : ES (w.drewN n) l := fun q hq => (h q hq).drewN n
theorem ES.nil_ (w : World) : ES w [] := fun _ h => by simp at h
theorem ES.cons_ {w : World} {l : List (Nat × Eff)} (h : ES w l) {g : Nat} {X : Eff} (hb : Blk w g 51 (effA X)) : ES w ((g, X) :: l) := fun q hq => by
  rcases List.mem_cons.1 hq with rfl | h2
  · exact hb
  · exact h q h2
theorem ES.tail_ {w : World} {l : List (Nat × Eff)} {q : Nat × Eff} (h : ES w (q :: l)) : ES w l := fun r hr => h r (List.mem_cons_of_mem _ hr)
theorem ES.head_ {w : World} {l : List (Nat × Eff)} {q : Nat × Eff} (h : ES w (q :: l)) : Blk w q.1 51 (effA q.2) := h q (List.mem_cons_self ..)
theorem ES.ne {w : World} {l : List (Nat × Eff)} (h : ES w l) {g : Nat} (hg : w.heap.size ≤ g) : ∀ q, q ∈ l → q.1 ≠ g := fun q hq e => by have := (h q hq).lt; omega
theorem ES.store {w : World} {l : List (Nat × Eff)} (h : ES w l) {g : Nat} (hn : ∀ q, q ∈ l → q.1 ≠ g) (N : Blk w g 51 (effA effZ)) {X : Eff} {lX : List Value} (e : lX = effL X) : ES (w.setCells g 0 lX) ((g, X) :: l) := by
  refine ES.cons_ (fun q hq => ?_) (N.eff_set X e)
  exact (h q hq).keep (only_setCells g lX 0 w) (fun e => hn q hq (by injection e with e; exact e.symm))
/-- a store of the whole row. -/
theorem ES.row {w : World} {l : List (Nat × Eff)} (h : ES w l) {g : Nat} (hn : ∀ q, q ∈ l → q.1 ≠ g) (N : Blk w g 51 (effA effZ)) (X : Eff) : ES (w.setRow g (effA X)) ((g, X) :: l) :=
  ES.cons_ (fun q hq => (setRow_other w g q.1 _ (hn q hq)).trans (h q hq)) (setRow_heap _ _ _ _ _ _ N)
theorem rangeAt_below {w w' : World} {b o : Nat} {cs : List Value} (hb : Below w.heap.size w w') (h : w.rangeAt b o cs) : w'.rangeAt b o cs := fun j v hv => keep1 hb (h j v hv)
theorem Blk.range_ {w : World} {g : Nat} {t : TypeId} {X : Eff} (h : Blk w g t (effA X)) {lX : List Value} (e : lX = effL X) : w.rangeAt g 0 lX := fun j v hv => by
  subst e
  rw [Nat.zero_add]
  exact h.cell j (by unfold effA; simpa using hv)
theorem bAlloc {w0 w : World} (h : Below w0.heap.size w0 w) (o : Obj) : Below w0.heap.size w0 (w.alloc o) := h.alloc h.size o
theorem bDrew {B : Nat} {w0 w : World} (h : Below B w0 w) : Below B w0 w.drew := ⟨h.os, h.tape, h.output, h.size, h.block⟩
theorem bSetC {w0 w : World} (h : Below w0.heap.size w0 w) {g : Nat} (hg : w0.heap.size ≤ g) (vs : List Value) : Below w0.heap.size w0 (w.setCells g 0 vs) := below_setC h (Nat.le_refl _) hg vs
theorem keepR2 {w0 w : World} {b1 b2 : Nat} {l1 l2 : List Value} (h1 : w0.rangeAt b1 0 l1) (h2 : w0.rangeAt b2 0 l2) (hb : Below w0.heap.size w0 w) : w.rangeAt b1 0 l1 ∧ w.rangeAt b2 0 l2 := ⟨rangeAt_below hb h1, rangeAt_below hb h2⟩
theorem keepR3 {w0 w : World} {b1 b2 b3 : Nat} {l1 l2 l3 : List Value} (h1 : w0.rangeAt b1 0 l1) (h2 : w0.rangeAt b2 0 l2) (h3 : w0.rangeAt b3 0 l3) (hb : Below w0.heap.size w0 w) : w.rangeAt b1 0 l1 ∧ w.rangeAt b2 0 l2 ∧ w.rangeAt b3 0 l3 := ⟨rangeAt_below hb h1, rangeAt_below hb h2, rangeAt_below hb h3⟩
/-- a contract over an old world's slice, at any world that keeps it. -/
theorem at_below {w0 : World} {P : Program} {f : Nat} {args : Array Value} {v : Value} (h : ∀ W, Below w0.heap.size w0 W → Calls P f args W fun e w' => e = .returned v ∧ Below W.heap.size W w') : ∀ W, Below w0.heap.size w0 W → Calls P f args W fun e w' => e = .returned v ∧ Below W.heap.size W w' ∧ Below w0.heap.size w0 w' :=
  fun W hW => (h W hW).mono fun _ _ ⟨he, hb⟩ => ⟨he, hb, below_trans' hW hW.size hb⟩
end Go.Proofs.YtbpodnhebjjkaaaGreatDoor

namespace Go.Proofs.YtbpodnhebjjkaaaGreatDoor
open Go.RowKit

/-- lists in memory: their ids and, each, its levels. -/
structure LsT (w : World) (A : Option Addr) (n : Nat) (es : List LsE) (vs : List (List Lv)) : Prop where
  l : Sl w 2 lsC A n es
  v : ∀ k, k < n → Sl w 4 lvC (gE es k).A (gE es k).n (vs.getD k [])
  c : ∀ k, k < n → (gE es k).n ≤ (gE es k).c
  vl : vs.length = n
theorem LsT.below {w w' : World} {A : Option Addr} {n : Nat} {es : List LsE} {vs : List (List Lv)} (h : LsT w A n es vs) (hb : Below w.heap.size w w') : LsT w' A n es vs :=
  ⟨h.l.below hb, fun k hk => (h.v k hk).below hb, h.c, h.vl⟩
theorem LsT.drewN {w : World} {A : Option Addr} {n : Nat} {es : List LsE} {vs : List (List Lv)} (h : LsT w A n es vs) (q : Nat) : LsT (w.drewN q) A n es vs :=
  ⟨h.l.drewN q, fun k hk => (h.v k hk).drewN q, h.c, h.vl⟩
def idsL (es : List LsE) : List Int := es.map (·.id)
theorem idsL_len (es : List LsE) : (idsL es).length = es.length := List.length_map _
theorem idsL_at {es : List LsE} (k : Nat) : (idsL es).getD k 0 = (gE es k).id := by
  unfold gE idsL
  rw [List.getD_eq_getElem?_getD, List.getD_eq_getElem?_getD, List.getElem?_map]
  cases h : es[k]? with
  | none => rfl
  | some e => rfl
set_option maxRecDepth 100000 in
theorem find_any (p : Nat) (A : Option Addr) (n c : Nat) (es : List LsE) (vB : Value) (x : Int) (w : World) (hp : Blk w p 59 #[.slice A n c, vB]) (ha : Sl w 2 lsC A n es) (hbig : n ≤ 1000000) (hs : (idsL es).Pairwise (· ≤ ·)) :
    Calls Tryz.prog 24 #[.pointer (some ⟨p, 0, none⟩), .int .i64 x] w fun e w' => e = .returned (.tuple #[.int .i64 (ixF (idsL es) x : Nat), .bool ((idsL es).contains x)]) ∧ Below w.heap.size w w' := by
  have bf := bsf_any A n c es x w ha hbig hs
  have q0 := hp.cell 0 rfl
  unfold idsL at *
  generalize List.contains (es.map (·.id)) x = bx at *
  generalize ixF (es.map (·.id)) x = ix at *
  go_enter Tryz.func24, Tryz.ntmps24
  go_wp2_with (first | (go_at_call 43; refine bf.mono ?_; rintro e w3 ⟨rfl, hb3⟩))
  go_ret2
  exact ⟨rfl, hb3⟩

/- the law's find: the first that has the id. -/
def fdP (zs : List Int) (x : Int) : Int := if x ∈ zs then (zs.idxOf x : Nat) else -1
theorem fdP_found {zs : List Int} {x : Int} {i : Nat} (hi : i < zs.length) (he : zs.getD i 0 = x) (hb : ∀ t, t < i → zs.getD t 0 ≠ x) : fdP zs x = i := by
  have hm : x ∈ zs := by
    rw [List.getD_eq_getElem?_getD, List.getElem?_eq_getElem hi] at he
    exact he ▸ List.getElem_mem hi
  unfold fdP
  rw [if_pos hm]
  have h1 : zs.idxOf x < zs.length := List.idxOf_lt_length_iff.2 hm
  have h2 : zs[zs.idxOf x] = x := List.getElem_idxOf h1
  have h3 : ¬ zs.idxOf x < i := fun h => hb _ h (by rw [List.getD_eq_getElem?_getD, List.getElem?_eq_getElem h1]; exact h2)
  have h4 : ¬ i < zs.idxOf x := fun h => by
    have := List.not_of_lt_findIdx (p := (· == x)) (xs := zs) (i := i) h
    rw [List.getD_eq_getElem?_getD, List.getElem?_eq_getElem hi] at he
    simp at he this
    exact this he
  have : zs.idxOf x = i := by omega
  rw [this]
theorem fdP_none {zs : List Int} {x : Int} (hb : ∀ t, t < zs.length → zs.getD t 0 ≠ x) : fdP zs x = -1 := by
  unfold fdP
  rw [if_neg]
  intro hm
  obtain ⟨t, ht, e⟩ := List.mem_iff_getElem.1 hm
  exact hb t ht (by rw [List.getD_eq_getElem?_getD, List.getElem?_eq_getElem ht]; exact e)
set_option maxRecDepth 100000 in
theorem lfind_any (A : Option Addr) (n c : Nat) (es : List LsE) (x : Int) (w : World) (ha : Sl w 2 lsC A n es) (hbig : n ≤ 1000000) :
    Calls Tryz.prog 28 #[.slice A n c, .int .i64 x] w fun e w' => e = .returned (.int .i64 (fdP (idsL es) x)) ∧ w' = w := by
  have hl := ha.len
  have HI := Lib.hid (fun k => idsL_at (es := es) k)
  have hzl : (idsL es).length = n := by rw [idsL_len]; exact hl
  have HF := Lib.hid (fun (i : Nat) (hi : i < n) (he : (idsL es).getD i 0 = x) hb => fdP_found (by omega) he hb)
  have HN := Lib.hid (fun (hb : ∀ t, t < n → (idsL es).getD t 0 ≠ x) => fdP_none (zs := idsL es) (x := x) (by rw [hzl]; exact hb))
  generalize fdP (idsL es) x = r at *
  generalize idsL es = zs at *
  go_enter Tryz.func28, Tryz.ntmps28
  go_wp2_with fail
  go_loopw [5] (fun vi wr => ∃ i : Nat, vi = .int .i64 i ∧ i ≤ n ∧ wr = w ∧ ∀ t, t < i → zs.getD t 0 ≠ x) (fun vi _ => n - (intOf vi).toNat)
  case atStart => exact ⟨0, rfl, Nat.zero_le _, rfl, fun t ht => absurd ht (Nat.not_lt_zero _)⟩
  case round =>
    obtain ⟨i, rfl, hi, rfl, hb⟩ := hrel
    have HB := Lib.hid hb
    clear hb
    by_cases hlt : i < n
    · obtain ⟨ad, e, hl2, k0, _⟩ := ha.ls hlt
      subst e
      have hz := HI.out i
      by_cases he : (gE es i).id = x
      · rw [he] at k0
        have HR := Lib.hid (HF.out i hlt (hz.trans he) HB.out)
        clear hz he
        go_wp2_with fail
        go_ret
        exact ⟨by rw [HR.out]; rfl, rfl⟩
      · have HE := Lib.hid (fun (h : zs.getD i 0 = x) => he (hz.symm.trans h))
        clear hz
        generalize (gE es i).id = y at *
        go_wp2_with fail
        go_roundw
        case rel =>
          refine ⟨i + 1, rfl, hlt, by trivial, fun t ht => ?_⟩
          by_cases e : t = i
          · subst e; exact HE.out
          · exact HB.out t (by omega)
        case measure =>
          rw [show intOf (Value.int IntKind.i64 ((i : Int) + 1)) = (i : Int) + 1 from rfl, show intOf (Value.int IntKind.i64 (i : Int)) = (i : Int) from rfl]
          omega
    · have hh : i = n := by omega
      subst hh
      have HR := Lib.hid (HN.out HB.out)
      go_wp2_with fail
      go_ret
      exact ⟨by rw [HR.out]; rfl, rfl⟩
end Go.Proofs.YtbpodnhebjjkaaaGreatDoor

namespace Go.Proofs.YtbpodnhebjjkaaaGreatDoor
open Go.RowKit

def chkM (es : List LsE) (m : Mk) : Int := if m.list = 0 then (if m.level = 0 ∧ m.restart = 0 then 0 else 15) else if m.list ∈ idsL es then mkE (gE es ((idsL es).idxOf m.list)).n m.level m.restart else 26
def chkE (es : List LsE) : List Mk → Int
  | [] => 0
  | m :: t => if chkM es m = 0 then chkE es t else chkM es m
theorem chkE_drop (es : List LsE) (ms : List Mk) {i : Nat} (h : i < ms.length) : chkE es (ms.drop i) = if chkM es (gM ms i) = 0 then chkE es (ms.drop (i + 1)) else chkM es (gM ms i) := by
  have e : ms.drop i = gM ms i :: ms.drop (i + 1) := by
    rw [List.drop_eq_getElem_cons h]
    unfold gM
    rw [List.getD_eq_getElem?_getD, List.getElem?_eq_getElem h]; rfl
  rw [e]; rfl
theorem chkE_ok {es : List LsE} {ms : List Mk} (h : chkE es ms = 0) : ∀ m ∈ ms, chkM es m = 0 := by
  induction ms with
  | nil => intro m hm; simp at hm
  | cons x t ih =>
    unfold chkE at h
    by_cases e : chkM es x = 0
    · rw [if_pos e] at h
      intro m hm
      rcases List.mem_cons.1 hm with rfl | hm
      · exact e
      · exact ih h m hm
    · rw [if_neg e] at h; exact absurd h e
/-- ids that go up. -/
def Up (zs : List Int) : Prop := zs.Pairwise (· < ·)
theorem Up.le {zs : List Int} (h : Up zs) : zs.Pairwise (· ≤ ·) := h.imp (fun h => by omega)
theorem Up.ix {zs : List Int} {x : Int} (h : Up zs) (hm : x ∈ zs) : ixF zs x = zs.idxOf x := by
  unfold ixF
  induction zs with
  | nil => simp at hm
  | cons z t ih =>
    have h := List.pairwise_cons.1 h
    by_cases e : z = x
    · subst e
      rw [List.idxOf_cons_self, List.countP_cons_of_neg (by simp)]
      rw [List.countP_eq_zero]
      intro a ha
      have := h.1 a ha
      simp; omega
    · rw [show (z :: t).idxOf x = t.idxOf x + 1 by rw [List.idxOf_cons, beq_eq_false_iff_ne.2 e]; rfl]
      have hm : x ∈ t := by rcases List.mem_cons.1 hm with h2 | h2; exact absurd h2.symm e; exact h2
      have := h.1 x hm
      rw [List.countP_cons_of_pos (by simp; omega), ih h.2 hm]
theorem contains_mem {zs : List Int} {x : Int} : zs.contains x = decide (x ∈ zs) := by
  rw [Bool.eq_iff_iff]; simp
set_option maxHeartbeats 4000000 in
set_option maxRecDepth 100000 in
theorem check_seq_any (p : Nat) (A : Option Addr) (n c : Nat) (es : List LsE) (vB : Value) (AM : Option Addr) (m cm : Nat) (ms : List Mk) (w : World) (hp : Blk w p 59 #[.slice A n c, vB]) (ha : Sl w 2 lsC A n es) (hbig : n ≤ 1000000) (hs : Up (idsL es)) (hm : Sl w 3 mkC AM m ms) (hm1 : m ≤ 1000000) :
    Calls Tryz.prog 17 #[.pointer (some ⟨p, 0, none⟩), .slice AM m cm] w fun e w' => e = .returned (.int .i64 (chkE es ms)) ∧ Below w.heap.size w w' := by
  have hl := ha.len
  have hlm := hm.len
  go_enter Tryz.func17, Tryz.ntmps17
  go_wp2_with fail
  go_loopw [12] (fun vi wr => ∃ i : Nat, vi = .int .i64 i ∧ i ≤ m ∧ chkE es (ms.drop i) = chkE es ms ∧ Below w.heap.size w wr) (fun vi _ => m - (intOf vi).toNat)
  case atStart => exact ⟨0, rfl, Nat.zero_le _, rfl, Below.refl _ _⟩
  case round =>
    obtain ⟨i, rfl, hi, ht, hbw⟩ := hrel
    by_cases hlt : i < m
    · obtain ⟨ad, e, hl2, k0, k1, k2⟩ := (hm.below hbw).mk_ hlt
      subst e
      rw [chkE_drop es ms (by omega)] at ht
      have HT := Lib.hid ht
      have HE := Lib.hid (show chkM es (gM ms i) = if (gM ms i).list = 0 then (if (gM ms i).level = 0 ∧ (gM ms i).restart = 0 then 0 else 15) else if (gM ms i).list ∈ idsL es then mkE (gE es ((idsL es).idxOf (gM ms i).list)).n (gM ms i).level (gM ms i).restart else 26 from rfl)
      clear ht
      generalize chkM es (gM ms i) = E at *
      generalize gM ms i = x at *
      obtain ⟨x0, x1, x2⟩ := x
      simp only at k0 k1 k2 HE
      go_upto_region 3 with fail
      go_cut [6] (fun v wx => ∃ q, v = .pointer (some ⟨q, 0, none⟩) ∧ Blk wx q 81 #[.int .i64 x0, .int .i64 x1, .int .i64 x2] ∧ Below wr.heap.size wr wx)
      case first =>
        go_wp2_with fail
        go_meet
        case rel => exact ⟨_, rfl, Blk.new _ _ _, (Below.refl _ _).alloc (Nat.le_refl _) _⟩
      case rest =>
      obtain ⟨q, rfl, Bx, hb4⟩ := hcut
      clear k0 k1 k2
      have hbc := below_trans' hbw hbw.size hb4
      have k0 : wc.cell? ⟨q, 0, none⟩ = some (.int .i64 x0) := Bx.cell 0 rfl
      have k1 : wc.cell? ⟨q, 1, none⟩ = some (.int .i64 x1) := Bx.cell 1 rfl
      have k2 : wc.cell? ⟨q, 2, none⟩ = some (.int .i64 x2) := Bx.cell 2 rfl
      have HS := Lib.hid (fun (V : Int) (h : E = V) (hv : V ≠ 0) => show chkE es ms = V by rw [← HT.out, if_neg (by rw [h]; exact hv), h])
      have HG := Lib.hid (fun (h : E = 0) => show chkE es (ms.drop (i + 1)) = chkE es ms by rw [← HT.out, if_pos h])
      by_cases f0 : x0 = 0
      · subst f0
        by_cases f1 : x1 = 0 ∧ x2 = 0
        · have V := Lib.hid (HG.out (by rw [HE.out, if_pos rfl, if_pos f1]))
          obtain ⟨rfl, rfl⟩ := f1
          go_wp2_with fail
          go_roundw
          case rel => exact ⟨i + 1, by simp, hlt, V.out, hbc⟩
          case measure => rw [intOf, intOf]; omega
        · have V := Lib.hid (HS.out 15 (by rw [HE.out, if_pos rfl, if_neg f1]) (by omega))
          go_wp2_with fail
          all_goals (go_ret; exact ⟨by rw [V.out]; rfl, hbc⟩)
      · have fa := find_any p A n c es vB x0 wc (hp.below hbc) (ha.below hbc) hbig hs.le
        rw [contains_mem] at fa
        have hx0 : (x0 == 0) = false := beq_eq_false_iff_ne.2 f0
        by_cases f1 : x0 ∈ idsL es
        · have hix := hs.ix f1
          have hik : (idsL es).idxOf x0 < n := by
            have := List.idxOf_lt_length_iff.2 f1
            rw [idsL_len] at this
            omega
          rw [hix, decide_eq_true f1] at fa
          have HE := Lib.hid (HE.out.trans ((if_neg f0).trans (if_pos f1)))
          clear hix f1
          generalize (idsL es).idxOf x0 = k at *
          have cm := fun W => checkMark_any (gE es k).A (gE es k).n (gE es k).c x1 x2 W
          go_upto_region 10 with (first | (go_at_call 24; refine fa.mono ?_; rintro e w3 ⟨rfl, hb3⟩))
          have hb5 := below_trans' hbc hbc.size hb3
          have B3 := Bx.below hb3
          have q0 : w3.cell? ⟨p, 0, none⟩ = some (.slice A n c) := (hp.below hb5).cell 0 rfl
          have q1 : w3.cell? ⟨q, 1, none⟩ = some (.int .i64 x1) := B3.cell 1 rfl
          have q2 : w3.cell? ⟨q, 2, none⟩ = some (.int .i64 x2) := B3.cell 2 rfl
          obtain ⟨al, ea, hal, _, kl⟩ := (ha.below hb5).ls hik
          subst ea
          clear fa k0 k1 k2 Bx B3
          generalize mkE (gE es k).n x1 x2 = me at *
          generalize (gE es k).n = nk at *
          generalize (gE es k).A = Ak at *
          generalize (gE es k).c = ck at *
          go_quiet ((go_at_call 30; exact Calls.quiet_of_same (cm _)))
          by_cases hme : me = 0
          · subst hme
            have V := Lib.hid (HG.out HE.out)
            go_wp2_with fail
            go_roundw
            case rel => exact ⟨i + 1, by simp, hlt, V.out, below_drewN hb5 _⟩
            case measure => rw [intOf, intOf]; omega
          · have V := Lib.hid (HS.out me HE.out hme)
            have bme : (me == 0) = false := beq_eq_false_iff_ne.2 hme
            go_wp2_with fail
            go_ret
            exact ⟨by rw [V.out]; rfl, below_drewN hb5 _⟩
        · rw [decide_eq_false f1] at fa
          have V := Lib.hid (HS.out 26 (by rw [HE.out, if_neg f0, if_neg f1]) (by omega))
          generalize ixF (idsL es) x0 = k at *
          clear f1
          go_wp2_with (first | (go_at_call 24; refine fa.mono ?_; rintro e w3 ⟨rfl, hb3⟩))
          go_ret
          exact ⟨by rw [V.out]; rfl, below_trans' hbc hbc.size hb3⟩
    · have hh : i = m := by omega
      subst hh
      have HR := Lib.hid (show chkE es ms = 0 by rw [← ht, List.drop_eq_nil_of_le (by omega)]; rfl)
      clear ht
      go_wp2_with fail
      go_ret
      exact ⟨by rw [HR.out]; rfl, hbw⟩
end Go.Proofs.YtbpodnhebjjkaaaGreatDoor

namespace Go.Proofs.YtbpodnhebjjkaaaGreatDoor
open Go.RowKit

theorem mkE_two {n : Nat} {a b : Int} (h : a < 1 ∨ (n : Int) < a) : mkE n a b = 2 := if_pos h
theorem mkE_five {n : Nat} {a b : Int} (h : ¬ (a < 1 ∨ (n : Int) < a)) (h2 : b < 0 ∨ 32767 < b) : mkE n a b = 5 := (if_neg h).trans (if_pos h2)
theorem mkE_zero {n : Nat} {a b : Int} (h : ¬ (a < 1 ∨ (n : Int) < a)) (h2 : ¬ (b < 0 ∨ 32767 < b)) : mkE n a b = 0 := (if_neg h).trans (if_neg h2)
set_option maxHeartbeats 4000000 in
set_option maxRecDepth 100000 in
theorem checkMarks_any (A : Option Addr) (n c : Nat) (es : List LsE) (AM : Option Addr) (m cm : Nat) (ms : List Mk) (w : World) (ha : Sl w 2 lsC A n es) (hbig : n ≤ 1000000) (hm : Sl w 3 mkC AM m ms) (hm1 : m ≤ 1000000) :
    Calls Tryz.prog 11 #[.slice A n c, .slice AM m cm] w fun e w' => e = .returned (.int .i64 (chkE es ms)) ∧ Below w.heap.size w w' := by
  have hl := ha.len
  have hlm := hm.len
  go_enter Tryz.func11, Tryz.ntmps11
  go_wp2_with fail
  go_loopw [5] (fun vi wr => ∃ i : Nat, vi = .int .i64 i ∧ i ≤ m ∧ chkE es (ms.drop i) = chkE es ms ∧ Below w.heap.size w wr) (fun vi _ => m - (intOf vi).toNat)
  case atStart => exact ⟨0, rfl, Nat.zero_le _, rfl, Below.refl _ _⟩
  case round =>
    obtain ⟨i, rfl, hi, ht, hbw⟩ := hrel
    by_cases hlt : i < m
    · obtain ⟨ad, e, hl2, k0, k1, k2⟩ := (hm.below hbw).mk_ hlt
      subst e
      rw [chkE_drop es ms (by omega)] at ht
      have HT := Lib.hid ht
      have HE := Lib.hid (show chkM es (gM ms i) = if (gM ms i).list = 0 then (if (gM ms i).level = 0 ∧ (gM ms i).restart = 0 then 0 else 15) else if (gM ms i).list ∈ idsL es then mkE (gE es ((idsL es).idxOf (gM ms i).list)).n (gM ms i).level (gM ms i).restart else 26 from rfl)
      clear ht
      generalize chkM es (gM ms i) = E at *
      generalize gM ms i = x at *
      obtain ⟨x0, x1, x2⟩ := x
      simp only at k0 k1 k2 HE
      go_upto_region 4 with fail
      go_cut [5, 6] (fun vi v wx => ∃ q, vi = .int .i64 i ∧ v = .pointer (some ⟨q, 0, none⟩) ∧ Blk wx q 81 #[.int .i64 x0, .int .i64 x1, .int .i64 x2] ∧ Below wr.heap.size wr wx)
      case first =>
        go_wp2_with fail
        go_meet
        case rel => exact ⟨_, rfl, rfl, Blk.new _ _ _, (Below.refl _ _).alloc (Nat.le_refl _) _⟩
      case rest =>
      obtain ⟨q, rfl, rfl, Bx, hb4⟩ := hcut
      clear k0 k1 k2
      have hbc := below_trans' hbw hbw.size hb4
      have k0 : wc.cell? ⟨q, 0, none⟩ = some (.int .i64 x0) := Bx.cell 0 rfl
      have k1 : wc.cell? ⟨q, 1, none⟩ = some (.int .i64 x1) := Bx.cell 1 rfl
      have k2 : wc.cell? ⟨q, 2, none⟩ = some (.int .i64 x2) := Bx.cell 2 rfl
      have HS := Lib.hid (fun (V : Int) (h : E = V) (hv : V ≠ 0) => show chkE es ms = V by rw [← HT.out, if_neg (by rw [h]; exact hv), h])
      have HG := Lib.hid (fun (h : E = 0) => show chkE es (ms.drop (i + 1)) = chkE es ms by rw [← HT.out, if_pos h])
      by_cases f0 : x0 = 0
      · subst f0
        by_cases f1 : x1 = 0
        · have hb1 : (x1 != 0) = false := by rw [f1]; rfl
          by_cases f2 : x2 = 0
          · have hb2 : (x2 != 0) = false := by rw [f2]; rfl
            have V := Lib.hid (HG.out (by rw [HE.out, if_pos rfl, if_pos ⟨f1, f2⟩]))
            clear f1 f2
            go_wp2_with fail
            go_roundw
            case rel => exact ⟨i + 1, by simp, hlt, V.out, hbc⟩
            case measure => rw [intOf, intOf]; omega
          · have hb2 : (x2 != 0) = true := bne_iff_ne.2 f2
            have V := Lib.hid (HS.out 15 (by rw [HE.out, if_pos rfl, if_neg (fun h => f2 h.2)]) (by omega))
            clear f1 f2
            go_wp2_with fail
            go_ret
            exact ⟨by rw [V.out]; rfl, hbc⟩
        · have hb1 : (x1 != 0) = true := bne_iff_ne.2 f1
          have V := Lib.hid (HS.out 15 (by rw [HE.out, if_pos rfl, if_neg (fun h => f1 h.1)]) (by omega))
          clear f1
          go_wp2_with fail
          go_ret
          exact ⟨by rw [V.out]; rfl, hbc⟩
      · have fa := lfind_any A n c es x0 wc (ha.below hbc) hbig
        have hx0 : (x0 == 0) = false := beq_eq_false_iff_ne.2 f0
        by_cases f1 : x0 ∈ idsL es
        · rw [show fdP (idsL es) x0 = ((idsL es).idxOf x0 : Nat) from if_pos f1] at fa
          have hik : (idsL es).idxOf x0 < n := by
            have := List.idxOf_lt_length_iff.2 f1
            rw [idsL_len] at this
            omega
          have HE := Lib.hid (HE.out.trans ((if_neg f0).trans (if_pos f1)))
          clear f1
          generalize (idsL es).idxOf x0 = k at *
          obtain ⟨al, ea, hal, _, kl⟩ := (ha.below hbc).ls hik
          subst ea
          generalize (gE es k).n = nk at *
          generalize (gE es k).A = Ak at *
          generalize (gE es k).c = ck at *
          clear Bx
          go_upto_region 11 with (first | (go_at_call 28; refine fa.mono ?_; rintro e w3 ⟨rfl, rfl⟩))
          by_cases c1 : x1 < 1
          · have V := Lib.hid (HS.out 2 (HE.out.trans (mkE_two (.inl c1))) (by omega))
            have d1 : decide (x1 < 1) = true := decide_eq_true c1
            clear fa hx0 f0
            go_quiet (fail)
            go_wp2_with fail
            go_ret
            exact ⟨by rw [V.out]; rfl, below_drewN hbc _⟩
          · have d1 : decide (x1 < 1) = false := decide_eq_false c1
            by_cases c2 : (nk : Int) < x1
            · have V := Lib.hid (HS.out 2 (HE.out.trans (mkE_two (.inr c2))) (by omega))
              clear fa hx0 f0
              go_quiet (fail)
              go_wp2_with fail
              go_ret
              exact ⟨by rw [V.out]; rfl, below_drewN hbc _⟩
            · by_cases c3 : x2 < 0
              · have V := Lib.hid (HS.out 5 (HE.out.trans (mkE_five (fun h => h.elim c1 c2) (.inl c3))) (by omega))
                clear fa hx0 f0
                go_quiet (fail)
                go_wp2_with fail
                go_ret
                exact ⟨by rw [V.out]; rfl, below_drewN hbc _⟩
              · by_cases c4 : 32767 < x2
                · have V := Lib.hid (HS.out 5 (HE.out.trans (mkE_five (fun h => h.elim c1 c2) (.inr c4))) (by omega))
                  clear fa hx0 f0
                  go_quiet (fail)
                  go_wp2_with fail
                  go_ret
                  exact ⟨by rw [V.out]; rfl, below_drewN hbc _⟩
                · have V := Lib.hid (HG.out (HE.out.trans (mkE_zero (fun h => h.elim c1 c2) (fun h => h.elim c3 c4))))
                  clear fa hx0 f0
                  go_quiet (fail)
                  go_wp2_with fail
                  go_roundw
                  case rel => exact ⟨i + 1, by simp, hlt, V.out, below_drewN hbc _⟩
                  case measure => rw [intOf, intOf]; omega
        · rw [show fdP (idsL es) x0 = -1 from if_neg f1] at fa
          have V := Lib.hid (HS.out 26 (by rw [HE.out, if_neg f0, if_neg f1]) (by omega))
          clear f1
          go_wp2_with (first | (go_at_call 28; refine fa.mono ?_; rintro e w3 ⟨rfl, rfl⟩))
          go_ret
          exact ⟨by rw [V.out]; rfl, hbc⟩
    · have hh : i = m := by omega
      subst hh
      have HR := Lib.hid (show chkE es ms = 0 by rw [← ht, List.drop_eq_nil_of_le (by omega)]; rfl)
      clear ht
      go_wp2_with fail
      go_ret
      exact ⟨by rw [HR.out]; rfl, hbw⟩
end Go.Proofs.YtbpodnhebjjkaaaGreatDoor
