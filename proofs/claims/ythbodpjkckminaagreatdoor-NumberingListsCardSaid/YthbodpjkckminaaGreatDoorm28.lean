/- A nil slice's capacity. The law's model of the numbering: items, states, entries; plain. the law's find and of. the law's of. the law's items of a flat document. -/
import Derived.Test.YthbodpjkckminaaGreatDoorm27
import Derived.Test.YthbodpjkckminaaGreatDoorm20
import Derived.Test.YthbodpjkckminaaGreatDoorm24
import Derived.Test.YthbodpjkckminaaGreatDoorV36m
namespace Go.Proofs.YthbodpjkckminaaGreatDoor
open Go.ChangeShapes Go.WideShapes Go.ChangeAt Go.RowKit Go.Deep

section
variable {H : Type} {enc : TypeId × Value → H} {P : Program}
theorem sl_none {w : World} {t e : TypeId} (ht : P.underlying t = some (.slice e)) {A : Option Addr} {n c : Nat} {d : DataW H} {p : List MemPlace} (h : DataW.Trod enc P w 0 (fun _ => true) true t (.slice A n c) d p) : A = none → c = 0 := by
  obtain ⟨fuel, hf⟩ := h
  rcases open_slice ht hf with ⟨h0, _⟩ | ⟨a, n', c', m, k, D, Pl, hcs, _⟩
  · simp only [Value.cells, List.cons.injEq, and_true] at h0
    injection h0 with h1 h2 h3
    intro _
    exact h3
  · simp only [Value.cells, List.cons.injEq, and_true] at hcs
    injection hcs with h1 h2 h3
    intro hA
    rw [h1] at hA
    cases hA
end
end Go.Proofs.YthbodpjkckminaaGreatDoor

namespace Go.Proofs.YthbodpjkckminaaGreatDoor
open Go.RowKit

/-- a list paragraph, as the law's model keeps it. -/
structure Itm where
  at_ : Int
  list : Int
  level : Int
  restart : Int
def itmZ : Itm := ⟨0, 0, 0, 0⟩
def itmC (x : Itm) : List Value := [.int .i64 0, .int .i64 x.at_, .int .i64 x.list, .int .i64 x.level, .int .i64 x.restart]
theorem itmC_len (x : Itm) : (itmC x).length = 5 := rfl
theorem itmC_one (x : Itm) : ∀ u ∈ itmC x, u.oneCell' = true := by intro u hu; simp [itmC] at hu; rcases hu with rfl | rfl | rfl | rfl | rfl <;> rfl
def gItm (l : List Itm) (k : Nat) : Itm := l.getD k itmZ
def itmK (es : List LsE) (ys : List Fi) (k : Nat) : Itm := ⟨(frK ys k : Nat), pid es ys k, plv es ys k, prs es ys k⟩
def itmL (es : List LsE) (ys : List Fi) (l : List Nat) : List Itm := (l.filter (fun k => !(pid es ys k == 0))).map (itmK es ys)
theorem itmL_snoc (es : List LsE) (ys : List Fi) (l : List Nat) (k : Nat) : itmL es ys (l ++ [k]) = if pid es ys k = 0 then itmL es ys l else itmL es ys l ++ [itmK es ys k] := by
  unfold itmL
  rw [List.filter_append, List.map_append]
  by_cases h : pid es ys k = 0
  · rw [if_pos h, List.filter_cons_of_neg (by rw [h]; decide)]; simp
  · rw [if_neg h, List.filter_cons_of_pos (by simpa using h)]; rfl
def nxM (es : List LsE) (vs : List (List Lv)) (id : Int) (c : Cn) (x : Itm) : Cn := nextC (lvs es vs id) (lsF es id).n c (x.level - 1).toNat x.restart
/-- a list's state behind some paragraphs. -/
def stM (es : List LsE) (vs : List (List Lv)) (l : List Itm) (id : Int) : Cn := l.foldl (fun c x => if x.list = id then nxM es vs id c x else c) cnZ
theorem stM_snoc (es : List LsE) (vs : List (List Lv)) (l : List Itm) (x : Itm) (id : Int) : stM es vs (l ++ [x]) id = if x.list = id then nxM es vs id (stM es vs l id) x else stM es vs l id := by
  unfold stM; rw [List.foldl_append]; rfl
/-- the entry of the last one of some paragraphs. -/
def entX (es : List LsE) (vs : List (List Lv)) (c : Cn) (x : Itm) : En :=
  ⟨x.at_, x.list, x.level, (c (x.level - 1).toNat).1, fillB (lvs es vs x.list) (x.level - 1).toNat (numsF (lvs es vs x.list) c ((x.level - 1).toNat + 1))⟩
def entM (es : List LsE) (vs : List (List Lv)) (l : List Itm) (i : Nat) : En := entX es vs (stM es vs (l.take (i + 1)) (gItm l i).list) (gItm l i)
def entL (es : List LsE) (vs : List (List Lv)) (l : List Itm) (n : Nat) : List En := (List.range n).map (entM es vs l)
theorem entL_succ (es : List LsE) (vs : List (List Lv)) (l : List Itm) (n : Nat) : entL es vs l (n + 1) = entL es vs l n ++ [entM es vs l n] := by unfold entL; rw [List.range_succ, List.map_append]; rfl
theorem entL_len (es : List LsE) (vs : List (List Lv)) (l : List Itm) (n : Nat) : (entL es vs l n).length = n := by simp [entL]
theorem entL_app (es : List LsE) (vs : List (List Lv)) (l r : List Itm) : ∀ n, n ≤ l.length → entL es vs (l ++ r) n = entL es vs l n
  | 0, _ => rfl
  | n + 1, h => by
    rw [entL_succ, entL_succ, entL_app es vs l r n (by omega)]
    have h1 : gItm (l ++ r) n = gItm l n := by unfold gItm; rw [List.getD_eq_getElem?_getD, List.getElem?_append_left (by omega), ← List.getD_eq_getElem?_getD]
    have h2 : (l ++ r).take (n + 1) = l.take (n + 1) := List.take_append_of_le_length (by omega)
    unfold entM
    rw [h1, h2]
theorem runL_snoc (es : List LsE) (vs : List (List Lv)) (ys : List Fi) (l : List Nat) (k : Nat) : runL es vs ys (l ++ [k]) = stepR es vs ys (runL es vs ys l) k := by unfold runL; rw [List.foldl_append]; rfl
theorem runL_model (es : List LsE) (vs : List (List Lv)) (ys : List Fi) : ∀ (r l : List Nat), ((∀ id, (runL es vs ys l).f id = stM es vs (itmL es ys l) id) ∧ (runL es vs ys l).es = entL es vs (itmL es ys l) (itmL es ys l).length) →
    (∀ id, (runL es vs ys (l ++ r)).f id = stM es vs (itmL es ys (l ++ r)) id) ∧ (runL es vs ys (l ++ r)).es = entL es vs (itmL es ys (l ++ r)) (itmL es ys (l ++ r)).length
  | [], l, h => by rw [List.append_nil]; exact h
  | k :: r, l, ⟨h1, h2⟩ => by
    rw [show l ++ k :: r = (l ++ [k]) ++ r by simp]
    refine runL_model es vs ys r (l ++ [k]) ?_
    rw [runL_snoc, itmL_snoc]
    by_cases h : pid es ys k = 0
    · rw [stepR_no h, if_pos h]; exact ⟨h1, h2⟩
    · rw [stepR_yes h, if_neg h]
      have hs : ∀ id, updI (runL es vs ys l).f (pid es ys k) (nxt es vs ys (runL es vs ys l).f k) id = stM es vs (itmL es ys l ++ [itmK es ys k]) id := fun id => by
        rw [stM_snoc]
        unfold updI
        by_cases e : id = pid es ys k
        · rw [if_pos e, if_pos (show (itmK es ys k).list = id from e.symm), ← h1, e]; rfl
        · rw [if_neg e, if_neg (show ¬ (itmK es ys k).list = id from fun h => e h.symm), h1]
      refine ⟨hs, ?_⟩
      rw [List.length_append, List.length_singleton, entL_succ, entL_app _ _ _ _ _ (Nat.le_refl _), ← h2]
      show _ ++ [_] = _ ++ [_]
      congr 2
      have hg : gItm (itmL es ys l ++ [itmK es ys k]) (itmL es ys l).length = itmK es ys k := by
        unfold gItm
        rw [List.getD_eq_getElem?_getD, List.getElem?_append_right (Nat.le_refl _), Nat.sub_self]; rfl
      unfold entM
      rw [hg, List.take_of_length_le (by simp), ← hs]
      unfold updI
      rw [if_pos (show (itmK es ys k).list = pid es ys k from rfl)]
      rfl
theorem runL_ent (es : List LsE) (vs : List (List Lv)) (ys : List Fi) (l : List Nat) : (runL es vs ys l).es = entL es vs (itmL es ys l) (itmL es ys l).length := by
  have := (runL_model es vs ys l [] ⟨fun _ => rfl, rfl⟩).2
  simpa using this
end Go.Proofs.YthbodpjkckminaaGreatDoor

namespace Go.Proofs.YthbodpjkckminaaGreatDoor
open Go.RowKit Go.Sort

set_option maxRecDepth 100000 in
set_option maxHeartbeats 4000000 in
theorem lfindS_any (a1 a2 a3 : SV) (LA : Option Addr) (ln lc : Nat) (es : List LsE) (x : Int) (w : World) (ha : Sl w 2 lsC LA ln es) (hn : ln ≤ 1000000) :
    Calls Tryz.prog 40 #[.agg (stL a1 LA ln lc a2 a3).toArray, .int .i64 x] w fun e w' => e = .returned (.int .i64 (fdP (idsL es) x)) ∧ Below w.heap.size w w' := by
  have hln := ha.len
  have N2 := Blk.new w 46 (stL a1 LA ln lc a2 a3).toArray
  have hb := alloc1 w (.cells (stL a1 LA ln lc a2 a3).toArray 46)
  obtain ⟨A1, n1, c1⟩ := a1
  obtain ⟨A2, n2, c2⟩ := a2
  obtain ⟨A3, n3, c3⟩ := a3
  rw [show (stL ⟨A1, n1, c1⟩ LA ln lc ⟨A2, n2, c2⟩ ⟨A3, n3, c3⟩).toArray = #[.slice A1 n1 c1, .slice LA ln lc, .slice A2 n2 c2, .slice A3 n3 c3] from rfl] at *
  have HF := Lib.hid (fun i (hi : i < (idsL es).length) he hb => fdP_found (zs := idsL es) (x := x) hi he hb)
  have HN := Lib.hid (fun hb => fdP_none (zs := idsL es) (x := x) hb)
  have HL := Lib.hid (idsL_len es)
  generalize fdP (idsL es) x = r at *
  have HLN := Lib.hid hln
  clear hln
  go_enter Tryz.func40, Tryz.ntmps40
  go_upto_region 1 with fail
  generalize w.alloc (.cells #[.slice A1 n1 c1, .slice LA ln lc, .slice A2 n2 c2, .slice A3 n3 c3] 46) = w1 at *
  have q1 := N2.cell 1 rfl
  have ha1 := ha.below hb
  go_wp2_with fail
  go_loop [5] (fun vi => ∃ i : Nat, vi = .int .i64 i ∧ i ≤ ln ∧ ∀ t, t < i → (idsL es).getD t 0 ≠ x) (fun vi => ln - (intOf vi).toNat)
  case atStart => exact ⟨0, rfl, Nat.zero_le _, fun t ht => absurd ht (Nat.not_lt_zero _)⟩
  case round =>
    obtain ⟨i, rfl, hi, hz⟩ := hrel
    have HZ := Lib.hid hz
    clear hz
    by_cases hlt : i < ln
    · obtain ⟨ad, e, hl2, k0, _⟩ := ha1.ls hlt
      subst e
      have hlt' : (i : Int) < ln := by omega
      have HI := Lib.hid (idsL_at (es := es) i)
      generalize (gE es i).id = id at *
      by_cases hx : id = x
      · have hxb : (id == x) = true := by rw [hx]; simp
        have HX := Lib.hid hx
        clear hx
        go_wp2_with fail
        go_ret
        have hr : r = i := HF.out i (by rw [HL.out, HLN.out]; exact hlt) (by rw [HI.out]; exact HX.out) HZ.out
        exact ⟨by rw [hr]; rfl, hb⟩
      · have hxb : (id == x) = false := beq_eq_false_iff_ne.2 hx
        have HX := Lib.hid hx
        clear hx
        go_wp2_with fail
        go_round
        case rel => exact ⟨i + 1, by simp, by omega, fun t ht => by
          rcases (show t < i ∨ t = i by omega) with h | rfl
          · exact HZ.out t h
          · rw [HI.out]; exact HX.out⟩
        case measure => simp [intOf]; omega
    · have : i = ln := by omega
      subst this
      go_wp2_with fail
      go_ret
      have hr : r = -1 := HN.out (by rw [HL.out, HLN.out]; exact HZ.out)
      exact ⟨by rw [hr]; rfl, hb⟩
end Go.Proofs.YthbodpjkckminaaGreatDoor

namespace Go.Proofs.YthbodpjkckminaaGreatDoor
open Go.RowKit Go.Sort

set_option maxRecDepth 100000 in
set_option maxHeartbeats 4000000 in
theorem lof_any (a1 a2 a3 : SV) (LA : Option Addr) (ln lc : Nat) (es : List LsE) (AE AO : Option Addr) (ne ce no co : Nat) (eff own : List Pr) (w : World) (ha : Sl w 2 lsC LA ln es) (hn : ln ≤ 1000000) (he : Sl w 2 prC AE ne eff) (ho : Sl w 2 prC AO no own) (hne : ne ≤ 1000000) (hno : no ≤ 1000000) (hse : (keyL eff).Pairwise (· ≤ ·)) (hso : (keyL own).Pairwise (· ≤ ·)) :
    Calls Tryz.prog 17 #[.agg (stL a1 LA ln lc a2 a3).toArray, .slice AE ne ce, .slice AO no co] w (OfPost w (of1 es eff) (of2 es eff) (of3 es eff own)) := by
  have hil := idsL_len es
  have hln := ha.len
  have N3 := Blk.new w 46 (stL a1 LA ln lc a2 a3).toArray
  have hb3 := alloc1 w (.cells (stL a1 LA ln lc a2 a3).toArray 46)
  have cV := value_any AE ne ce eff 33 _ (he.below hb3) hne hse
  have cL := Lib.hid (fun W x (hb : Below w.heap.size w W) => lfindS_any a1 a2 a3 LA ln lc es x W (ha.below hb) hn)
  have cV2 := Lib.hid (fun W (hb : Below w.heap.size w W) => value_any AE ne ce eff 34 W (he.below hb) hne hse)
  have cV3 := Lib.hid (fun W (hb : Below w.heap.size w W) => value_any AO no co own 35 W (ho.below hb) hno hso)
  have h1 : of1 es eff = if ofB es (valV eff 33) = true then valV eff 33 else 0 := rfl
  have h2 : of2 es eff = if ofB es (valV eff 33) = true then min (valV eff 34) ((lsF es (valV eff 33)).n : Nat) else 0 := rfl
  have h3 : of3 es eff own = if ofB es (valV eff 33) = true then valV own 35 else 0 := rfl
  have hB : ofB es (valV eff 33) = (decide (valV eff 33 ≠ 0) && decide (valV eff 33 ∈ idsL es)) := rfl
  obtain ⟨A1, n1, c1⟩ := a1
  obtain ⟨A2, n2, c2⟩ := a2
  obtain ⟨A3, n3, c3⟩ := a3
  rw [show (stL ⟨A1, n1, c1⟩ LA ln lc ⟨A2, n2, c2⟩ ⟨A3, n3, c3⟩).toArray = #[.slice A1 n1 c1, .slice LA ln lc, .slice A2 n2 c2, .slice A3 n3 c3] from rfl] at *
  generalize of1 es eff = o1 at *
  generalize of2 es eff = o2 at *
  generalize of3 es eff own = o3 at *
  generalize ofB es (valV eff 33) = ob at *
  generalize valV eff 33 = id at *
  generalize valV eff 34 = lv at *
  generalize valV own 35 = rs at *
  have cL := Lib.hid (fun W (hb : Below w.heap.size w W) => cL.out W id hb)
  have HLS := Lib.hid (fun W (hb : Below w.heap.size w W) k hk => (ha.below hb).ls (k := k) hk)
  have hfd : fdP (idsL es) id = if id ∈ idsL es then (((idsL es).idxOf id : Nat) : Int) else -1 := rfl
  have hlf : lsF es id = gE es ((idsL es).idxOf id) := rfl
  have hixl : id ∈ idsL es → (idsL es).idxOf id < ln := fun h => by have := List.idxOf_lt_length_iff.2 h; omega
  rw [hlf] at h2
  have HP := Lib.hid (show ∀ e w', (e = .returned (.tuple #[.int .i64 o1, .int .i64 o2, .int .i64 o3]) ∧ Below w.heap.size w w') → OfPost w o1 o2 o3 e w' from fun _ _ h => h)
  have H1 := Lib.hid h1
  have H2 := Lib.hid h2
  have H3 := Lib.hid h3
  have HB := Lib.hid hB
  clear h1 h2 h3 hB hlf hil hln ha
  obtain ⟨p3, hp3⟩ : ∃ p, p = w.heap.size := ⟨_, rfl⟩
  rw [← hp3] at N3
  go_enter Tryz.func17, Tryz.ntmps17
  go_upto_region 1 with fail
  rw [← hp3]
  generalize w.alloc (.cells #[.slice A1 n1 c1, .slice LA ln lc, .slice A2 n2 c2, .slice A3 n3 c3] 46) = w1 at *
  clear hp3
  go_upto_region 2 with (go_at_call 38; refine cV.mono ?_; rintro e w2 ⟨rfl, hb2⟩)
  have N4 := N3.below hb2
  have hb2 := below_trans' hb3 hb3.size hb2
  have q0 := N4.cell 0 rfl
  have q1 := N4.cell 1 rfl
  have q2 := N4.cell 2 rfl
  have q3 := N4.cell 3 rfl
  have cL := cL.out _ hb2
  by_cases hin : id ∈ idsL es
  · have hk := hixl hin
    rw [hfd, if_pos hin] at cL
    have HIN := Lib.hid (show decide (id ∈ idsL es) = true from decide_eq_true hin)
    rw [HIN.out] at HB
    clear hfd hixl hin HIN
    generalize (idsL es).idxOf id = k at *
    have hk' : (k : Int) < ln := by omega
    go_upto_region 3 with (go_at_call 40; refine cL.mono ?_; rintro e w5 ⟨rfl, hb5⟩)
    have N4 := N4.below hb5
    have hb5 := below_trans' hb2 hb2.size hb5
    obtain ⟨ad, e, hl2, k0, k1⟩ := HLS.out w5 hb5 k hk
    subst e
    generalize gE es k = le at *
    obtain ⟨lid, A9, n9, c9⟩ := le
    simp only at k0 k1
    clear q0 q1 q2 q3 N3 cL hb2 hb3 cV HLS
    by_cases hz : id = 0
    · have HB := Lib.hid (HB.out.trans (by rw [hz]; rfl : _ = false))
      rw [HB.out] at H1 H2 H3
      subst hz
      go_wp2_with fail
      go_ret3
      exact HP.out _ _ ⟨by rw [H1.out, H2.out, H3.out]; rfl, hb5⟩
    · have hzb : (id == 0) = false := beq_eq_false_iff_ne.2 hz
      have HB := Lib.hid (show ob = true by rw [HB.out]; simp [hz])
      rw [HB.out] at H1 H2 H3
      clear hz
      have cV2 := fun d os => Calls.regrown_of (cV2.out (grow (redrawn w5 d) os) (hb5.trans ((below_regrown w5 d os).mono hb5.size)))
      have cV3 := fun d os => Calls.regrown_of (cV3.out (grow (redrawn w5 d) os) (hb5.trans ((below_regrown w5 d os).mono hb5.size)))
      have q1 := fun d os => cell_regrown (N4.cell 1 rfl) d os
      have k1 := fun d os => cell_regrown k1 d os
      go_upto_region 5 with fail
      refine wp_region_quiet_below (by kernel_rfl) (by kernel_rfl) ?_
      repeat (quiet_step (first | (go_at_call 38; with_reducible exact cV2 _ _) | (go_at_call 38; with_reducible exact cV3 _ _)))
      refine wpQuiet_nil ?_
      intro _ hw'
      obtain ⟨⟨dq, osq⟩, hw''⟩ := hw'
      subst hw''
      go_wp2_with fail
      go_ret3
      exact HP.out _ _ ⟨by rw [H1.out, H2.out, H3.out]; rfl, hb5.trans ((below_regrown w5 dq osq).mono hb5.size)⟩
  · rw [hfd, if_neg hin] at cL
    have HB := Lib.hid (show ob = false by rw [HB.out, decide_eq_false hin, Bool.and_false])
    rw [HB.out] at H1 H2 H3
    clear hfd hixl hin
    go_upto_region 3 with (go_at_call 40; refine cL.mono ?_; rintro e w5 ⟨rfl, hb5⟩)
    have hb5 := below_trans' hb2 hb2.size hb5
    clear q0 q1 q2 q3 N3 cL hb2 hb3 cV HLS
    by_cases hz : id = 0
    · subst hz
      go_wp2_with fail
      go_ret3
      exact HP.out _ _ ⟨by rw [H1.out, H2.out, H3.out]; rfl, hb5⟩
    · have hzb : (id == 0) = false := beq_eq_false_iff_ne.2 hz
      clear hz
      go_wp2_with fail
      go_ret3
      exact HP.out _ _ ⟨by rw [H1.out, H2.out, H3.out]; rfl, hb5⟩
end Go.Proofs.YthbodpjkckminaaGreatDoor

namespace Go.Proofs.YthbodpjkckminaaGreatDoor
open Go.RowKit Go.Sort

theorem elemItm : Elem Tryz.prog 120 184 5 40 := Elem.mk Tryz.underlying120 (z := .agg #[.int .i64 0, .int .i64 0, .int .i64 0, .int .i64 0, .int .i64 0]) (by kernel_rfl) rfl (by omega)
def ItPost (w : World) (l : List Itm) (e : Ending) (w' : World) : Prop := ∃ (A' : Option Addr) (c' : Nat), e = .returned (.slice A' l.length c') ∧ Own w' w.heap.size 184 5 itmC A' l.length c' l ∧ Below w.heap.size w w'
theorem itm_take {es : List LsE} {ys : List Fi} {ks : List Nat} {j : Nat} (h : j < ks.length) : itmL es ys (ks.take (j + 1)) = if pid es ys (ks.getD j 0) = 0 then itmL es ys (ks.take j) else itmL es ys (ks.take j) ++ [itmK es ys (ks.getD j 0)] := by
  rw [List.take_succ_eq_append_getElem h, itmL_snoc, List.getD_eq_getElem?_getD, List.getElem?_eq_getElem h]
  rfl
theorem itmL_len (es : List LsE) (ys : List Fi) (l : List Nat) : (itmL es ys l).length ≤ l.length := by
  unfold itmL
  rw [List.length_map]
  exact List.length_filter_le ..
theorem boxes_lit (w : World) (D : Array Value) (t : TypeId) : Blk (w.alloc (.cells D t)) w.heap.size t D ∧ Below w.heap.size w (w.alloc (.cells D t)) := ⟨Blk.new w t D, alloc1 w _⟩
set_option maxRecDepth 100000 in
set_option maxHeartbeats 16000000 in
theorem litems_any (A : Option Addr) (m c : Nat) (LA : Option Addr) (ln lc : Nat) (xs : List It) (ys : List Fi) (es : List LsE) (vs : List (List Lv)) (w : World) (hD : DocR w A m xs ys LA ln es vs) :
    Calls Tryz.prog 47 #[.agg (docL A m c LA ln lc).toArray] w (ItPost w (itmL es ys (pmL ys m))) := by
  have hm : m ≤ 1000000 := by have := hD.dy.fw.nf.ok.len; have := hD.fl.ly; omega
  have cA := Lib.hid (fun W (hb : Below w.heap.size w W) => pall_any A m c LA ln lc xs ys W (hD.below hb).fl hD.dy)
  have HP := Lib.hid (show ∀ e w', (∃ (A' : Option Addr) (c' : Nat), e = .returned (.slice A' (itmL es ys (pmL ys m)).length c') ∧ Own w' w.heap.size 184 5 itmC A' (itmL es ys (pmL ys m)).length c' (itmL es ys (pmL ys m)) ∧ Below w.heap.size w w') → ItPost w (itmL es ys (pmL ys m)) e w' from fun _ _ h => h)
  have hpl := pmL_len ys m
  have hbm : (bkL ys m).length ≤ m := bkL_len ys m
  unfold PaPost at cA
  rw [← hpl] at cA hbm
  have HAT := Lib.hid (fun j (hj : j < (pmL ys m).length) => pmL_at hj)
  have HTS := Lib.hid (fun j (hj : j < (pmL ys m).length) => itm_take (es := es) (ys := ys) hj)
  have HIL := Lib.hid (fun j => Nat.le_trans (itmL_len es ys ((pmL ys m).take j)) (List.length_take_le' j (pmL ys m)))
  have HTN := Lib.hid (show (pmL ys m).take (pmL ys m).length = pmL ys m from List.take_length)
  rw [show (docL A m c LA ln lc).toArray = #[.slice A m c, .slice none 0 0, .int .i64 0, .int .i64 0, .slice none 0 0, .slice none 0 0, .slice none 0 0, .slice none 0 0, .slice LA ln lc, .slice none 0 0, .slice none 0 0] from rfl] at *
  have HX := Lib.hid (boxes_lit w #[.slice A m c, .slice none 0 0, .int .i64 0, .int .i64 0, .slice none 0 0, .slice none 0 0, .slice none 0 0, .slice none 0 0, .slice LA ln lc, .slice none 0 0, .slice none 0 0] 63)
  generalize pmL ys m = ks at *
  obtain ⟨n, hn⟩ : ∃ n, ks.length = n := ⟨_, rfl⟩
  rw [hn] at hpl cA hbm
  have HN := Lib.hid hn
  clear hn
  go_enter Tryz.func47, Tryz.ntmps47
  go_upto_region 1 with fail
  obtain ⟨B1, hb1⟩ := HX.out
  clear HX
  generalize w.alloc (.cells #[.slice A m c, .slice none 0 0, .int .i64 0, .int .i64 0, .slice none 0 0, .slice none 0 0, .slice none 0 0, .slice none 0 0, .slice LA ln lc, .slice none 0 0, .slice none 0 0] 63) = w1 at *
  obtain ⟨p1, hp1⟩ : ∃ p1, p1 = w.heap.size := ⟨_, rfl⟩
  rw [← hp1] at B1 ⊢
  clear hp1
  have q0 := B1.cell 0 rfl
  have q1 := B1.cell 1 rfl
  have q2 := B1.cell 2 rfl
  have q3 := B1.cell 3 rfl
  have q4 := B1.cell 4 rfl
  have q5 := B1.cell 5 rfl
  have q6 := B1.cell 6 rfl
  have q7 := B1.cell 7 rfl
  have q8 := B1.cell 8 rfl
  have q9 := B1.cell 9 rfl
  have q10 := B1.cell 10 rfl
  have cA := cA.out w1 hb1
  go_wp2_with (go_at_call 85; refine cA.mono ?_; rintro e w2 ⟨AQ, cq, rfl, oq, hb2⟩)
  have B1 := B1.below hb2
  have hb2' := below_trans' hb1 hb1.size hb2
  have SQ := oq.slb plC_len
  obtain ⟨N2, hN2⟩ : ∃ N, N = w2.heap.size := ⟨_, rfl⟩
  have hlw := oq.lt
  have hlw1 : ∀ ad, AQ = some ad → ad.block < N2 := fun ad e => by rw [hN2]; exact (hlw _ (by rw [e]; rfl)).2
  have HLQ := Lib.hid hlw1
  have HN2 := Lib.hid (show w.heap.size ≤ N2 by rw [hN2]; exact hb2'.size)
  have hN3 : N2 ≤ w2.heap.size := by omega
  clear q0 q1 q2 q3 q4 q5 q6 q7 q8 q9 q10 cA oq hlw hlw1 hb1 hb2 hN2
  go_loopw [3, 5] (fun vo vi wr => ∃ (j : Nat) (AO : Option Addr) (cO : Nat), vo = .slice AO (itmL es ys (ks.take j)).length cO ∧ vi = .int .i64 j ∧ j ≤ n ∧ Own wr N2 184 5 itmC AO (itmL es ys (ks.take j)).length cO (itmL es ys (ks.take j)) ∧ N2 ≤ wr.heap.size ∧ Blk wr p1 63 #[.slice A m c, .slice none 0 0, .int .i64 0, .int .i64 0, .slice none 0 0, .slice none 0 0, .slice none 0 0, .slice none 0 0, .slice LA ln lc, .slice none 0 0, .slice none 0 0] ∧ Slb wr 5 plC AQ n (bkL ys m) ∧ Below w.heap.size w wr) (fun _ vi _ => n - (intOf vi).toNat)
  case atStart => exact ⟨0, none, 0, rfl, rfl, Nat.zero_le _, Own.nil_ _ _ _ _ _, hN3, B1, SQ, hb2'⟩
  case round =>
    obtain ⟨j, AO, cO, rfl, rfl, hj, ho, hNr, B1', SR, hbr⟩ := hrel
    clear B1 SQ hb2' hN3
    by_cases hlt : j < n
    · obtain ⟨hk, hk2, hgb⟩ := HAT.out j (by rw [HN.out]; exact hlt)
      have hts := HTS.out j (by rw [HN.out]; exact hlt)
      have hil := HIL.out j
      obtain ⟨ol, hol⟩ : ∃ ol, itmL es ys (ks.take j) = ol := ⟨_, rfl⟩
      rw [hol] at hts ho hil ⊢
      generalize ks.getD j 0 = k at *
      have HTS1 := Lib.hid hts
      clear hts hol
      obtain ⟨g, o, e, hgl, hr⟩ := SR.at_ bkZ hlt
      rw [show (bkL ys m).getD j bkZ = gBk (bkL ys m) j from rfl, hgb, show plC (bkK ys k) = [.int .i64 0, .int .i64 1, .int .i64 (frK ys k : Nat), .int .i64 ((k : Int) + 1), .bool true] from rfl] at hr
      subst e
      have cF := Lib.hid (fun W (hb : Below w.heap.size w W) => flow_any A m c LA ln lc xs ys W (hD.below hb).fl hD.dy.fw.nf.ok (fun j hj => by obtain ⟨s, e, _⟩ := hD.fl.f j hj; rw [e]; exact hD.dy.kd j (by have := hD.fl.ly; omega)) hm)
      have cO := Lib.hid (fun W A' c' zs (h : Fl W A' m zs ys) => pown_any A' m c' zs ys k W h hD.dy hk hk2)
      have cP := Lib.hid (fun W (hb : Below w.heap.size w W) => ppara_any A m c LA ln lc xs ys k W (hD.below hb).fl hD.dy hk hk2 (hD.pr k hk hk2))
      have hsr := pckE_sorted (hD.pr k hk hk2).ck
      have hpn := (hD.pr k hk hk2).ln
      have cOf := Lib.hid (fun W (hb : Below w.heap.size w W) AE1 ce1 AO co (he : Sl W 2 prC AE1 (gFi ys k).ps.length (gFi ys k).ps) (ho : Sl W 2 prC AO (gFi ys k).ps.length (gFi ys k).ps) => lof_any svZ svZ svZ LA ln lc es AE1 AO (gFi ys k).ps.length ce1 (gFi ys k).ps.length co (gFi ys k).ps (gFi ys k).ps W (hD.below hb).ls.l hD.ll he ho hpn hpn hsr hsr)
      rw [show (stL svZ LA ln lc svZ svZ).toArray = #[.slice none 0 0, .slice LA ln lc, .slice none 0 0, .slice none 0 0] from rfl] at cOf
      rw [show (bkC4 (bkK ys k)).toArray = #[.int .i64 1, .int .i64 (frK ys k : Nat), .int .i64 ((k : Int) + 1), .bool true] from rfl] at cO
      rw [show (docL A m c LA ln lc).toArray = #[.slice A m c, .slice none 0 0, .int .i64 0, .int .i64 0, .slice none 0 0, .slice none 0 0, .slice none 0 0, .slice none 0 0, .slice LA ln lc, .slice none 0 0, .slice none 0 0] from rfl] at cF cP
      rw [show of1 es (gFi ys k).ps = pid es ys k from rfl, show of2 es (gFi ys k).ps = plv es ys k from rfl, show of3 es (gFi ys k).ps (gFi ys k).ps = prs es ys k from rfl] at cOf
      have HIM := Lib.hid (show itmK es ys k = ⟨(frK ys k : Nat), pid es ys k, plv es ys k, prs es ys k⟩ from rfl)
      have HLY := Lib.hid (show ys.length = m from hD.fl.ly)
      clear hsr hpn hgb hk2
      generalize frK ys k = lo at *
      generalize (gFi ys k).ps = pr at *
      generalize hpid : pid es ys k = id at *
      generalize plv es ys k = lv at *
      generalize prs es ys k = rs at *
      clear hpid
      have hlt' : (j : Int) < n := by omega
      have r0 : wr.cell? ⟨g, o + j * 5, none⟩ = some (.int .i64 0) := hr 0 _ rfl
      have r1 : wr.cell? ⟨g, o + j * 5 + 1, none⟩ = some (.int .i64 1) := hr 1 _ rfl
      have r2 : wr.cell? ⟨g, o + j * 5 + 2, none⟩ = some (.int .i64 (lo : Nat)) := hr 2 _ rfl
      have r3 : wr.cell? ⟨g, o + j * 5 + 3, none⟩ = some (.int .i64 ((k : Int) + 1)) := hr 3 _ rfl
      have r4 : wr.cell? ⟨g, o + j * 5 + 4, none⟩ = some (.bool true) := hr 4 _ rfl
      have HR := Lib.hid (fun W (hb : Below wr.heap.size wr W) => And.intro (keepC hb r1) (And.intro (keepC hb r2) (And.intro (keepC hb r3) (keepC hb r4))))
      clear hr r1 r3 r4
      go_upto_region 6 with fail
      refine wp_region_held_drew (S := fun W => W.cell? ⟨g, o + j * 5, none⟩ = some (.int .i64 0) ∧ W.cell? ⟨g, o + j * 5 + 2, none⟩ = some (.int .i64 (lo : Nat))) (by kernel_rfl) ⟨r0, r2⟩ (fun hHeld => ?_)
      have hwd := bDrew (Below.refl wr.heap.size wr)
      generalize wr.drew = wd at *
      clear r0 r2
      refine hx_take 0 (some 22) _ rfl (by kernel_rfl) (by kernel_rfl) (by kernel_rfl) (fun _ _ _ h => h) rfl (Or.inl ⟨by rfl, fun w hSw => by first | (go_simp; done) | (go_simp; with_reducible rfl) | (go_simp; rfl)⟩) (by assumption) ?_
      try simp only [Act.put, List.setIfInBounds_toArray, List.set_cons_zero, List.set_cons_succ]
      refine hx_take 1 (some 23) _ rfl (by kernel_rfl) (by kernel_rfl) (by kernel_rfl) (fun _ _ _ h => h) rfl (Or.inl ⟨by rfl, fun w hSw => by first | (go_simp; done) | (go_simp; with_reducible rfl) | (go_simp; rfl)⟩) (by assumption) ?_
      try simp only [Act.put, List.setIfInBounds_toArray, List.set_cons_zero, List.set_cons_succ]
      refine hx_take 5 (some 27) _ rfl (by kernel_rfl) (by kernel_rfl) (by kernel_rfl) (fun _ _ _ h => h) rfl (Or.inl ⟨by rfl, fun w hSw => by first | (go_simp; done) | (go_simp; with_reducible rfl) | (go_simp; rfl)⟩) (by assumption) ?_
      try simp only [Act.put, List.setIfInBounds_toArray, List.set_cons_zero, List.set_cons_succ]
      refine hx_take 6 (some 28) _ rfl (by kernel_rfl) (by kernel_rfl) (by kernel_rfl) (fun _ _ _ h => h) rfl (Or.inl ⟨by rfl, fun w hSw => by first | (go_simp; done) | (go_simp; with_reducible rfl) | (go_simp; rfl)⟩) (by assumption) ?_
      try simp only [Act.put, List.setIfInBounds_toArray, List.set_cons_zero, List.set_cons_succ]
      refine hx_take 2 (some 24) (.pointer (some ⟨g, o + j * 5, none⟩)) rfl (by kernel_rfl) (by kernel_rfl) (by kernel_rfl) (fun _ _ _ h => h) rfl (Or.inl ⟨by rfl, fun w hSw => by first | (go_simp; done) | (go_simp; with_reducible rfl) | (go_simp; rfl)⟩) (by assumption) ?_
      try simp only [Act.put, List.setIfInBounds_toArray, List.set_cons_zero, List.set_cons_succ]
      refine hx_take 7 (some 29) (.pointer (some ⟨g, o + j * 5, none⟩)) rfl (by kernel_rfl) (by kernel_rfl) (by kernel_rfl) (fun _ _ _ h => h) rfl (Or.inl ⟨by rfl, fun w hSw => by first | (go_simp; done) | (go_simp; with_reducible rfl) | (go_simp; rfl)⟩) (by assumption) ?_
      try simp only [Act.put, List.setIfInBounds_toArray, List.set_cons_zero, List.set_cons_succ]
      refine hx_take 3 (some 25) _ rfl (by kernel_rfl) (by kernel_rfl) (by kernel_rfl) (fun _ _ _ h => h) rfl (Or.inl ⟨by rfl, fun w hSw => by first | (go_simp; done) | (go_simp; with_reducible rfl) | (go_simp; rfl)⟩) (by assumption) ?_
      try simp only [Act.put, List.setIfInBounds_toArray, List.set_cons_zero, List.set_cons_succ]
      refine hx_take 8 (some 30) _ rfl (by kernel_rfl) (by kernel_rfl) (by kernel_rfl) (fun _ _ _ h => h) rfl (Or.inl ⟨by rfl, fun w hSw => by first | (go_simp; done) | (go_simp; with_reducible rfl) | (go_simp; rfl)⟩) (by assumption) ?_
      try simp only [Act.put, List.setIfInBounds_toArray, List.set_cons_zero, List.set_cons_succ]
      refine hx_take 4 (some 26) (.int .i64 0) rfl (by kernel_rfl) (by kernel_rfl) (by kernel_rfl) (fun _ _ _ h => h) rfl (Or.inl ⟨by rfl, fun w hSw => by first | (go_simp; done) | (go_simp; with_reducible rfl) | (go_simp; rfl)⟩) (by assumption) ?_
      try simp only [Act.put, List.setIfInBounds_toArray, List.set_cons_zero, List.set_cons_succ]
      refine hx_take 9 (some 31) _ rfl (by kernel_rfl) (by kernel_rfl) (by kernel_rfl) (fun _ _ _ h => h) rfl (Or.inl ⟨by rfl, fun w hSw => by first | (go_simp; done) | (go_simp; with_reducible rfl) | (go_simp; rfl)⟩) (by assumption) ?_
      try simp only [Act.put, List.setIfInBounds_toArray, List.set_cons_zero, List.set_cons_succ]
      refine hx_take 10 (some 32) (.int .i64 (lo : Nat)) rfl (by kernel_rfl) (by kernel_rfl) (by kernel_rfl) (fun _ _ _ h => h) rfl (Or.inl ⟨by rfl, fun w hSw => by first | (go_simp; done) | (go_simp; with_reducible rfl) | (go_simp; rfl)⟩) (by assumption) ?_
      try simp only [Act.put, List.setIfInBounds_toArray, List.set_cons_zero, List.set_cons_succ]
      refine hx_take 11 (some 33) _ rfl (by kernel_rfl) (by kernel_rfl) (by kernel_rfl) (fun _ _ _ h => h) rfl (Or.inl ⟨by rfl, fun w hSw => by first | (go_simp; done) | (go_simp; with_reducible rfl) | (go_simp; rfl)⟩) (by assumption) ?_
      try simp only [Act.put, List.setIfInBounds_toArray, List.set_cons_zero, List.set_cons_succ]
      have hal := alloc1 wd (.cells #[.int .i64 0, .int .i64 0] 71)
      have N6 := Blk.new wd 71 #[.int .i64 0, .int .i64 0]
      have hh2 : (wd.alloc (.cells #[.int .i64 0, .int .i64 0] 71)).cell? ⟨g, o + j * 5, none⟩ = some (.int .i64 0) ∧ (wd.alloc (.cells #[.int .i64 0, .int .i64 0] 71)).cell? ⟨g, o + j * 5 + 2, none⟩ = some (.int .i64 (lo : Nat)) := ⟨keepC hal hHeld.1, keepC hal hHeld.2⟩
      refine hx1 12 (by kernel_rfl) ?_
      refine hx_val 12 (some 6) (.pointer (some ⟨wd.heap.size, 0, none⟩)) (wd.alloc (.cells #[.int .i64 0, .int .i64 0] 71)) rfl (by rfl) rfl (by first | (go_simp; done) | (go_simp; rfl)) hh2 ?_
      try simp only [Act.put, List.setIfInBounds_toArray, List.set_cons_zero, List.set_cons_succ]
      have hgl2 : g < wd.heap.size := Nat.lt_of_lt_of_le hgl hwd.size
      have N6' := Blk.setCells_ [.int .i64 0, .int .i64 (lo : Nat)] [] [.int .i64 0, .int .i64 0] _ N6 rfl
      have hst := below_setC hal (Nat.le_refl _) (Nat.le_refl wd.heap.size) [.int .i64 0, .int .i64 (lo : Nat)]
      have hh3 : ((wd.alloc (.cells #[.int .i64 0, .int .i64 0] 71)).setCells wd.heap.size 0 [.int .i64 0, .int .i64 (lo : Nat)]).cell? ⟨g, o + j * 5, none⟩ = some (.int .i64 0) ∧ ((wd.alloc (.cells #[.int .i64 0, .int .i64 0] 71)).setCells wd.heap.size 0 [.int .i64 0, .int .i64 (lo : Nat)]).cell? ⟨g, o + j * 5 + 2, none⟩ = some (.int .i64 (lo : Nat)) := ⟨keepC hst hHeld.1, keepC hst hHeld.2⟩
      refine hx1 13 (by kernel_rfl) ?_
      refine hx_store 13 71 (.tmp 6) (.tmp 33) wd.heap.size [.int .i64 0, .int .i64 (lo : Nat)] rfl (by rfl) rfl rfl rfl rfl (N6.thereM (q := 0) (n := 2) (by decide)) (by kernel_rfl) (by simp [Value.oneCell']) hh3 ?_
      refine wpAnyH_done (by kernel_rfl) ?_ _
      have hw6 := below_trans' hwd hwd.size hst
      have N6 : Blk ((wd.alloc (.cells #[.int .i64 0, .int .i64 0] 71)).setCells wd.heap.size 0 [.int .i64 0, .int .i64 (lo : Nat)]) wd.heap.size 71 #[.int .i64 0, .int .i64 (lo : Nat)] := N6'
      clear hh2 hh3 hst hal N6' hgl2 hHeld hwd
      generalize (wd.alloc (.cells #[.int .i64 0, .int .i64 0] 71)).setCells wd.heap.size 0 [.int .i64 0, .int .i64 (lo : Nat)] = w6 at *
      generalize wd.heap.size = p6 at *
      have hbw := below_trans' hbr hbr.size hw6
      have B1 := B1'.below hw6
      have q0 := B1.cell 0 rfl
      have q1 := B1.cell 1 rfl
      have q2 := B1.cell 2 rfl
      have q3 := B1.cell 3 rfl
      have q4 := B1.cell 4 rfl
      have q5 := B1.cell 5 rfl
      have q6 := B1.cell 6 rfl
      have q7 := B1.cell 7 rfl
      have q8 := B1.cell 8 rfl
      have q9 := B1.cell 9 rfl
      have q10 := B1.cell 10 rfl
      have k0 := N6.cell 0 rfl
      have cF := cF.out w6 hbw
      go_upto_region 8 with (go_at_call 86; refine cF.mono ?_; rintro e w7 ⟨A7, c7, z7, rfl, M7, hb7⟩)
      have F7 := M7.fl rfl
      rw [HLY.out] at F7
      have cO := cO.out w7 A7 c7 z7 F7
      rw [HLY.out]
      have hw7 := below_trans' hw6 hw6.size hb7
      have hbw := below_trans' hbr hbr.size hw7
      have N6 := N6.below hb7
      have B1 := B1'.below hw7
      clear q0 q1 q2 q3 q4 q5 q6 q7 q8 q9 q10 k0 cF F7 M7 hb7 hw6
      obtain ⟨s1, s2, s3, s4⟩ := HR.out w7 hw7
      have s2' : w7.cell? ⟨g, o + j * 5 + 1 + 1, none⟩ = some (.int .i64 (lo : Nat)) := s2
      have s3' : w7.cell? ⟨g, o + j * 5 + 1 + 2, none⟩ = some (.int .i64 ((k : Int) + 1)) := s3
      have s4' : w7.cell? ⟨g, o + j * 5 + 1 + 3, none⟩ = some (.bool true) := s4
      unfold PrPost at cO
      go_upto_region 9 with (go_at_call 87; refine cO.mono ?_; rintro e w8 ⟨A8, c8, rfl, o8, hb8⟩)
      have hw8 := below_trans' hw7 hw7.size hb8
      have hbw8 := below_trans' hbr hbr.size hw8
      have N6 := N6.below hb8
      have B1 := B1'.below hw8
      have O8 := o8.base hbw.size
      clear s1 s2 s3 s4 s2' s3' s4' cO hb8 o8 hw7 hbw
      have q0 := B1.cell 0 rfl
      have q1 := B1.cell 1 rfl
      have q2 := B1.cell 2 rfl
      have q3 := B1.cell 3 rfl
      have q4 := B1.cell 4 rfl
      have q5 := B1.cell 5 rfl
      have q6 := B1.cell 6 rfl
      have q7 := B1.cell 7 rfl
      have q8 := B1.cell 8 rfl
      have q9 := B1.cell 9 rfl
      have q10 := B1.cell 10 rfl
      have k0 := N6.cell 0 rfl
      have k1 := N6.cell 1 rfl
      have cP := cP.out w8 hbw8
      unfold SpPost at cP
      go_upto_region 10 with (go_at_call 49; refine cP.mono ?_; rintro e w9 ⟨A9, c9, rfl, o9, hb9⟩)
      have hw9 := below_trans' hw8 hw8.size hb9
      have N6 := N6.below hb9
      have O8 := (O8.below hb9).sl prC_len
      have O9 := o9.sl prC_len
      clear q0 q1 q2 q3 q4 q5 q6 q7 q8 q9 q10 k0 k1 cP hb9 o9 hw8 hbw8
      have k0 := N6.cell 0 rfl
      have k1 := N6.cell 1 rfl
      go_upto_region 11 with fail
      have N13 := Blk.new w9 184 #[.int .i64 0, .int .i64 (lo : Nat), .int .i64 0, .int .i64 0, .int .i64 0]
      have hal := alloc1 w9 (.cells #[.int .i64 0, .int .i64 (lo : Nat), .int .i64 0, .int .i64 0, .int .i64 0] 184)
      have hwA := below_trans' hw9 hw9.size hal
      have HLP := Lib.hid (show wr.heap.size ≤ w9.heap.size from hw9.size)
      have O8 := O8.below hal
      have O9 := O9.below hal
      clear k0 k1 hal N6 hw9
      generalize w9.alloc (.cells #[.int .i64 0, .int .i64 (lo : Nat), .int .i64 0, .int .i64 0, .int .i64 0] 184) = wA at *
      generalize w9.heap.size = p13 at *
      have hbwA := below_trans' hbr hbr.size hwA
      have cOf := cOf.out wA hbwA A9 c9 A8 c8 O9 O8
      unfold OfPost at cOf
      have B1 := B1'.below hwA
      have q7 := B1.cell 7 rfl
      have q8 := B1.cell 8 rfl
      have q9 := B1.cell 9 rfl
      have q10 := B1.cell 10 rfl
      go_upto_region 12 with (go_at_call 17; refine cOf.mono ?_; rintro e wB ⟨rfl, hbB⟩; have N13 := N13.below hbB; have k2 := N13.cell 2 rfl; have k3 := N13.cell 3 rfl; have k4 := N13.cell 4 rfl; have f2 := N13.frozen 2; have f3 := N13.frozen 3; have f4 := N13.frozen 4)
      have N14 : Blk (((wB.setCell ⟨p13, 2, none⟩ (.int .i64 id)).setCell ⟨p13, 3, none⟩ (.int .i64 lv)).setCell ⟨p13, 4, none⟩ (.int .i64 rs)) p13 184 #[.int .i64 0, .int .i64 (lo : Nat), .int .i64 id, .int .i64 lv, .int .i64 rs] := ((N13.set_ 2 (.int .i64 id)).set_ 3 (.int .i64 lv)).set_ 4 (.int .i64 rs)
      have hwB := below_trans' hwA hwA.size hbB
      have hwC := ((hwB.setCell (p := ⟨p13, 2, none⟩) HLP.out (.int .i64 id)).setCell (p := ⟨p13, 3, none⟩) HLP.out (.int .i64 lv)).setCell (p := ⟨p13, 4, none⟩) HLP.out (.int .i64 rs)
      clear q7 q8 q9 q10 cOf k2 k3 k4 f2 f3 f4 N13 hbB hwB hwA hbwA O8 O9 B1
      generalize ((wB.setCell ⟨p13, 2, none⟩ (.int .i64 id)).setCell ⟨p13, 3, none⟩ (.int .i64 lv)).setCell ⟨p13, 4, none⟩ (.int .i64 rs) = wC at *
      have k0 := N14.cell 0 rfl
      have k1 := N14.cell 1 rfl
      have k2 := N14.cell 2 rfl
      have k3 := N14.cell 3 rfl
      have k4 := N14.cell 4 rfl
      have HF := Lib.hid (And.intro (B1'.below hwC) (And.intro (SR.below hwC) (below_trans' hbr hbr.size hwC)))
      have hoC := ho.below hwC
      have hbC : N2 ≤ wC.heap.size := Nat.le_trans hNr hwC.size
      clear N14 B1' SR hbr ho hwC HR hNr
      by_cases hid : id = 0
      · have hts : itmL es ys (ks.take (j + 1)) = ol := by rw [HTS1.out, if_pos hid]
        have HTS2 := Lib.hid hts
        subst hid
        clear hts k0 k1 k3 k4
        go_wp2_with fail
        go_roundw
        case rel => exact ⟨j + 1, AO, _, by rw [HTS2.out], by simp, by omega, by rw [HTS2.out]; exact hoC, hbC, HF.out.1, HF.out.2.1, HF.out.2.2⟩
        case measure => rw [intOf, intOf]; omega
      · have hts : itmL es ys (ks.take (j + 1)) = ol ++ [⟨(lo : Nat), id, lv, rs⟩] := by rw [HTS1.out, if_neg hid, HIM.out]
        have HTS2 := Lib.hid hts
        have hne : (id != 0) = true := bne_iff_ne.2 hid
        have hil2 : ol.length ≤ 1000000 := by have := HN.out; omega
        have HF2 := Lib.hid (fun A3 c3 w5 (ho3 : Own w5 N2 184 5 itmC A3 (ol.length + 1) c3 (ol ++ [⟨(lo : Nat), id, lv, rs⟩])) (hg3 : (wC.alloc (.cells (itmC ⟨(lo : Nat), id, lv, rs⟩).toArray 184)).grownBy w5 (blk AO)) => show Own w5 N2 184 5 itmC A3 (itmL es ys (ks.take (j + 1))).length c3 (itmL es ys (ks.take (j + 1))) ∧ N2 ≤ w5.heap.size ∧ Blk w5 p1 63 #[.slice A m c, .slice none 0 0, .int .i64 0, .int .i64 0, .slice none 0 0, .slice none 0 0, .slice none 0 0, .slice none 0 0, .slice LA ln lc, .slice none 0 0, .slice none 0 0] ∧ Slb w5 5 plC (some ⟨g, o, none⟩) n (bkL ys m) ∧ Below w.heap.size w w5 from by
          rw [HTS2.out, List.length_append, List.length_singleton]
          have hal := alloc1 wC (.cells (itmC ⟨(lo : Nat), id, lv, rs⟩).toArray 184)
          have hoD := hoC.below hal
          have B1D := HF.out.1.below hal
          have hbD := below_trans' HF.out.2.2 HF.out.2.2.size hal
          exact ⟨ho3, Nat.le_trans hbC (Nat.le_trans hal.size hg3.size), B1D.keep hg3 (hoD.ne_blk B1D (by decide)), (HF.out.2.1.below hal).keepAny hg3 (fun _ ad e => by
            cases e
            intro h
            have h1 := (hoD.lt g h.symm).1
            have h2 : g < N2 := HLQ.out _ rfl
            omega), hbD.grown hg3 hbD.size (fun k e => Nat.le_trans HN2.out (hoD.lt k e).1)⟩)
        clear hts hid
        go_wp2_with (at_builtin; refine wpList_push elemItm rfl (.tmp 74) (.tmp 76) rfl rfl _ rfl (hoC.alloc _) ⟨(lo : Nat), id, lv, rs⟩ _ rfl rfl (itmC_one _) rfl ⟨by omega, by unfold maxLen; omega⟩ (Nat.le_trans hbC (by simp)) ?_; intro A3 c3 w5 ho3 hg3 ha3)
        go_roundw
        case rel =>
          obtain ⟨h1, h2, h3, h4, h5⟩ := HF2.out A3 c3 w5 ho3 hg3
          exact ⟨j + 1, A3, c3, by rw [HTS2.out]; simp, by simp, by omega, h1, h2, h3, h4, h5⟩
        case measure => rw [intOf, intOf]; omega
    · have hjn : j = ks.length := by have := HN.out; omega
      have hge : ¬ (j : Int) < (bkL ys m).length := by have := HN.out; omega
      rw [hjn, HTN.out] at ho ⊢
      have hgk : ¬ (ks.length : Int) < (bkL ys m).length := by have := HN.out; omega
      have HE := Lib.hid (And.intro (ho.base HN2.out) hbr)
      clear ho hbr SR B1'
      go_wp2_with fail
      go_ret
      exact HP.out _ _ ⟨_, _, rfl, HE.out.1, HE.out.2⟩
end Go.Proofs.YthbodpjkckminaaGreatDoor
