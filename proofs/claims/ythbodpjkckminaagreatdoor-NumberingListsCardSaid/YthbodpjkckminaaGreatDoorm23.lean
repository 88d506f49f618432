/- Lists, levels, marks: opened. Arrays and structs by value, opened. What the five rows' condition gives; counters and pairs of numbers by value, opened. document: in, when, first, all. document: the checks of settings. stylesheet.Check of no styles, document.checkLists, CheckSettings. -/
import Derived.Test.YthbodpjkckminaaGreatDoorm22
import Derived.Test.YthbodpjkckminaaGreatDoorm5
namespace Go.Proofs.YthbodpjkckminaaGreatDoor
open Go.ChangeShapes Go.WideShapes Go.ChangeAt Go.RowKit Go.Deep

section
variable {H : Type} {enc : TypeId × Value → H} {P : Program}
/-- a slice among the cells of something greater. -/
theorem opens_slc {α : Type} {w : World} {t e : TypeId} {s : Nat} {ev : α → List Value} {ok : α → Prop} (ht : P.underlying t = some (.slice e)) (hC : P.cellsOf e = s) (hs0 : 0 < s) (ho : Opens enc P w e ev ok) :
    Opens enc P w t (fun q : Option Addr × Nat × Nat => [Value.slice q.1 q.2.1 q.2.2]) (fun q => q.2.1 ≤ q.2.2 ∧ q.2.2 ≤ maxLen ∧ (q.1 = none → q.2.2 = 0) ∧ ∃ xs, Sl w s ev q.1 q.2.1 xs ∧ ∀ x ∈ xs, ok x) := fun fuel cs x hf => by
  obtain ⟨d, p⟩ := x
  rcases open_slice ht hf with ⟨h0, _⟩ | ⟨a, n, c, m, k, D, Pl, hcs, _, hl, hm, hmm, _, hi⟩
  · exact ⟨(none, 0, 0), h0, Nat.le_refl _, Nat.zero_le _, fun _ => rfl, [], Sl.nil, by simp⟩
  · simp only [if_true] at hmm
    have hc1 : ∀ i, i < n → ∃ y, (ok y ∧ ∀ j u, (ev y)[j]? = some u → w.cell? (a.add (i * s + j)) = some u ∧ a.block < w.heap.size) := fun i hin => by
      obtain ⟨cs', hc, ht'⟩ := hi i (by omega)
      obtain ⟨y, hy, hok⟩ := ho _ _ _ ht'
      rw [hC] at hc
      obtain ⟨_, hcl, hat⟩ := World.cells?_some hc
      refine ⟨y, hok, fun j u hu => ?_⟩
      rw [← hy] at hu
      have hj : j < s := by have := (List.getElem?_eq_some_iff.1 hu).1; omega
      have hcell := hat j hj
      rw [hu] at hcell
      have e : w.cell? (a.add (i * s + j)) = some u := by rw [← hcell, Go.Deep.add_add]
      exact ⟨e, by have := World.block_lt_of_cell? w _ e; rw [block_add] at this; exact this⟩
    refine ⟨(some a, n, c), hcs, hl, hm, (fun h => by cases h), ?_⟩
    by_cases hn : n = 0
    · subst hn
      exact ⟨[], ⟨rfl, fun h => absurd h (Nat.lt_irrefl 0)⟩, by simp⟩
    · have hne : Nonempty α := ⟨(hc1 0 (by omega)).choose⟩
      have hc2 : ∀ i, ∃ y, i < n → (ok y ∧ ∀ j u, (ev y)[j]? = some u → w.cell? (a.add (i * s + j)) = some u ∧ a.block < w.heap.size) := fun i => by
        by_cases hin : i < n
        · obtain ⟨y, hy⟩ := hc1 i hin
          exact ⟨y, fun _ => hy⟩
        · exact ⟨Classical.choice hne, fun h => absurd h hin⟩
      obtain ⟨f, hf'⟩ := Classical.axiomOfChoice hc2
      have hz : a.block < w.heap.size := by
        obtain ⟨cs', hc, ht'⟩ := hi 0 (by omega)
        obtain ⟨_, hcl, hat⟩ := World.cells?_some hc
        have hp : 0 < P.cellsOf e := by omega
        have hcell := hat 0 hp
        have hlen : cs'[0]? = some (cs'[0]'(by omega)) := List.getElem?_eq_getElem _
        rw [hlen] at hcell
        have := World.block_lt_of_cell? w _ hcell
        rw [block_add, block_add] at this
        exact this
      refine ⟨(List.range n).map f, ⟨by simp, fun _ => ⟨a, rfl, hz, fun i x hx j u hu => ?_⟩⟩, ?_⟩
      · have hin : i < n := by have := (List.getElem?_eq_some_iff.1 hx).1; simpa using this
        rw [List.getElem?_map, List.getElem?_range hin] at hx
        injection hx with hx
        subst hx
        exact ((hf' i hin).2 j u hu).1
      · intro x hx
        obtain ⟨i, hi, rfl⟩ := List.mem_map.1 hx
        exact (hf' i (List.mem_range.1 hi)).1
end
section
variable {H : Type} {enc : TypeId × Value → H}
set_option maxRecDepth 100000 in
theorem opens_lv (w : World) : Opens enc Tryz.prog w 30 lvC (fun _ => True) := fun fuel cs x h => by
  obtain ⟨xs, n, _, _, hcl, hxl, hf⟩ := DataW.trod_struct Tryz.underlying30 h
  have hc2 : cs.length = 4 := hcl
  have f0 := hf 0 _ rfl
  have f1 := hf 1 _ rfl
  have f2 := hf 2 _ rfl
  have f3 := hf 3 _ rfl
  match cs, hc2 with
  | [a, b, c, d], _ =>
    match xs, hxl with
    | [y0, y1, y2, y3], _ =>
      obtain ⟨n0, e0, _, _⟩ := DataW.trod_int Tryz.underlying3 (show DataW.trod enc Tryz.prog w 0 (fun _ => true) true n 3 [a] = some y0 from f0)
      obtain ⟨n1, e1, _, _⟩ := DataW.trod_int Tryz.underlying3 (show DataW.trod enc Tryz.prog w 0 (fun _ => true) true n 3 [b] = some y1 from f1)
      obtain ⟨s2, e2, _, _⟩ := DataW.trod_string Tryz.underlying9 (show DataW.trod enc Tryz.prog w 0 (fun _ => true) true n 9 [c] = some y2 from f2)
      obtain ⟨n3, e3, _, _⟩ := DataW.trod_int Tryz.underlying3 (show DataW.trod enc Tryz.prog w 0 (fun _ => true) true n 3 [d] = some y3 from f3)
      simp only [List.cons.injEq, and_true] at e0 e1 e2 e3
      subst e0; subst e1; subst e2; subst e3
      exact ⟨⟨n0, n1, s2, n3⟩, rfl, trivial⟩
/-- what a list holds: its levels lie in memory. -/
def LsOk (w : World) (e : LsE) : Prop := e.n ≤ e.c ∧ ∃ ls, Sl w 4 lvC e.A e.n ls
set_option maxRecDepth 100000 in
theorem opens_ls (w : World) : Opens enc Tryz.prog w 96 lsC (LsOk w) := fun fuel cs x h => by
  obtain ⟨xs, n, _, _, hcl, hxl, hf⟩ := DataW.trod_struct Tryz.underlying96 h
  have hc2 : cs.length = 2 := hcl
  have f0 := hf 0 _ rfl
  have f1 := hf 1 _ rfl
  match cs, hc2 with
  | [a, b], _ =>
    match xs, hxl with
    | [y0, y1], _ =>
      obtain ⟨n0, e0, _, _⟩ := DataW.trod_int Tryz.underlying3 (show DataW.trod enc Tryz.prog w 0 (fun _ => true) true n 3 [a] = some y0 from f0)
      obtain ⟨q, e1, h1, _, _, ls, h2, _⟩ := opens_slc Tryz.underlying22 (s := 4) (by kernel_rfl) (by omega) (opens_lv w) n [b] y1 (show DataW.trod enc Tryz.prog w 0 (fun _ => true) true n 22 [b] = some y1 from f1)
      simp only [List.cons.injEq, and_true] at e0 e1
      subst e0; subst e1
      exact ⟨⟨n0, q.1, q.2.1, q.2.2⟩, rfl, h1, ls, h2⟩
end
/-- the levels of lists that lie in memory. -/
theorem lst_of {w : World} {A : Option Addr} {n : Nat} {es : List LsE} (h : Sl w 2 lsC A n es) (hok : ∀ e ∈ es, LsOk w e) : ∃ vs, LsT w A n es vs := by
  have hl := h.len
  have hch : ∀ k, ∃ ls, k < n → (gE es k).n ≤ (gE es k).c ∧ Sl w 4 lvC (gE es k).A (gE es k).n ls := fun k => by
    by_cases hk : k < n
    · have hm : gE es k ∈ es := by
        unfold gE
        rw [List.getD_eq_getElem?_getD, List.getElem?_eq_getElem (by omega)]
        exact List.getElem_mem _
      obtain ⟨h1, ls, h2⟩ := hok _ hm
      exact ⟨ls, fun _ => ⟨h1, h2⟩⟩
    · exact ⟨[], fun h => absurd h hk⟩
  obtain ⟨f, hf⟩ := Classical.axiomOfChoice hch
  have hg : ∀ k, k < n → ((List.range n).map f).getD k [] = f k := fun k hk => by
    rw [List.getD_eq_getElem?_getD, List.getElem?_map, List.getElem?_range hk]; rfl
  exact ⟨(List.range n).map f, h, fun k hk => by rw [hg k hk]; exact (hf k hk).2, fun k hk => (hf k hk).1, by simp⟩
end Go.Proofs.YthbodpjkckminaaGreatDoor

namespace Go.Proofs.YthbodpjkckminaaGreatDoor
open Go.ChangeShapes Go.WideShapes Go.ChangeAt Go.RowKit Go.Deep

section
variable {H : Type} {enc : TypeId × Value → H} {P : Program}
theorem okWide_array {w : World} {r : Reach} {base : Nat} {t e : TypeId} {n : Nat} {v : Value} (ht : P.underlying t = some (.array n e)) (h : Value.okWide P w r base t v) : ∃ cs, v = .agg cs ∧ cs.size = P.cellsOf t := by
  simp only [Value.okWide, ht] at h
  obtain ⟨cs, h1, h2, _⟩ := h
  exact ⟨cs, h1, h2⟩
theorem opens_arr2 {α : Type} {w : World} {t e : TypeId} {ev : α → List Value} {ok : α → Prop} (ht : P.underlying t = some (.array 2 e)) (hC : P.cellsOf t = 2) (ce : P.cellsOf e = 1) (ho : Opens enc P w e ev ok) :
    Opens enc P w t (fun p : α × α => ev p.1 ++ ev p.2) (fun p => ok p.1 ∧ ok p.2) := fun fuel cs x h => by
  obtain ⟨xs, m, _, _, hl, hx, hf⟩ := DataW.trod_array ht h
  rw [hC] at hl
  match cs, hl with
  | [a, b], _ =>
    have f0 := hf 0 (by omega)
    have f1 := hf 1 (by omega)
    rw [ce] at f0 f1
    rw [List.getElem?_eq_getElem (by omega)] at f0 f1
    obtain ⟨y0, e0, o0⟩ := ho _ _ _ f0
    obtain ⟨y1, e1, o1⟩ := ho _ _ _ f1
    refine ⟨(y0, y1), ?_, o0, o1⟩
    show _ = ev y0 ++ ev y1
    rw [← e0, ← e1]
    rfl
theorem opens_arr3 {α : Type} {w : World} {t e : TypeId} {ev : α → List Value} {ok : α → Prop} (ht : P.underlying t = some (.array 3 e)) (hC : P.cellsOf t = 3) (ce : P.cellsOf e = 1) (ho : Opens enc P w e ev ok) :
    Opens enc P w t (fun p : α × α × α => ev p.1 ++ ev p.2.1 ++ ev p.2.2) (fun p => ok p.1 ∧ ok p.2.1 ∧ ok p.2.2) := fun fuel cs x h => by
  obtain ⟨xs, m, _, _, hl, hx, hf⟩ := DataW.trod_array ht h
  rw [hC] at hl
  match cs, hl with
  | [a, b, c], _ =>
    have f0 := hf 0 (by omega)
    have f1 := hf 1 (by omega)
    have f2 := hf 2 (by omega)
    rw [ce] at f0 f1 f2
    rw [List.getElem?_eq_getElem (by omega)] at f0 f1 f2
    obtain ⟨y0, e0, o0⟩ := ho _ _ _ f0
    obtain ⟨y1, e1, o1⟩ := ho _ _ _ f1
    obtain ⟨y2, e2, o2⟩ := ho _ _ _ f2
    refine ⟨(y0, y1, y2), ?_, o0, o1, o2⟩
    show _ = ev y0 ++ ev y1 ++ ev y2
    rw [← e0, ← e1, ← e2]
    rfl
theorem open_aggv {α : Type} {w : World} {t : TypeId} {ev : α → List Value} {ok : α → Prop} {v : Value} {d : DataW H} {p : List MemPlace} (ho : Opens enc P w t ev ok) (hv : ∃ cs, v = .agg cs) (h : DataW.Trod enc P w 0 (fun _ => true) true t v d p) :
    ∃ y, v = .agg (ev y).toArray ∧ ok y := by
  obtain ⟨cs, rfl⟩ := hv
  obtain ⟨fuel, hf⟩ := h
  obtain ⟨y, hy, hok⟩ := ho _ _ _ hf
  refine ⟨y, ?_, hok⟩
  rw [← hy]
  rfl
end
end Go.Proofs.YthbodpjkckminaaGreatDoor

namespace Go.Proofs.YthbodpjkckminaaGreatDoor
open Go.ChangeShapes Go.WideShapes Go.ChangeAt Go.RowKit Go.Deep

section
variable {H : Type} {enc : TypeId × Value → H} {P : Program}
theorem opens_arr9 {α : Type} {w : World} {t e : TypeId} {ev : α → List Value} {ok : α → Prop} (ht : P.underlying t = some (.array 9 e)) (hC : P.cellsOf t = 9) (ce : P.cellsOf e = 1) (ho : Opens enc P w e ev ok) :
    Opens enc P w t (fun l : List α => l.flatMap ev) (fun l => l.length = 9) := fun fuel cs x h => by
  obtain ⟨xs, m, _, _, hl, hx, hf⟩ := DataW.trod_array ht h
  rw [hC] at hl
  match cs, hl with
  | [a, b, c, d, e, f, g, h, i], _ =>
    have f0 := hf 0 (by omega)
    have f1 := hf 1 (by omega)
    have f2 := hf 2 (by omega)
    have f3 := hf 3 (by omega)
    have f4 := hf 4 (by omega)
    have f5 := hf 5 (by omega)
    have f6 := hf 6 (by omega)
    have f7 := hf 7 (by omega)
    have f8 := hf 8 (by omega)
    rw [ce] at f0 f1 f2 f3 f4 f5 f6 f7 f8
    rw [List.getElem?_eq_getElem (by omega)] at f0 f1 f2 f3 f4 f5 f6 f7 f8
    obtain ⟨y0, e0, _⟩ := ho _ _ _ f0
    obtain ⟨y1, e1, _⟩ := ho _ _ _ f1
    obtain ⟨y2, e2, _⟩ := ho _ _ _ f2
    obtain ⟨y3, e3, _⟩ := ho _ _ _ f3
    obtain ⟨y4, e4, _⟩ := ho _ _ _ f4
    obtain ⟨y5, e5, _⟩ := ho _ _ _ f5
    obtain ⟨y6, e6, _⟩ := ho _ _ _ f6
    obtain ⟨y7, e7, _⟩ := ho _ _ _ f7
    obtain ⟨y8, e8, _⟩ := ho _ _ _ f8
    refine ⟨[y0, y1, y2, y3, y4, y5, y6, y7, y8], ?_, rfl⟩
    simp only [List.flatMap_cons, List.flatMap_nil, List.append_nil]
    rw [← e0, ← e1, ← e2, ← e3, ← e4, ← e5, ← e6, ← e7, ← e8]
    rfl
end
section
variable {H : Type} {enc : TypeId × Value → H}
theorem opens_b (w : World) : Opens enc Tryz.prog w 4 (fun b => [Value.bool b]) (fun _ => True) := fun fuel cs x h => by
  obtain ⟨b, h1, _⟩ := DataW.trod_bool Tryz.underlying4 h
  exact ⟨b, h1, trivial⟩
set_option maxRecDepth 100000 in
theorem opens_cn (w : World) : Opens enc Tryz.prog w 26 cnL (fun _ => True) := fun fuel cs x h => by
  obtain ⟨xs, n, _, _, hcl, hxl, hf⟩ := DataW.trod_struct Tryz.underlying26 h
  have hc2 : cs.length = 18 := hcl
  have f0 := hf 0 _ rfl
  have f1 := hf 1 _ rfl
  match xs, hxl with
  | [y0, y1], _ =>
    obtain ⟨l1, e1, h1⟩ := opens_arr9 Tryz.underlying23 (by kernel_rfl) (by kernel_rfl) (opens_int Tryz.underlying3) n _ y0 f0
    obtain ⟨l2, e2, h2⟩ := opens_arr9 Tryz.underlying24 (by kernel_rfl) (by kernel_rfl) (opens_b w) n _ y1 f1
    simp only at e1
    simp only at e2
    match l1, h1, e1 with
    | [a0, a1, a2, a3, a4, a5, a6, a7, a8], _, e1 =>
      match l2, h2, e2 with
      | [b0, b1, b2, b3, b4, b5, b6, b7, b8], _, e2 =>
        refine ⟨fun i => ([a0, a1, a2, a3, a4, a5, a6, a7, a8].getD i 0, [b0, b1, b2, b3, b4, b5, b6, b7, b8].getD i false), ?_, trivial⟩
        have e3 : cs = (cs.drop 0).take 9 ++ (cs.drop 9).take 9 := by
          rw [List.drop_zero, show (cs.drop 9).take 9 = cs.drop 9 from List.take_of_length_le (by rw [List.length_drop]; omega), List.take_append_drop]
        have e1' : (cs.drop 0).take 9 = _ := e1
        have e2' : (cs.drop 9).take 9 = _ := e2
        rw [e3, e1', e2']
        rfl
end
set_option maxRecDepth 100000 in
theorem laid_gl5 {W : World} (h : laidMetH Tryz.prog Rows.numberingStepsRow.laid W) : Gl W := by
  rw [MakeChecks.laidMetH_plain _ _ _ (by kernel_rfl)] at h
  obtain ⟨ps, ⟨_, _, _, _, _, _, _, _, _, _, ⟨_, _, _, _, _, _, _, _, _, _, ⟨g2, t2, cs2, f2, p2, q2, hg2, ht2, hv2, hd2, ⟨_, _, _, _, _, _, _, _, _, _, ⟨g4, t4, cs4, f4, p4, q4, hg4, ht4, hv4, hd4, _, _⟩, _⟩, _⟩, _⟩, _⟩, _, _⟩ := h
  obtain rfl := Option.some.inj ((show Tryz.prog.globalNamed "internal/strconv.uint64pow10" = some 2 by kernel_rfl).symm.trans hg2)
  obtain rfl := Option.some.inj ((show Tryz.prog.globalNamed "obelus/numeral.signs" = some 0 by kernel_rfl).symm.trans hg4)
  obtain rfl := Option.some.inj ((show (Tryz.prog.globals[2]?).map (·.type) = some 351 by kernel_rfl).symm.trans ht2)
  obtain rfl := Option.some.inj ((show (Tryz.prog.globals[0]?).map (·.type) = some 324 by kernel_rfl).symm.trans ht4)
  refine ⟨?_, fun j v hv => ?_⟩
  · have e : cs2.toList = Lib.pow10Tab.map fun z => Value.int .u64 z := Lib.cells_of_tab Tryz.underlying351 Tryz.underlying335 (by kernel_rfl) (by kernel_rfl) hd2
    unfold Lib.TabIs
    rw [hv2, ← e]
  · have e : cs4.toList = signsC := signs_of hd4
    have := World.var?_cell hg4 hv4 j
    rw [Nat.zero_add, this, ← Array.getElem?_toList, e, hv]
end Go.Proofs.YthbodpjkckminaaGreatDoor

namespace Go.Proofs.YthbodpjkckminaaGreatDoor
open Go.RowKit

theorem in_any (n lo hi : Int) (w : World) : Calls Tryz.prog 67 #[.int .i64 n, .int .i64 lo, .int .i64 hi] w fun e w' => e = .returned (.bool (decide (lo ≤ n) && decide (n ≤ hi))) ∧ w' = w := by
  by_cases h1 : lo ≤ n
  · go_enter Tryz.func67, Tryz.ntmps67
    go_wp2_with fail
    go_ret
    exact ⟨by simp [h1], rfl⟩
  · have HF := Lib.hid (decide_eq_false h1)
    go_enter Tryz.func67, Tryz.ntmps67
    go_wp2_with fail
    go_ret
    exact ⟨by rw [HF.out]; rfl, rfl⟩
theorem when_any (b : Bool) (e : Int) (w : World) : Calls Tryz.prog 44 #[.bool b, .int .i64 e] w fun r w' => r = .returned (.int .i64 (if b = true then e else 0)) ∧ w' = w := by
  cases b
  all_goals
    go_enter Tryz.func44, Tryz.ntmps44
    go_wp2_with fail
    go_ret
    exact ⟨rfl, rfl⟩
set_option maxRecDepth 100000 in
theorem dfirst_any (A : Option Addr) (n c : Nat) (es : List Int) (w : World) (ha : Sl w 1 intC A n es) (hn : n ≤ 1000000) :
    Calls Tryz.prog 31 #[.slice A n c] w fun r w' => r = .returned (.int .i64 (firstNZ es)) ∧ w' = w := by
  have hl := ha.len
  have HAT := Lib.hid (fun i (h0 : ∀ t, t < i → es.getD t 0 = 0) (hn : es.getD i 0 ≠ 0) => firstNZ_at h0 hn)
  have HALL := Lib.hid (fun (h0 : ∀ t, t < es.length → es.getD t 0 = 0) => firstNZ_all h0)
  have HLN := Lib.hid hl
  clear hl
  generalize firstNZ es = r at *
  go_enter Tryz.func31, Tryz.ntmps31
  go_wp2_with fail
  go_loop [7] (fun vi => ∃ i : Nat, vi = .int .i64 i ∧ i ≤ n ∧ ∀ t, t < i → es.getD t 0 = 0) (fun vi => n - (intOf vi).toNat)
  case atStart => exact ⟨0, rfl, Nat.zero_le _, fun t ht => absurd ht (Nat.not_lt_zero _)⟩
  case round =>
    obtain ⟨i, rfl, hi, hz⟩ := hrel
    have HZ := Lib.hid hz
    clear hz
    by_cases hlt : i < n
    · obtain ⟨ad, e, hl2, k0⟩ := ha.int hlt
      subst e
      have hlt' : (i : Int) < n := by omega
      obtain ⟨v, hv⟩ : ∃ v, gI es i = v := ⟨_, rfl⟩
      rw [hv] at k0
      have HV := Lib.hid hv
      clear hv
      by_cases hv0 : v = 0
      · have hb : (v != 0) = false := by rw [hv0]; rfl
        have HV0 := Lib.hid hv0
        clear hv0
        go_wp2_with fail
        go_round
        case rel => exact ⟨i + 1, by simp, by omega, fun t ht => by
          rcases (show t < i ∨ t = i by omega) with h | rfl
          · exact HZ.out t h
          · exact HV.out.trans HV0.out⟩
        case measure => simp [intOf]; omega
      · have hb : (v != 0) = true := bne_iff_ne.2 hv0
        have HV0 := Lib.hid hv0
        clear hv0
        go_wp2_with fail
        go_ret
        exact ⟨by rw [HAT.out i HZ.out (by rw [show es.getD i 0 = v from HV.out]; exact HV0.out), show es.getD i 0 = v from HV.out]; rfl, rfl⟩
    · have : i = n := by omega
      subst this
      go_wp2_with fail
      go_ret
      exact ⟨by rw [HALL.out (by rw [HLN.out]; exact HZ.out)]; rfl, rfl⟩
section
variable {P : Program} {ops : Array Oper} {rest : List Oper} {o : Oper} {a : Act} {w : World} {Q : Exit → Act → World → Prop}
/-- a call of a function that a slot holds. -/
theorem run_callv {a : Act} (f : Operand) (xs : Array Operand) (ts : Array TypeId) (g : Nat) (lb vs : Array Value) (ho : o.op = .call { callee := .value f, args := xs, argTypes := ts }) (hf : a.eval f = .func (.func g) #[] lb) (hx : xs.map a.eval = vs) (hen : ∀ args W, (callFunc g args).run P W = .ok (.enter g args) W) : (execOp a.eval o).run P w = .ok (.enter g (vs ++ lb)) w := by
  have e : (resolve a.eval { callee := .value f, args := xs, argTypes := ts } o.type).run P w = .ok { target := .fn (.func g) lb, args := vs } w := by
    simp only [resolve, hf, hx]
    simp [Deferred.ofValue, go_sem]
  unfold execOp
  simp only [ho]
  rw [Sem.run_bind, e, Result.andThen_ok]
  simp only [invoke]
  exact hen _ _
/-- in a plain region: a call of whatever function. -/
theorem wpl_call (f : Nat) (args : Array Value) (R : Value → World → Prop) (hw : Region.wanted o (yielded ops a.tmps) = true) (he : (execOp a.eval o).run P w = .ok (.enter f args) w) (hc : Calls P f args w fun e w' => ∃ v, e = .returned v ∧ R v w') (h : ∀ v w', R v w' → wpList P ops Q rest (a.put o.dst v) w') : wpList P ops Q (o :: rest) a w :=
  wpList_step fun K hK => by
    show if Region.wanted o (yielded ops a.tmps) = true then _ else _
    rw [if_pos hw]
    unfold Oper.wp
    rw [he, Oper.upon_enter]
    refine hc.mono ?_
    rintro e w' ⟨v, rfl, hR⟩
    exact hK _ _ (h v w' hR)
end
/-- a result that is an error code, which tells something where it is 0. -/
def ErrPost (w : World) (Q : Prop) (e : Ending) (w' : World) : Prop := ∃ r : Int, e = .returned (.int .i64 r) ∧ (r = 0 → Q) ∧ Below w.heap.size w w'
def ErrR (w : World) (Q : Prop) (v : Value) (w' : World) : Prop := ∃ r : Int, v = .int .i64 r ∧ (r = 0 → Q) ∧ Below w.heap.size w w'
theorem ErrPost.val {w : World} {Q : Prop} {e : Ending} {w' : World} (h : ErrPost w Q e w') : ∃ v, e = .returned v ∧ ErrR w Q v w' := by
  obtain ⟨r, h1, h2, h3⟩ := h
  exact ⟨_, h1, r, rfl, h2, h3⟩
set_option maxRecDepth 100000 in
set_option maxHeartbeats 4000000 in
theorem all_any (n : Nat) (g : Nat) (lb : Array Value) (Q : Nat → Prop) (w : World) (hn : n ≤ 1000000) (hen : ∀ args W, (callFunc g args).run Tryz.prog W = .ok (.enter g args) W)
    (hc : ∀ i W, i < n → Below w.heap.size w W → Calls Tryz.prog g (#[.int .i64 (i : Nat)] ++ lb) W (ErrPost W (Q i))) :
    Calls Tryz.prog 58 #[.int .i64 (n : Nat), .func (.func g) #[] lb] w (ErrPost w (∀ i, i < n → Q i)) := by
  have HC := Lib.hid hc
  have HEN := Lib.hid hen
  clear hen
  have HP := Lib.hid (show ∀ e w', (∃ r : Int, e = .returned (.int .i64 r) ∧ (r = 0 → ∀ i, i < n → Q i) ∧ Below w.heap.size w w') → ErrPost w (∀ i, i < n → Q i) e w' from fun _ _ h => h)
  clear hc
  go_enter Tryz.func58, Tryz.ntmps58
  go_wp2_with fail
  go_loopw [8] (fun vi wr => ∃ i : Nat, vi = .int .i64 i ∧ i ≤ n ∧ Below w.heap.size w wr ∧ ∀ t, t < i → Q t) (fun vi _ => n - (intOf vi).toNat)
  case atStart => exact ⟨0, rfl, Nat.zero_le _, Below.refl _ _, fun t ht => absurd ht (Nat.not_lt_zero _)⟩
  case round =>
    obtain ⟨i, rfl, hi, hb, hz⟩ := hrel
    have HZ := Lib.hid hz
    clear hz
    by_cases hlt : i < n
    · have c1 := HC.out i wr hlt hb
      go_upto_region 4 with fail
      refine wp_region_lit ?_
      refine wpl_val (.func (.func g) #[] lb) wr (by rfl) (by go_simp) ?_
      try simp only [Act.put, List.setIfInBounds_toArray, List.set_cons_zero, List.set_cons_succ]
      refine wpl_val (.int .i64 (i : Nat)) wr (by rfl) (by go_simp) ?_
      try simp only [Act.put, List.setIfInBounds_toArray, List.set_cons_zero, List.set_cons_succ]
      have c2 : Calls Tryz.prog g (#[.int .i64 (i : Nat)] ++ lb) wr fun e w' => ∃ v, e = .returned v ∧ ErrR wr (Q i) v w' := Calls.mono c1 (fun _ _ h => h.val)
      refine wpl_call g (#[.int .i64 (i : Nat)] ++ lb) (ErrR wr (Q i)) (by rfl) ?he ?hc ?rest
      case hc => with_reducible exact c2
      case he => exact run_callv (.tmp 11) #[.tmp 12] #[3] g lb #[.int .i64 (i : Nat)] rfl rfl (by simp only [List.map_toArray, List.map_cons, List.map_nil]; rfl) HEN.out
      clear c2
      rintro v w4 ⟨r, rfl, hq, hb4⟩
      try simp only [Act.put, List.setIfInBounds_toArray, List.set_cons_zero, List.set_cons_succ]
      have HQ := Lib.hid hq
      have hb5 := below_trans' hb hb.size hb4
      clear hq hb4 c1
      by_cases hr : r = 0
      · have HR := Lib.hid hr
        subst hr
        go_wp2_with fail
        go_roundw
        case rel => exact ⟨i + 1, by simp, by omega, hb5, fun t ht => by
          rcases (show t < i ∨ t = i by omega) with h | rfl
          · exact HZ.out t h
          · exact HQ.out rfl⟩
        case measure => rw [intOf, intOf]; omega
      · have hrb : (r != 0) = true := bne_iff_ne.2 hr
        have HR := Lib.hid hr
        clear hr
        go_wp2_with fail
        go_ret
        exact HP.out _ _ ⟨r, rfl, fun h => absurd h HR.out, hb5⟩
    · have : i = n := by omega
      subst this
      go_wp2_with fail
      go_ret
      exact HP.out _ _ ⟨0, rfl, fun _ => HZ.out, hb⟩
end Go.Proofs.YthbodpjkckminaaGreatDoor

namespace Go.Proofs.YthbodpjkckminaaGreatDoor
open Go.RowKit

set_option maxRecDepth 100000 in
set_option maxHeartbeats 4000000 in
theorem ckComments_any (A : Option Addr) (c : Nat) (w : World) : Calls Tryz.prog 34 #[.slice A 0 c] w (ErrPost w True) := by
  have N1 := Blk.new w 43 #[.slice A 0 c]
  have hb1 := alloc1 w (.cells #[.slice A 0 c] 43)
  have cA := Lib.hid (fun W q => all_any 0 62 #[.pointer (some ⟨q, 0, none⟩)] (fun _ => True) W (by omega) (enters_of Tryz.func62 (by kernel_rfl) rfl) (fun i W hi _ => absurd hi (Nat.not_lt_zero _)))
  have HP := Lib.hid (show ∀ e w', (∃ r : Int, e = .returned (.int .i64 r) ∧ (r = 0 → True) ∧ Below w.heap.size w w') → ErrPost w True e w' from fun _ _ h => h)
  obtain ⟨p1, hp1⟩ : ∃ p, p = w.heap.size := ⟨_, rfl⟩
  go_enter Tryz.func34, Tryz.ntmps34
  go_upto_region 1 with fail
  generalize w.alloc (.cells #[.slice A 0 c] 43) = w1 at *
  rw [← hp1] at N1 ⊢
  clear hp1
  have q0 := N1.cell 0 rfl
  refine wp_region_held_drew (S := fun w' => w'.cell? ⟨p1, 0, none⟩ = some (.slice A 0 c)) (by kernel_rfl) q0 (fun hHeld => ?_)
  have hbd := bDrew hb1
  generalize w1.drew = wd at *
  refine hx_take 0 (some 3) _ rfl (by kernel_rfl) (by kernel_rfl) (by kernel_rfl) (fun _ _ _ h => h) rfl (Or.inl ⟨by rfl, fun w hSw => by first | (go_simp; done) | (go_simp; with_reducible rfl) | (go_simp; rfl)⟩) (by assumption) ?_
  try simp only [Act.put, List.setIfInBounds_toArray, List.set_cons_zero, List.set_cons_succ]
  refine hx_take 4 (some 7) _ rfl (by kernel_rfl) (by kernel_rfl) (by kernel_rfl) (fun _ _ _ h => h) rfl (Or.inl ⟨by rfl, fun w hSw => by first | (go_simp; done) | (go_simp; with_reducible rfl) | (go_simp; rfl)⟩) (by assumption) ?_
  try simp only [Act.put, List.setIfInBounds_toArray, List.set_cons_zero, List.set_cons_succ]
  refine hx_take 7 (some 10) _ rfl (by kernel_rfl) (by kernel_rfl) (by kernel_rfl) (fun _ _ _ h => h) rfl (Or.inl ⟨by rfl, fun w hSw => by first | (go_simp; done) | (go_simp; with_reducible rfl) | (go_simp; rfl)⟩) (by assumption) ?_
  try simp only [Act.put, List.setIfInBounds_toArray, List.set_cons_zero, List.set_cons_succ]
  refine hx_take 1 (some 4) _ rfl (by kernel_rfl) (by kernel_rfl) (by kernel_rfl) (fun _ _ _ h => h) rfl (Or.inl ⟨by rfl, fun w hSw => by first | (go_simp; done) | (go_simp; with_reducible rfl) | (go_simp; rfl)⟩) (by assumption) ?_
  try simp only [Act.put, List.setIfInBounds_toArray, List.set_cons_zero, List.set_cons_succ]
  refine hx_take 5 (some 8) _ rfl (by kernel_rfl) (by kernel_rfl) (by kernel_rfl) (fun _ _ _ h => h) rfl (Or.inl ⟨by rfl, fun w hSw => by first | (go_simp; done) | (go_simp; with_reducible rfl) | (go_simp; rfl)⟩) (by assumption) ?_
  try simp only [Act.put, List.setIfInBounds_toArray, List.set_cons_zero, List.set_cons_succ]
  refine hx_take 2 (some 5) _ rfl (by kernel_rfl) (by kernel_rfl) (by kernel_rfl) (fun _ _ _ h => h) rfl (Or.inl ⟨by rfl, fun w hSw => by first | (go_simp; done) | (go_simp; with_reducible rfl) | (go_simp; rfl)⟩) (by assumption) ?_
  try simp only [Act.put, List.setIfInBounds_toArray, List.set_cons_zero, List.set_cons_succ]
  refine hx_take 6 (some 9) (.int .i64 ((0 : Nat) : Int)) rfl (by kernel_rfl) (by kernel_rfl) (by kernel_rfl) (fun _ _ _ h => h) rfl (Or.inl ⟨by rfl, fun w hSw => by first | (go_simp; done) | (go_simp; with_reducible rfl) | (go_simp; rfl)⟩) (by assumption) ?_
  try simp only [Act.put, List.setIfInBounds_toArray, List.set_cons_zero, List.set_cons_succ]
  refine hx1 3 (by kernel_rfl) ?_
  refine hx_call 3 (some 6) _ _ (.int .i64 0) (fun w' => wd = w') rfl (by rfl) rfl (by first | (go_simp; done) | (go_simp; rfl)) ((when_any false 9 wd).mono fun _ _ h => ⟨h.1, h.2.symm⟩) ?_
  rintro _ rfl
  refine ⟨hHeld, ?_⟩
  try simp only [Act.put, List.setIfInBounds_toArray, List.set_cons_zero, List.set_cons_succ]
  refine hx1 8 (by kernel_rfl) ?_
  refine hx_callE 8 (some 11) _ _ (ErrR wd (∀ i, i < 0 → True)) rfl (by rfl) rfl (by first | (go_simp; done) | (go_simp; rfl)) ((cA.out wd p1).mono fun _ _ h => h.val) ?_
  rintro v w2 ⟨r, rfl, _, hb2⟩
  have h2 := keepC hb2 hHeld
  refine ⟨h2, ?_⟩
  try simp only [Act.put, List.setIfInBounds_toArray, List.set_cons_zero, List.set_cons_succ]
  have hb3 := alloc1 w2 (.cells #[.int .i64 0, .int .i64 r] 31)
  have h3 := keepC hb3 h2
  have B3 := Blk.slq (xs := [0, r]) (enc := intC) (n := 2) (Blk.new w2 31 #[.int .i64 0, .int .i64 r]) intC_len rfl
  refine hx1 9 (by kernel_rfl) ?_
  refine hx_val 9 (some 12) (.slice (some ⟨w2.heap.size, 0, none⟩) 2 2) (w2.alloc (.cells #[.int .i64 0, .int .i64 r] 31)) rfl (by rfl) rfl (by first | (go_simp; done) | (go_simp; rfl)) h3 ?_
  try simp only [Act.put, List.setIfInBounds_toArray, List.set_cons_zero, List.set_cons_succ]
  refine hx1 10 (by kernel_rfl) ?_
  refine hx_call 10 (some 13) _ _ (.int .i64 (firstNZ [0, r])) (fun w' => w2.alloc (.cells #[.int .i64 0, .int .i64 r] 31) = w') rfl (by rfl) rfl (by first | (go_simp; done) | (go_simp; rfl)) ((dfirst_any _ 2 2 [0, r] _ B3 (by omega)).mono fun _ _ h => ⟨h.1, h.2.symm⟩) ?_
  rintro _ rfl
  refine ⟨h3, ?_⟩
  try simp only [Act.put, List.setIfInBounds_toArray, List.set_cons_zero, List.set_cons_succ]
  refine hx_take 11 (some 2) _ rfl (by kernel_rfl) (by kernel_rfl) (by kernel_rfl) (fun _ _ _ h => h) rfl (Or.inl ⟨by rfl, fun w hSw => by first | (go_simp; done) | (go_simp; with_reducible rfl) | (go_simp; rfl)⟩) (by assumption) ?_
  try simp only [Act.put, List.setIfInBounds_toArray, List.set_cons_zero, List.set_cons_succ]
  refine wpAnyH_done (by kernel_rfl) ?_ _
  have HB := Lib.hid (below_trans' (below_trans' hbd hbd.size hb2) (below_trans' hbd hbd.size hb2).size hb3)
  clear hb2 hb3 h2 h3 B3
  go_wp2_with fail
  go_ret
  exact HP.out _ _ ⟨_, rfl, fun _ => trivial, HB.out⟩
set_option maxRecDepth 100000 in
set_option maxHeartbeats 4000000 in
theorem ckVars_any (A : Option Addr) (c : Nat) (w : World) : Calls Tryz.prog 35 #[.slice A 0 c] w (ErrPost w True) := by
  have N1 := Blk.new w 44 #[.slice A 0 c]
  have hb1 := alloc1 w (.cells #[.slice A 0 c] 44)
  have cA := Lib.hid (fun W q => all_any 0 69 #[.pointer (some ⟨q, 0, none⟩)] (fun _ => True) W (by omega) (enters_of Tryz.func69 (by kernel_rfl) rfl) (fun i W hi _ => absurd hi (Nat.not_lt_zero _)))
  have HP := Lib.hid (show ∀ e w', (∃ r : Int, e = .returned (.int .i64 r) ∧ (r = 0 → True) ∧ Below w.heap.size w w') → ErrPost w True e w' from fun _ _ h => h)
  obtain ⟨p1, hp1⟩ : ∃ p, p = w.heap.size := ⟨_, rfl⟩
  go_enter Tryz.func35, Tryz.ntmps35
  go_upto_region 1 with fail
  generalize w.alloc (.cells #[.slice A 0 c] 44) = w1 at *
  rw [← hp1] at N1 ⊢
  clear hp1
  have q0 := N1.cell 0 rfl
  refine wp_region_held_drew (S := fun w' => w'.cell? ⟨p1, 0, none⟩ = some (.slice A 0 c)) (by kernel_rfl) q0 (fun hHeld => ?_)
  have hbd := bDrew hb1
  generalize w1.drew = wd at *
  refine hx_take 0 (some 3) _ rfl (by kernel_rfl) (by kernel_rfl) (by kernel_rfl) (fun _ _ _ h => h) rfl (Or.inl ⟨by rfl, fun w hSw => by first | (go_simp; done) | (go_simp; with_reducible rfl) | (go_simp; rfl)⟩) (by assumption) ?_
  try simp only [Act.put, List.setIfInBounds_toArray, List.set_cons_zero, List.set_cons_succ]
  refine hx_take 4 (some 7) _ rfl (by kernel_rfl) (by kernel_rfl) (by kernel_rfl) (fun _ _ _ h => h) rfl (Or.inl ⟨by rfl, fun w hSw => by first | (go_simp; done) | (go_simp; with_reducible rfl) | (go_simp; rfl)⟩) (by assumption) ?_
  try simp only [Act.put, List.setIfInBounds_toArray, List.set_cons_zero, List.set_cons_succ]
  refine hx_take 7 (some 10) _ rfl (by kernel_rfl) (by kernel_rfl) (by kernel_rfl) (fun _ _ _ h => h) rfl (Or.inl ⟨by rfl, fun w hSw => by first | (go_simp; done) | (go_simp; with_reducible rfl) | (go_simp; rfl)⟩) (by assumption) ?_
  try simp only [Act.put, List.setIfInBounds_toArray, List.set_cons_zero, List.set_cons_succ]
  refine hx_take 1 (some 4) _ rfl (by kernel_rfl) (by kernel_rfl) (by kernel_rfl) (fun _ _ _ h => h) rfl (Or.inl ⟨by rfl, fun w hSw => by first | (go_simp; done) | (go_simp; with_reducible rfl) | (go_simp; rfl)⟩) (by assumption) ?_
  try simp only [Act.put, List.setIfInBounds_toArray, List.set_cons_zero, List.set_cons_succ]
  refine hx_take 5 (some 8) _ rfl (by kernel_rfl) (by kernel_rfl) (by kernel_rfl) (fun _ _ _ h => h) rfl (Or.inl ⟨by rfl, fun w hSw => by first | (go_simp; done) | (go_simp; with_reducible rfl) | (go_simp; rfl)⟩) (by assumption) ?_
  try simp only [Act.put, List.setIfInBounds_toArray, List.set_cons_zero, List.set_cons_succ]
  refine hx_take 2 (some 5) _ rfl (by kernel_rfl) (by kernel_rfl) (by kernel_rfl) (fun _ _ _ h => h) rfl (Or.inl ⟨by rfl, fun w hSw => by first | (go_simp; done) | (go_simp; with_reducible rfl) | (go_simp; rfl)⟩) (by assumption) ?_
  try simp only [Act.put, List.setIfInBounds_toArray, List.set_cons_zero, List.set_cons_succ]
  refine hx_take 6 (some 9) (.int .i64 ((0 : Nat) : Int)) rfl (by kernel_rfl) (by kernel_rfl) (by kernel_rfl) (fun _ _ _ h => h) rfl (Or.inl ⟨by rfl, fun w hSw => by first | (go_simp; done) | (go_simp; with_reducible rfl) | (go_simp; rfl)⟩) (by assumption) ?_
  try simp only [Act.put, List.setIfInBounds_toArray, List.set_cons_zero, List.set_cons_succ]
  refine hx1 3 (by kernel_rfl) ?_
  refine hx_call 3 (some 6) _ _ (.int .i64 0) (fun w' => wd = w') rfl (by rfl) rfl (by first | (go_simp; done) | (go_simp; rfl)) ((when_any false 9 wd).mono fun _ _ h => ⟨h.1, h.2.symm⟩) ?_
  rintro _ rfl
  refine ⟨hHeld, ?_⟩
  try simp only [Act.put, List.setIfInBounds_toArray, List.set_cons_zero, List.set_cons_succ]
  refine hx1 8 (by kernel_rfl) ?_
  refine hx_callE 8 (some 11) _ _ (ErrR wd (∀ i, i < 0 → True)) rfl (by rfl) rfl (by first | (go_simp; done) | (go_simp; rfl)) ((cA.out wd p1).mono fun _ _ h => h.val) ?_
  rintro v w2 ⟨r, rfl, _, hb2⟩
  have h2 := keepC hb2 hHeld
  refine ⟨h2, ?_⟩
  try simp only [Act.put, List.setIfInBounds_toArray, List.set_cons_zero, List.set_cons_succ]
  have hb3 := alloc1 w2 (.cells #[.int .i64 0, .int .i64 r] 31)
  have h3 := keepC hb3 h2
  have B3 := Blk.slq (xs := [0, r]) (enc := intC) (n := 2) (Blk.new w2 31 #[.int .i64 0, .int .i64 r]) intC_len rfl
  refine hx1 9 (by kernel_rfl) ?_
  refine hx_val 9 (some 12) (.slice (some ⟨w2.heap.size, 0, none⟩) 2 2) (w2.alloc (.cells #[.int .i64 0, .int .i64 r] 31)) rfl (by rfl) rfl (by first | (go_simp; done) | (go_simp; rfl)) h3 ?_
  try simp only [Act.put, List.setIfInBounds_toArray, List.set_cons_zero, List.set_cons_succ]
  refine hx1 10 (by kernel_rfl) ?_
  refine hx_call 10 (some 13) _ _ (.int .i64 (firstNZ [0, r])) (fun w' => w2.alloc (.cells #[.int .i64 0, .int .i64 r] 31) = w') rfl (by rfl) rfl (by first | (go_simp; done) | (go_simp; rfl)) ((dfirst_any _ 2 2 [0, r] _ B3 (by omega)).mono fun _ _ h => ⟨h.1, h.2.symm⟩) ?_
  rintro _ rfl
  refine ⟨h3, ?_⟩
  try simp only [Act.put, List.setIfInBounds_toArray, List.set_cons_zero, List.set_cons_succ]
  refine hx_take 11 (some 2) _ rfl (by kernel_rfl) (by kernel_rfl) (by kernel_rfl) (fun _ _ _ h => h) rfl (Or.inl ⟨by rfl, fun w hSw => by first | (go_simp; done) | (go_simp; with_reducible rfl) | (go_simp; rfl)⟩) (by assumption) ?_
  try simp only [Act.put, List.setIfInBounds_toArray, List.set_cons_zero, List.set_cons_succ]
  refine wpAnyH_done (by kernel_rfl) ?_ _
  have HB := Lib.hid (below_trans' (below_trans' hbd hbd.size hb2) (below_trans' hbd hbd.size hb2).size hb3)
  clear hb2 hb3 h2 h3 B3
  go_wp2_with fail
  go_ret
  exact HP.out _ _ ⟨_, rfl, fun _ => trivial, HB.out⟩
end Go.Proofs.YthbodpjkckminaaGreatDoor

namespace Go.Proofs.YthbodpjkckminaaGreatDoor
open Go.RowKit

set_option maxRecDepth 100000 in
set_option maxHeartbeats 8000000 in
theorem stCheckE_any (A : Option Addr) (c : Nat) (w : World) :
    Calls Tryz.prog 32 #[.slice A 0 c] w fun e w' => e = .returned (.int .i64 0) ∧ Below w.heap.size w w' := by
  have N1 := (Blk.new w 41 #[.slice A 0 c]).alloc (.cells #[.int .i64 0] 31)
  have N2 := Blk.new (w.alloc (.cells #[.slice A 0 c] 41)) 31 #[.int .i64 0]
  have hb := ((Below.refl w.heap.size w).alloc (Nat.le_refl _) (.cells #[.slice A 0 c] 41)).alloc (by simp) (.cells #[.int .i64 0] 31)
  have N2' : Blk ((w.alloc (.cells #[.slice A 0 c] 41)).alloc (.cells #[.int .i64 0] 31)) (w.heap.size + 1) 31 #[.int .i64 0] := by simpa using N2
  clear N2
  go_enter Tryz.func32, Tryz.ntmps32
  go_upto_region 1 with fail
  generalize (w.alloc (.cells #[.slice A 0 c] 41)).alloc (.cells #[.int .i64 0] 31) = W1 at *
  have q1 := N1.cell 0 rfl
  have q2 := N2'.cell 0 rfl
  have f2 := N2'.frozen 0
  have hb2 := hb.setCell (p := ⟨w.heap.size + 1, 0, none⟩) (show w.heap.size ≤ w.heap.size + 1 by omega) (.int .i64 0)
  have hq := (N2'.set_ 0 (.int .i64 0)).cell 0 rfl
  have HB := Lib.hid (And.intro hb2 hq)
  clear hb hb2 hq N1 N2'
  generalize w.heap.size + 1 = p2 at *
  go_wp2_with fail
  go_loopw [15] (fun vi wr => vi = .int .i64 0 ∧ wr = W1) (fun _ _ => 0)
  case atStart => exact ⟨rfl, rfl⟩
  case round =>
    obtain ⟨rfl, rfl⟩ := hrel
    go_wp2_with fail
    go_loopw [27] (fun vi wr' => vi = .int .i64 0 ∧ wr' = wr) (fun _ _ => 0)
    case atStart => exact ⟨rfl, rfl⟩
    case round =>
      obtain ⟨rfl, rfl⟩ := hrel
      go_wp2_with fail
      go_loopw [63] (fun vi wr'' => vi = .int .i64 0 ∧ wr'' = wr) (fun _ _ => 0)
      case atStart => exact ⟨rfl, rfl⟩
      case round =>
        obtain ⟨rfl, rfl⟩ := hrel
        go_wp2_with fail
        refine bodyPost_ret (results_c31 _ _ p2 _ rfl HB.out.2) rfl ?_
        exact ⟨rfl, HB.out.1⟩
theorem ckl11_any (A : Option Addr) (n c : Nat) (es : List LsE) (q k : Nat) (w : World) (ha : Sl w 2 lsC A n es) (hq : Blk w q 42 #[.slice A n c]) (hk : k < n) :
    Calls Tryz.prog 61 #[.int .i64 (k : Nat), .pointer (some ⟨q, 0, none⟩)] w fun e w' => e = .returned (.int .i64 (gE es k).id) ∧ w' = w := by
  obtain ⟨ad, e, hl2, k0, _⟩ := ha.ls hk
  subst e
  have q0 := hq.cell 0 rfl
  have hk' : (k : Int) < n := by omega
  go_enter Tryz.func61, Tryz.ntmps61
  go_wp2_with fail
  go_ret
  exact ⟨rfl, rfl⟩
def SomeInt (w : World) (e : Ending) (w' : World) : Prop := ∃ r : Int, e = .returned (.int .i64 r) ∧ w = w'
set_option maxRecDepth 100000 in
set_option maxHeartbeats 4000000 in
theorem incrLs_any (A : Option Addr) (n c : Nat) (es : List LsE) (q i : Nat) (w : World) (ha : Sl w 2 lsC A n es) (hq : Blk w q 42 #[.slice A n c]) (hi : i < n) (hn : n ≤ 1000000) :
    Calls Tryz.prog 60 #[.int .i64 (i : Nat), .func (.func 61) #[] #[.pointer (some ⟨q, 0, none⟩)]] w (SomeInt w) := by
  have c0 := ckl11_any A n c es q i w ha hq hi
  have HP := Lib.hid (show ∀ e, (∃ r : Int, e = .returned (.int .i64 r)) → SomeInt w e w from fun e ⟨r, h⟩ => ⟨r, h, rfl⟩)
  have cI := in_any (gE es i).id 1 1073741824 w
  by_cases h0 : 0 < i
  · obtain ⟨j, rfl⟩ : ∃ j, i = j + 1 := ⟨i - 1, by omega⟩
    have c1 := ckl11_any A n c es q j w ha hq (by omega)
    have hw1 : IntKind.i64.wrap (((j + 1 : Nat) : Int) - 1) = (j : Int) := by rw [show ((j + 1 : Nat) : Int) - 1 = j by omega]; exact IntWalk.i64_in _ (by omega)
    have h0' : (0 : Int) < ((j + 1 : Nat) : Int) := by omega
    generalize (gE es (j + 1)).id = x at *
    generalize (gE es j).id = y at *
    generalize (decide (1 ≤ x) && decide (x ≤ 1073741824)) = bi at *
    generalize ((j + 1 : Nat) : Int) = ii at *
    cases bi
    · go_enter Tryz.func60, Tryz.ntmps60
      go_wp2_with (first | (go_at_call 61; refine c0.mono ?_; rintro e w2 ⟨rfl, rfl⟩) | (go_at_call 67; refine cI.mono ?_; rintro e w2 ⟨rfl, rfl⟩))
      go_ret
      exact HP.out _ ⟨_, rfl⟩
    · by_cases hxy : x = y
      · subst hxy
        go_enter Tryz.func60, Tryz.ntmps60
        go_wp2_with (first | (go_at_call 61; ((with_reducible refine c0.mono ?_); rintro e w2 ⟨rfl, rfl⟩)) | (go_at_call 61; ((with_reducible refine c1.mono ?_); rintro e w2 ⟨rfl, rfl⟩)) | (go_at_call 67; refine cI.mono ?_; rintro e w2 ⟨rfl, rfl⟩))
        go_ret
        exact HP.out _ ⟨_, rfl⟩
      · have hb : (x == y) = false := beq_eq_false_iff_ne.2 hxy
        by_cases hlt : x < y
        all_goals
          go_enter Tryz.func60, Tryz.ntmps60
          go_wp2_with (first | (go_at_call 61; ((with_reducible refine c0.mono ?_); rintro e w2 ⟨rfl, rfl⟩)) | (go_at_call 61; ((with_reducible refine c1.mono ?_); rintro e w2 ⟨rfl, rfl⟩)) | (go_at_call 67; refine cI.mono ?_; rintro e w2 ⟨rfl, rfl⟩))
          go_ret
          exact HP.out _ ⟨_, rfl⟩
  · obtain rfl : i = 0 := by omega
    generalize (gE es 0).id = x at *
    generalize (decide (1 ≤ x) && decide (x ≤ 1073741824)) = bi at *
    cases bi
    all_goals
      go_enter Tryz.func60, Tryz.ntmps60
      go_wp2_with (first | (go_at_call 61; refine c0.mono ?_; rintro e w2 ⟨rfl, rfl⟩) | (go_at_call 67; refine cI.mono ?_; rintro e w2 ⟨rfl, rfl⟩))
      go_ret
      exact HP.out _ ⟨_, rfl⟩
end Go.Proofs.YthbodpjkckminaaGreatDoor
