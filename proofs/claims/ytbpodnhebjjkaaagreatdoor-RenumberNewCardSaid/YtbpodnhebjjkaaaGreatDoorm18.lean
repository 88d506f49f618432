/- What the row's condition gives: the two tables that are read. Lists, levels and marks, opened. Lists, levels, marks: opened. -/
import Derived.Test.YtbpodnhebjjkaaaGreatDoorm17
import Derived.Test.YtbpodnhebjjkaaaGreatDoorm2
import Derived.Test.YtbpodnhebjjkaaaGreatDoorm9
import Derived.Lib.LaidTab
import Derived.LaidMore
import Derived.MakeChecks
import Derived.Test.YtbpodnhebjjkaaaGreatDoorm6
namespace Go.Proofs.YtbpodnhebjjkaaaGreatDoor
open Go.ChangeShapes Go.WideShapes Go.ChangeAt Go.RowKit Go.Deep

theorem bytes_ext {a b : ByteArray} (h : a.data.toList = b.data.toList) : a = b := by
  cases a; cases b
  simp at h
  rw [h]
theorem flat_of {α : Type} {s : Nat} {enc : α → List Value} (henc : ∀ x : α, (enc x).length = s) (hs : 0 < s) {cs : List Value} {xs : List α} (hl : cs.length = xs.length * s) (h : ∀ i x, xs[i]? = some x → (cs.drop (i * s)).take s = enc x) : cs = xs.flatMap enc := by
  apply List.ext_getElem?
  intro j
  by_cases hj : j < xs.length * s
  · have h1 : j / s < xs.length := Nat.div_lt_of_lt_mul (by rw [Nat.mul_comm]; exact hj)
    have h2 : j % s < s := Nat.mod_lt _ hs
    have hx : xs[j / s]? = some xs[j / s] := List.getElem?_eq_getElem h1
    have h3 : j % s < (enc xs[j / s]).length := by rw [henc]; exact h2
    have f := getElem?_flat henc xs (j / s) _ hx (j % s) _ (List.getElem?_eq_getElem h3)
    rw [Nat.div_add_mod' j s] at f
    rw [f, ← List.getElem?_eq_getElem h3, ← h _ _ hx, List.getElem?_take, if_pos h2, List.getElem?_drop, Nat.div_add_mod' j s]
  · rw [List.getElem?_eq_none (by omega), List.getElem?_eq_none (by rw [flat_len henc]; omega)]
section
variable {H : Type} {enc : TypeId × Value → H}
set_option maxRecDepth 100000 in
theorem sign_at {W : World} {fuel : Nat} {cs : List Value} {x : DataW H × List MemPlace} {sp : Nat → Bool} {held : Bool} {b : Nat} (h : DataW.trod enc Tryz.prog W b sp held fuel 178 cs = some x) : ∃ (n : Int) (s : ByteArray), cs = [.int .i64 n, .string s] ∧ x.1 = .agg [.lit (.int .i64 n), .lit (.string s.data.toList)] := by
  obtain ⟨xs, n, _, e, hcl, hxl, hf⟩ := DataW.trod_struct Tryz.underlying178 h
  have hc2 : cs.length = 2 := hcl
  have f0 := hf 0 _ rfl
  have f1 := hf 1 _ rfl
  match cs, hc2 with
  | [a, c], _ =>
    match xs, hxl with
    | [y0, y1], _ =>
      obtain ⟨n0, e0, x0, _⟩ := DataW.trod_int Tryz.underlying3 (show DataW.trod enc Tryz.prog W b sp held n 3 [a] = some y0 from f0)
      obtain ⟨s1, e1, x1, _⟩ := DataW.trod_string Tryz.underlying9 (show DataW.trod enc Tryz.prog W b sp held n 9 [c] = some y1 from f1)
      simp only [List.cons.injEq, and_true] at e0 e1
      subst e0; subst e1
      refine ⟨n0, s1, rfl, ?_⟩
      rw [e, x0, x1]
      rfl
end
def signD {H : Type} (p : Int × ByteArray) : DataW H := .agg [.lit (.int .i64 p.1), .lit (.string p.2.data.toList)]
set_option maxRecDepth 100000 in
theorem signs_of {W : World} {fuel : Nat} {cs : List Value} {p : List MemPlace} {sp : Nat → Bool} {held : Bool} {b : Nat} (h : DataW.trod (fun _ => ()) Tryz.prog W b sp held fuel 179 cs = some (.agg (signsP.map signD), p)) : cs = signsC := by
  obtain ⟨xs, m, _, e, hcl, hxl, hel⟩ := DataW.trod_array Tryz.underlying179 h
  have ce : Tryz.prog.cellsOf 178 = 2 := by kernel_rfl
  have ct : Tryz.prog.cellsOf 179 = 26 := by kernel_rfl
  rw [ct] at hcl
  have hm : xs.map (·.1) = signsP.map signD := by
    have := congrArg Prod.fst e
    simpa using this.symm
  have hsl : signsP.length = 13 := rfl
  refine flat_of (enc := fun p : Int × ByteArray => [Value.int .i64 p.1, Value.string p.2]) (s := 2) (fun _ => rfl) (by omega) (by rw [hcl, hsl]) (fun i x hx => ?_)
  have hi : i < 13 := by rw [← hsl]; exact (List.getElem?_eq_some_iff.1 hx).1
  have hE := hel i hi
  rw [ce, List.getElem?_eq_getElem (by omega : i < xs.length)] at hE
  obtain ⟨n, s, e1, e2⟩ := sign_at hE
  have e3 : (xs.map (·.1))[i]? = (signsP.map (signD (H := Unit)))[i]? := by rw [hm]
  rw [List.getElem?_map, List.getElem?_map, List.getElem?_eq_getElem (by omega : i < xs.length), hx] at e3
  simp only [Option.map_some, Option.some.injEq] at e3
  rw [e2] at e3
  unfold signD at e3
  simp only [DataW.agg.injEq, List.cons.injEq, DataW.lit.injEq, Lit.int.injEq, Lit.string.injEq, and_true, true_and] at e3
  obtain ⟨e4, e5⟩ := e3
  rw [e1, e4, bytes_ext e5]
set_option maxRecDepth 100000 in
theorem laid_gl {W : World} (h : laidMetH Tryz.prog Rows.renumberNewRow.laid W) : Gl W := by
  rw [MakeChecks.laidMetH_plain _ _ _ (by kernel_rfl)] at h
  obtain ⟨ps, ⟨_, _, _, _, _, _, _, _, _, _, ⟨_, _, _, _, _, _, _, _, _, _, ⟨g2, t2, cs2, f2, p2, q2, hg2, ht2, hv2, hd2, ⟨_, _, _, _, _, _, _, _, _, _, ⟨g4, t4, cs4, f4, p4, q4, hg4, ht4, hv4, hd4, _, _⟩, _⟩, _⟩, _⟩, _⟩, _, _⟩ := h
  obtain rfl := Option.some.inj ((show Tryz.prog.globalNamed "internal/strconv.uint64pow10" = some 2 by kernel_rfl).symm.trans hg2)
  obtain rfl := Option.some.inj ((show Tryz.prog.globalNamed "obelus/numeral.signs" = some 0 by kernel_rfl).symm.trans hg4)
  obtain rfl := Option.some.inj ((show (Tryz.prog.globals[2]?).map (·.type) = some 207 by kernel_rfl).symm.trans ht2)
  obtain rfl := Option.some.inj ((show (Tryz.prog.globals[0]?).map (·.type) = some 179 by kernel_rfl).symm.trans ht4)
  refine ⟨?_, fun j v hv => ?_⟩
  · have e : cs2.toList = Lib.pow10Tab.map fun z => Value.int .u64 z := Lib.cells_of_tab Tryz.underlying207 Tryz.underlying190 (by kernel_rfl) (by kernel_rfl) hd2
    unfold Lib.TabIs
    rw [hv2, ← e]
  · have e : cs4.toList = signsC := signs_of hd4
    have := World.var?_cell hg4 hv4 j
    rw [Nat.zero_add, this, ← Array.getElem?_toList, e, hv]
end Go.Proofs.YtbpodnhebjjkaaaGreatDoor

namespace Go.Proofs.YtbpodnhebjjkaaaGreatDoor
open Go.ChangeShapes Go.WideShapes Go.ChangeAt Go.RowKit Go.Deep

section
variable {H : Type} {enc : TypeId × Value → H} {P : Program}
/-- a slice among the cells of something greater. -/
theorem opens_slc {α : Type} {w : World} {t e : TypeId} {s : Nat} {ev : α → List Value} {ok : α → Prop} (ht : P.underlying t = some (.slice e)) (hC : P.cellsOf e = s) (hs0 : 0 < s) (ho : Opens enc P w e ev ok) :
    Opens enc P w t (fun q : Option Addr × Nat × Nat => [Value.slice q.1 q.2.1 q.2.2]) (fun q => q.2.1 ≤ q.2.2 ∧ q.2.2 ≤ maxLen ∧ ∃ xs, Sl w s ev q.1 q.2.1 xs ∧ ∀ x ∈ xs, ok x) := fun fuel cs x hf => by
  obtain ⟨d, p⟩ := x
  rcases open_slice ht hf with ⟨h0, _⟩ | ⟨a, n, c, m, k, D, Pl, hcs, _, hl, hm, hmm, _, hi⟩
  · exact ⟨(none, 0, 0), h0, Nat.le_refl _, Nat.zero_le _, [], Sl.nil, by simp⟩
  · simp only [if_true] at hmm
    have hc1 : ∀ i, i < n → ∃ y, (ok y ∧ ∀ j u, (ev y)[j]? = some u → w.cell? (a.add (i * s + j)) = some u ∧ a.block < w.heap.size) := fun i hin => by
      obtain ⟨cs', hc, ht'⟩ := hi i (by omega)
      obtain ⟨y, hy, hok⟩ := ho _ _ _ ht'
      rw [hC] at hc
      obtain ⟨_, hcl, hat⟩ := World.cells?_some hc
      refine ⟨y, hok, fun j u hu => ?_⟩
      rw [← hy] at hu
      have hj : j < s := by have := (List.getElem?_eq_some_iff.1 hu).1; omega
      have hcell := hat j hj
      rw [hu] at hcell
      have e : w.cell? (a.add (i * s + j)) = some u := by rw [← hcell, Go.Deep.add_add]
      exact ⟨e, by have := World.block_lt_of_cell? w _ e; rw [block_add] at this; exact this⟩
    refine ⟨(some a, n, c), hcs, hl, hm, ?_⟩
    by_cases hn : n = 0
    · subst hn
      exact ⟨[], ⟨rfl, fun h => absurd h (Nat.lt_irrefl 0)⟩, by simp⟩
    · have hne : Nonempty α := ⟨(hc1 0 (by omega)).choose⟩
      have hc2 : ∀ i, ∃ y, i < n → (ok y ∧ ∀ j u, (ev y)[j]? = some u → w.cell? (a.add (i * s + j)) = some u ∧ a.block < w.heap.size) := fun i => by
        by_cases hin : i < n
        · obtain ⟨y, hy⟩ := hc1 i hin
          exact ⟨y, fun _ => hy⟩
        · exact ⟨Classical.choice hne, fun h => absurd h hin⟩
      obtain ⟨f, hf'⟩ := Classical.axiomOfChoice hc2
      have hz : a.block < w.heap.size := by
        obtain ⟨cs', hc, ht'⟩ := hi 0 (by omega)
        obtain ⟨_, hcl, hat⟩ := World.cells?_some hc
        have hp : 0 < P.cellsOf e := by omega
        have hcell := hat 0 hp
        have hlen : cs'[0]? = some (cs'[0]'(by omega)) := List.getElem?_eq_getElem _
        rw [hlen] at hcell
        have := World.block_lt_of_cell? w _ hcell
        rw [block_add, block_add] at this
        exact this
      refine ⟨(List.range n).map f, ⟨by simp, fun _ => ⟨a, rfl, hz, fun i x hx j u hu => ?_⟩⟩, ?_⟩
      · have hin : i < n := by have := (List.getElem?_eq_some_iff.1 hx).1; simpa using this
        rw [List.getElem?_map, List.getElem?_range hin] at hx
        injection hx with hx
        subst hx
        exact ((hf' i hin).2 j u hu).1
      · intro x hx
        obtain ⟨i, hi, rfl⟩ := List.mem_map.1 hx
        exact (hf' i (List.mem_range.1 hi)).1
end
section
variable {H : Type} {enc : TypeId × Value → H}
set_option maxRecDepth 100000 in
theorem opens_lv (w : World) : Opens enc Tryz.prog w 74 lvC (fun _ => True) := fun fuel cs x h => by
  obtain ⟨xs, n, _, _, hcl, hxl, hf⟩ := DataW.trod_struct Tryz.underlying74 h
  have hc2 : cs.length = 4 := hcl
  have f0 := hf 0 _ rfl
  have f1 := hf 1 _ rfl
  have f2 := hf 2 _ rfl
  have f3 := hf 3 _ rfl
  match cs, hc2 with
  | [a, b, c, d], _ =>
    match xs, hxl with
    | [y0, y1, y2, y3], _ =>
      obtain ⟨n0, e0, _, _⟩ := DataW.trod_int Tryz.underlying3 (show DataW.trod enc Tryz.prog w 0 (fun _ => true) true n 3 [a] = some y0 from f0)
      obtain ⟨n1, e1, _, _⟩ := DataW.trod_int Tryz.underlying3 (show DataW.trod enc Tryz.prog w 0 (fun _ => true) true n 3 [b] = some y1 from f1)
      obtain ⟨s2, e2, _, _⟩ := DataW.trod_string Tryz.underlying9 (show DataW.trod enc Tryz.prog w 0 (fun _ => true) true n 9 [c] = some y2 from f2)
      obtain ⟨n3, e3, _, _⟩ := DataW.trod_int Tryz.underlying3 (show DataW.trod enc Tryz.prog w 0 (fun _ => true) true n 3 [d] = some y3 from f3)
      simp only [List.cons.injEq, and_true] at e0 e1 e2 e3
      subst e0; subst e1; subst e2; subst e3
      exact ⟨⟨n0, n1, s2, n3⟩, rfl, trivial⟩
set_option maxRecDepth 100000 in
theorem opens_mk (w : World) : Opens enc Tryz.prog w 81 mkC (fun _ => True) := fun fuel cs x h => by
  obtain ⟨xs, n, _, _, hcl, hxl, hf⟩ := DataW.trod_struct Tryz.underlying81 h
  have hc2 : cs.length = 3 := hcl
  have f0 := hf 0 _ rfl
  have f1 := hf 1 _ rfl
  have f2 := hf 2 _ rfl
  match cs, hc2 with
  | [a, b, c], _ =>
    match xs, hxl with
    | [y0, y1, y2], _ =>
      obtain ⟨n0, e0, _, _⟩ := DataW.trod_int Tryz.underlying3 (show DataW.trod enc Tryz.prog w 0 (fun _ => true) true n 3 [a] = some y0 from f0)
      obtain ⟨n1, e1, _, _⟩ := DataW.trod_int Tryz.underlying3 (show DataW.trod enc Tryz.prog w 0 (fun _ => true) true n 3 [b] = some y1 from f1)
      obtain ⟨n2, e2, _, _⟩ := DataW.trod_int Tryz.underlying3 (show DataW.trod enc Tryz.prog w 0 (fun _ => true) true n 3 [c] = some y2 from f2)
      simp only [List.cons.injEq, and_true] at e0 e1 e2
      subst e0; subst e1; subst e2
      exact ⟨⟨n0, n1, n2⟩, rfl, trivial⟩
/-- what a list holds: its levels lie in memory. -/
def LsOk (w : World) (e : LsE) : Prop := e.n ≤ e.c ∧ ∃ ls, Sl w 4 lvC e.A e.n ls
set_option maxRecDepth 100000 in
theorem opens_ls (w : World) : Opens enc Tryz.prog w 27 lsC (LsOk w) := fun fuel cs x h => by
  obtain ⟨xs, n, _, _, hcl, hxl, hf⟩ := DataW.trod_struct Tryz.underlying27 h
  have hc2 : cs.length = 2 := hcl
  have f0 := hf 0 _ rfl
  have f1 := hf 1 _ rfl
  match cs, hc2 with
  | [a, b], _ =>
    match xs, hxl with
    | [y0, y1], _ =>
      obtain ⟨n0, e0, _, _⟩ := DataW.trod_int Tryz.underlying3 (show DataW.trod enc Tryz.prog w 0 (fun _ => true) true n 3 [a] = some y0 from f0)
      obtain ⟨q, e1, h1, _, ls, h2, _⟩ := opens_slc Tryz.underlying25 (s := 4) (by kernel_rfl) (by omega) (opens_lv w) n [b] y1 (show DataW.trod enc Tryz.prog w 0 (fun _ => true) true n 25 [b] = some y1 from f1)
      simp only [List.cons.injEq, and_true] at e0 e1
      subst e0; subst e1
      exact ⟨⟨n0, q.1, q.2.1, q.2.2⟩, rfl, h1, ls, h2⟩
end
/-- the levels of lists that lie in memory. -/
theorem lst_of {w : World} {A : Option Addr} {n : Nat} {es : List LsE} (h : Sl w 2 lsC A n es) (hok : ∀ e ∈ es, LsOk w e) : ∃ vs, LsT w A n es vs := by
  have hl := h.len
  have hch : ∀ k, ∃ ls, k < n → (gE es k).n ≤ (gE es k).c ∧ Sl w 4 lvC (gE es k).A (gE es k).n ls := fun k => by
    by_cases hk : k < n
    · have hm : gE es k ∈ es := by
        unfold gE
        rw [List.getD_eq_getElem?_getD, List.getElem?_eq_getElem (by omega)]
        exact List.getElem_mem _
      obtain ⟨h1, ls, h2⟩ := hok _ hm
      exact ⟨ls, fun _ => ⟨h1, h2⟩⟩
    · exact ⟨[], fun h => absurd h hk⟩
  obtain ⟨f, hf⟩ := Classical.axiomOfChoice hch
  have hg : ∀ k, k < n → ((List.range n).map f).getD k [] = f k := fun k hk => by
    rw [List.getD_eq_getElem?_getD, List.getElem?_map, List.getElem?_range hk]; rfl
  exact ⟨(List.range n).map f, h, fun k hk => by rw [hg k hk]; exact (hf k hk).2, fun k hk => (hf k hk).1, by simp⟩
end Go.Proofs.YtbpodnhebjjkaaaGreatDoor
