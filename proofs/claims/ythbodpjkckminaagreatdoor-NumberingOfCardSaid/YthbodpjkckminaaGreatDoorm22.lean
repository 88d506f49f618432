/- From a walk to a law's row: arguments opened by their types, read again behind the call. What the row's condition gives: the two tables that are read. Lists, levels and marks, opened. Lists, levels, marks: opened. Arrays and structs by value, opened. What the five rows' condition gives; counters and pairs of numbers by value, opened. document: in, when, first, all. -/
import Derived.Test.YthbodpjkckminaaGreatDoorRows
import Derived.Test.YthbodpjkckminaaGreatDoorm1
import Derived.WalkKit
import Derived.ProofKit
import Derived.OpenShut
import Derived.ShutString
import Derived.Deep.Slices
import Derived.ChangeSame
import Derived.Carry
import Derived.Test.YthbodpjkckminaaGreatDoorm7
import Derived.Test.YthbodpjkckminaaGreatDoorm9
import Derived.Lib.LaidTab
import Derived.LaidMore
import Derived.MakeChecks
import Derived.Test.YthbodpjkckminaaGreatDoorm5
import Derived.Test.YthbodpjkckminaaGreatDoorm21
namespace Go.Proofs.YthbodpjkckminaaGreatDoor
open Go.ChangeShapes Go.WideShapes Go.ChangeAt Go.RowKit Go.Deep
open Go.ChangeMaps (open_string shut_string)

theorem own_knob : ownKnob Tryz.prog.godebug = none := by kernel_rfl
theorem laid_out : laidOutB Tryz.prog = true := by kernel_rfl

section
variable {H : Type} {enc : TypeId × Value → H} {P : Program}
theorem trodAll_stays {W W' : World} (hl : laidOutB P = true) (hb : Below W.heap.size W W') : ∀ (ts : List TypeId) (vs : List Value) (ds : List (DataW H)) (ps : List MemPlace), (∀ t ∈ ts, P.readableRec t = true ∧ t < P.types.size) →
    DataW.TrodAll enc P W 0 (fun _ => true) true ts vs ds ps → (∀ p ∈ ps, p.block < W.heap.size) → ∀ sp : Nat → Bool, (∀ p ∈ ps, sp p.block = true) → DataW.TrodAll enc P W' 0 sp true ts vs ds ps
  | [], vs, ds, ps, _, h, _, sp, _ => by
    obtain ⟨rfl, rfl, rfl⟩ := trodAll_nil h
    exact trodAll_mk0
  | t :: ts, vs, ds, ps, hr, h, hlt, sp, hsp => by
    obtain ⟨v, vs', d, ds', p, q, rfl, rfl, rfl, h0, r0⟩ := trodAll_cons h
    have ht := hr t (List.mem_cons_self ..)
    refine trodAll_cons_mk (WideElems.Trod_stays hl ht.1 ht.2 h0 (fun x hx => hb.same (hlt x (List.mem_append_left _ hx))) (fun x hx => hsp x (List.mem_append_left _ hx))) ?_
    exact trodAll_stays hl hb ts vs' ds' q (fun t ht => hr t (List.mem_cons_of_mem _ ht)) r0 (fun x hx => hlt x (List.mem_append_right _ hx)) sp (fun x hx => hsp x (List.mem_append_right _ hx))

/-- The row's last step of a law: it returned true, and below the old heap nothing has turned. -/
theorem post_law {f : Func} {s : ChangeSpec} {apart fresh handsOn again : Bool} {W W' : World} {args : Array Value} {ds gs : List (DataW H)} {before : List MemPlace}
    (hl : laidOutB P = true) (hread : ∀ t ∈ f.params.toList, P.readableRec t = true ∧ t < P.types.size)
    (hW : DataW.Whole enc P f.params.toList s.vars apart W args.toList ds gs before)
    (hvars : s.vars = []) (hres : (s.fn H (ds ++ gs)).results = [.lit (.bool true)]) (hargs : (s.fn H (ds ++ gs)).args = ds) (hvs : (s.fn H (ds ++ gs)).vars = [])
    {tb : TypeId} (htb : P.underlying tb = some .bool) (hrt : f.resultTypes = #[tb]) (hb : Below W.heap.size W W') :
    s.post enc P f apart fresh handsOn again W args (.bool true) W' := by
  have hlt : ∀ p ∈ before, p.block < W.heap.size := fun p hp => hW.lt p hp
  have hold : ∀ p ∈ before, (fun b => decide (b < W.heap.size)) p.block = true := fun p hp => by simpa using hlt p hp
  have hW0 := hW
  obtain ⟨p, q, hA, hV, rfl, hz, hn⟩ := hW
  rw [hvars] at hV
  obtain ⟨rfl, rfl⟩ := trodVars_none hV
  simp only [List.append_nil] at hlt hold hz hn hres hargs hvs hW0
  have ha : ∀ sp : Nat → Bool, (∀ x ∈ p, sp x.block = true) → DataW.TrodAll enc P W' 0 sp true f.params.toList args.toList (s.fn H ds).args p := fun sp hsp => by
    rw [hargs]; exact trodAll_stays hl hb _ _ _ _ hread hA hlt sp hsp
  have hr : ∀ (b : Nat) (sp : Nat → Bool) (hd : Bool), DataW.TrodAll enc P W' b sp hd f.resultTypes.toList ((Value.bool true).resultList f.resultTypes.size) (s.fn H ds).results [] := fun b sp hd => by
    rw [hrt, hres]; exact trodAll_cons_mk (shut_bool htb _) trodAll_mk0
  have hv : ∀ sp : Nat → Bool, DataW.TrodVars enc P W' sp s.vars (s.fn H ds).vars [] := fun sp => by rw [hvars, hvs]; rfl
  have hok := ok_one (P := P) (W' := W') (f := f) (v := .bool true) hrt rfl (okWide_bool_mk htb true)
  refine ⟨ds, [], p, [], p, [], by simpa using hW0, by simpa using hr _ _ _, by simpa using ha _ hold, by simpa using hv _, World.keptBut_mono (fun x hx => ⟨hx, .inr (by simpa using hx)⟩) (hb.frame (· ∈ p)), fun _ => ?_⟩
  refine ⟨hok, _, _, ([] ++ p) ++ [], ⟨[] ++ p, [], trodAll_append (by simpa using ha _ (fun _ _ => rfl)) (by simpa using hr _ _ _), by simpa using hv _, rfl, ?_, ?_⟩, ?_⟩
  · intro b off hp
    have hin : MemPlace.cell b off ∈ p := by simpa using hp
    rw [hb.frozen (hlt _ hin)]
    exact hz b off hin
  · intro h
    have := hn h
    simpa using this
  · intro x hx _
    simpa using hx

/-- Whatever reads as data of type t are the cells of some y. -/
def Opens {α : Type} (enc : TypeId × Value → H) (P : Program) (w : World) (t : TypeId) (ev : α → List Value) (ok : α → Prop) : Prop :=
  ∀ (fuel : Nat) (cs : List Value) (x : DataW H × List MemPlace), DataW.trod enc P w 0 (fun _ => true) true fuel t cs = some x → ∃ y, cs = ev y ∧ ok y
theorem opens_int {k : IntKind} {w : World} {t : TypeId} (ht : P.underlying t = some (.int k)) : Opens enc P w t (fun n => [Value.int k n]) (fun n => (Lit.int k n).wf = true) := fun fuel cs x h => by
  obtain ⟨n, h1, _, h2⟩ := DataW.trod_int ht h
  exact ⟨n, h1, h2⟩
theorem open_sl {α : Type} {w : World} {t e : TypeId} {s : Nat} {ev : α → List Value} {ok : α → Prop} (ht : P.underlying t = some (.slice e)) (hC : P.cellsOf e = s) (hs0 : 0 < s) (ho : Opens enc P w e ev ok) {r : Reach} {b0 : Nat} {v : Value} {d : DataW H} {p : List MemPlace}
    (hval : Value.okWide P w r b0 t v) (h : DataW.Trod enc P w 0 (fun _ => true) true t v d p) :
    ∃ (A : Option Addr) (n c : Nat) (xs : List α), v = .slice A n c ∧ n ≤ c ∧ c ≤ maxLen ∧ Sl w s ev A n xs ∧ ∀ x ∈ xs, ok x := by
  obtain ⟨A0, n0, c0, rfl⟩ := okWide_slice ht hval
  obtain ⟨fuel, hf⟩ := h
  rcases open_slice ht hf with ⟨h0, _⟩ | ⟨a, n, c, m, k, D, Pl, hcs, _, hl, hm, hmm, _, hi⟩
  · simp only [Value.cells, List.cons.injEq, and_true] at h0
    injection h0 with h1 h2 h3
    subst h1; subst h2; subst h3
    exact ⟨none, 0, 0, [], rfl, Nat.le_refl _, Nat.zero_le _, Sl.nil, by simp⟩
  · simp only [Value.cells, List.cons.injEq, and_true] at hcs
    rw [hcs]
    simp only [if_true] at hmm
    have hc1 : ∀ i, i < n → ∃ y, (ok y ∧ ∀ j u, (ev y)[j]? = some u → w.cell? (a.add (i * s + j)) = some u ∧ a.block < w.heap.size) := fun i hin => by
      obtain ⟨cs', hc, ht'⟩ := hi i (by omega)
      obtain ⟨y, hy, hok⟩ := ho _ _ _ ht'
      rw [hC] at hc
      obtain ⟨_, hcl, hat⟩ := World.cells?_some hc
      refine ⟨y, hok, fun j u hu => ?_⟩
      rw [← hy] at hu
      have hj : j < s := by have := (List.getElem?_eq_some_iff.1 hu).1; omega
      have hcell := hat j hj
      rw [hu] at hcell
      have e : w.cell? (a.add (i * s + j)) = some u := by rw [← hcell, Go.Deep.add_add]
      exact ⟨e, by have := World.block_lt_of_cell? w _ e; rw [block_add] at this; exact this⟩
    by_cases hn : n = 0
    · subst hn
      exact ⟨some a, 0, c, [], rfl, Nat.zero_le _, hm, ⟨rfl, fun h => absurd h (by omega)⟩, by simp⟩
    · have hne : Nonempty α := ⟨(hc1 0 (by omega)).choose⟩
      have hc2 : ∀ i, ∃ y, i < n → (ok y ∧ ∀ j u, (ev y)[j]? = some u → w.cell? (a.add (i * s + j)) = some u ∧ a.block < w.heap.size) := fun i => by
        by_cases hin : i < n
        · obtain ⟨y, hy⟩ := hc1 i hin
          exact ⟨y, fun _ => hy⟩
        · exact ⟨Classical.choice hne, fun h => absurd h hin⟩
      obtain ⟨f, hf'⟩ := Classical.axiomOfChoice hc2
      have hz : a.block < w.heap.size := by
        obtain ⟨cs', hc, ht'⟩ := hi 0 (by omega)
        obtain ⟨_, hcl, hat⟩ := World.cells?_some hc
        have hp : 0 < P.cellsOf e := by omega
        have hcell := hat 0 hp
        have hlen : cs'[0]? = some (cs'[0]'(by omega)) := List.getElem?_eq_getElem _
        rw [hlen] at hcell
        have := World.block_lt_of_cell? w _ hcell
        rw [block_add, block_add] at this
        exact this
      refine ⟨some a, n, c, (List.range n).map f, rfl, hl, hm, ⟨by simp, fun _ => ⟨a, rfl, hz, fun i x hx j u hu => ?_⟩⟩, ?_⟩
      · have hin : i < n := by have := (List.getElem?_eq_some_iff.1 hx).1; simpa using this
        rw [List.getElem?_map, List.getElem?_range hin] at hx
        injection hx with hx
        subst hx
        exact ((hf' i hin).2 j u hu).1
      · intro x hx
        obtain ⟨i, hi, rfl⟩ := List.mem_map.1 hx
        exact (hf' i (List.mem_range.1 hi)).1
end
end Go.Proofs.YthbodpjkckminaaGreatDoor

namespace Go.Proofs.YthbodpjkckminaaGreatDoor
open Go.ChangeShapes Go.WideShapes Go.ChangeAt Go.RowKit Go.Deep

theorem bytes_ext {a b : ByteArray} (h : a.data.toList = b.data.toList) : a = b := by
  cases a; cases b
  simp at h
  rw [h]
theorem flat_of {α : Type} {s : Nat} {enc : α → List Value} (henc : ∀ x : α, (enc x).length = s) (hs : 0 < s) {cs : List Value} {xs : List α} (hl : cs.length = xs.length * s) (h : ∀ i x, xs[i]? = some x → (cs.drop (i * s)).take s = enc x) : cs = xs.flatMap enc := by
  apply List.ext_getElem?
  intro j
  by_cases hj : j < xs.length * s
  · have h1 : j / s < xs.length := Nat.div_lt_of_lt_mul (by rw [Nat.mul_comm]; exact hj)
    have h2 : j % s < s := Nat.mod_lt _ hs
    have hx : xs[j / s]? = some xs[j / s] := List.getElem?_eq_getElem h1
    have h3 : j % s < (enc xs[j / s]).length := by rw [henc]; exact h2
    have f := getElem?_flat henc xs (j / s) _ hx (j % s) _ (List.getElem?_eq_getElem h3)
    rw [Nat.div_add_mod' j s] at f
    rw [f, ← List.getElem?_eq_getElem h3, ← h _ _ hx, List.getElem?_take, if_pos h2, List.getElem?_drop, Nat.div_add_mod' j s]
  · rw [List.getElem?_eq_none (by omega), List.getElem?_eq_none (by rw [flat_len henc]; omega)]
section
variable {H : Type} {enc : TypeId × Value → H}
set_option maxRecDepth 100000 in
theorem sign_at {W : World} {fuel : Nat} {cs : List Value} {x : DataW H × List MemPlace} {sp : Nat → Bool} {held : Bool} {b : Nat} (h : DataW.trod enc Tryz.prog W b sp held fuel 323 cs = some x) : ∃ (n : Int) (s : ByteArray), cs = [.int .i64 n, .string s] ∧ x.1 = .agg [.lit (.int .i64 n), .lit (.string s.data.toList)] := by
  obtain ⟨xs, n, _, e, hcl, hxl, hf⟩ := DataW.trod_struct Tryz.underlying323 h
  have hc2 : cs.length = 2 := hcl
  have f0 := hf 0 _ rfl
  have f1 := hf 1 _ rfl
  match cs, hc2 with
  | [a, c], _ =>
    match xs, hxl with
    | [y0, y1], _ =>
      obtain ⟨n0, e0, x0, _⟩ := DataW.trod_int Tryz.underlying3 (show DataW.trod enc Tryz.prog W b sp held n 3 [a] = some y0 from f0)
      obtain ⟨s1, e1, x1, _⟩ := DataW.trod_string Tryz.underlying9 (show DataW.trod enc Tryz.prog W b sp held n 9 [c] = some y1 from f1)
      simp only [List.cons.injEq, and_true] at e0 e1
      subst e0; subst e1
      refine ⟨n0, s1, rfl, ?_⟩
      rw [e, x0, x1]
      rfl
end
def signD {H : Type} (p : Int × ByteArray) : DataW H := .agg [.lit (.int .i64 p.1), .lit (.string p.2.data.toList)]
set_option maxRecDepth 100000 in
theorem signs_of {W : World} {fuel : Nat} {cs : List Value} {p : List MemPlace} {sp : Nat → Bool} {held : Bool} {b : Nat} (h : DataW.trod (fun _ => ()) Tryz.prog W b sp held fuel 324 cs = some (.agg (signsP.map signD), p)) : cs = signsC := by
  obtain ⟨xs, m, _, e, hcl, hxl, hel⟩ := DataW.trod_array Tryz.underlying324 h
  have ce : Tryz.prog.cellsOf 323 = 2 := by kernel_rfl
  have ct : Tryz.prog.cellsOf 324 = 26 := by kernel_rfl
  rw [ct] at hcl
  have hm : xs.map (·.1) = signsP.map signD := by
    have := congrArg Prod.fst e
    simpa using this.symm
  have hsl : signsP.length = 13 := rfl
  refine flat_of (enc := fun p : Int × ByteArray => [Value.int .i64 p.1, Value.string p.2]) (s := 2) (fun _ => rfl) (by omega) (by rw [hcl, hsl]) (fun i x hx => ?_)
  have hi : i < 13 := by rw [← hsl]; exact (List.getElem?_eq_some_iff.1 hx).1
  have hE := hel i hi
  rw [ce, List.getElem?_eq_getElem (by omega : i < xs.length)] at hE
  obtain ⟨n, s, e1, e2⟩ := sign_at hE
  have e3 : (xs.map (·.1))[i]? = (signsP.map (signD (H := Unit)))[i]? := by rw [hm]
  rw [List.getElem?_map, List.getElem?_map, List.getElem?_eq_getElem (by omega : i < xs.length), hx] at e3
  simp only [Option.map_some, Option.some.injEq] at e3
  rw [e2] at e3
  unfold signD at e3
  simp only [DataW.agg.injEq, List.cons.injEq, DataW.lit.injEq, Lit.int.injEq, Lit.string.injEq, and_true, true_and] at e3
  obtain ⟨e4, e5⟩ := e3
  rw [e1, e4, bytes_ext e5]
end Go.Proofs.YthbodpjkckminaaGreatDoor

namespace Go.Proofs.YthbodpjkckminaaGreatDoor
open Go.ChangeShapes Go.WideShapes Go.ChangeAt Go.RowKit Go.Deep

section
variable {H : Type} {enc : TypeId × Value → H} {P : Program}
/-- a slice among the cells of something greater. -/
theorem opens_slc {α : Type} {w : World} {t e : TypeId} {s : Nat} {ev : α → List Value} {ok : α → Prop} (ht : P.underlying t = some (.slice e)) (hC : P.cellsOf e = s) (hs0 : 0 < s) (ho : Opens enc P w e ev ok) :
    Opens enc P w t (fun q : Option Addr × Nat × Nat => [Value.slice q.1 q.2.1 q.2.2]) (fun q => q.2.1 ≤ q.2.2 ∧ q.2.2 ≤ maxLen ∧ (q.1 = none → q.2.2 = 0) ∧ ∃ xs, Sl w s ev q.1 q.2.1 xs ∧ ∀ x ∈ xs, ok x) := fun fuel cs x hf => by
  obtain ⟨d, p⟩ := x
  rcases open_slice ht hf with ⟨h0, _⟩ | ⟨a, n, c, m, k, D, Pl, hcs, _, hl, hm, hmm, _, hi⟩
  · exact ⟨(none, 0, 0), h0, Nat.le_refl _, Nat.zero_le _, fun _ => rfl, [], Sl.nil, by simp⟩
  · simp only [if_true] at hmm
    have hc1 : ∀ i, i < n → ∃ y, (ok y ∧ ∀ j u, (ev y)[j]? = some u → w.cell? (a.add (i * s + j)) = some u ∧ a.block < w.heap.size) := fun i hin => by
      obtain ⟨cs', hc, ht'⟩ := hi i (by omega)
      obtain ⟨y, hy, hok⟩ := ho _ _ _ ht'
      rw [hC] at hc
      obtain ⟨_, hcl, hat⟩ := World.cells?_some hc
      refine ⟨y, hok, fun j u hu => ?_⟩
      rw [← hy] at hu
      have hj : j < s := by have := (List.getElem?_eq_some_iff.1 hu).1; omega
      have hcell := hat j hj
      rw [hu] at hcell
      have e : w.cell? (a.add (i * s + j)) = some u := by rw [← hcell, Go.Deep.add_add]
      exact ⟨e, by have := World.block_lt_of_cell? w _ e; rw [block_add] at this; exact this⟩
    refine ⟨(some a, n, c), hcs, hl, hm, (fun h => by cases h), ?_⟩
    by_cases hn : n = 0
    · subst hn
      exact ⟨[], ⟨rfl, fun h => absurd h (Nat.lt_irrefl 0)⟩, by simp⟩
    · have hne : Nonempty α := ⟨(hc1 0 (by omega)).choose⟩
      have hc2 : ∀ i, ∃ y, i < n → (ok y ∧ ∀ j u, (ev y)[j]? = some u → w.cell? (a.add (i * s + j)) = some u ∧ a.block < w.heap.size) := fun i => by
        by_cases hin : i < n
        · obtain ⟨y, hy⟩ := hc1 i hin
          exact ⟨y, fun _ => hy⟩
        · exact ⟨Classical.choice hne, fun h => absurd h hin⟩
      obtain ⟨f, hf'⟩ := Classical.axiomOfChoice hc2
      have hz : a.block < w.heap.size := by
        obtain ⟨cs', hc, ht'⟩ := hi 0 (by omega)
        obtain ⟨_, hcl, hat⟩ := World.cells?_some hc
        have hp : 0 < P.cellsOf e := by omega
        have hcell := hat 0 hp
        have hlen : cs'[0]? = some (cs'[0]'(by omega)) := List.getElem?_eq_getElem _
        rw [hlen] at hcell
        have := World.block_lt_of_cell? w _ hcell
        rw [block_add, block_add] at this
        exact this
      refine ⟨(List.range n).map f, ⟨by simp, fun _ => ⟨a, rfl, hz, fun i x hx j u hu => ?_⟩⟩, ?_⟩
      · have hin : i < n := by have := (List.getElem?_eq_some_iff.1 hx).1; simpa using this
        rw [List.getElem?_map, List.getElem?_range hin] at hx
        injection hx with hx
        subst hx
        exact ((hf' i hin).2 j u hu).1
      · intro x hx
        obtain ⟨i, hi, rfl⟩ := List.mem_map.1 hx
        exact (hf' i (List.mem_range.1 hi)).1
end
section
variable {H : Type} {enc : TypeId × Value → H}
set_option maxRecDepth 100000 in
theorem opens_lv (w : World) : Opens enc Tryz.prog w 30 lvC (fun _ => True) := fun fuel cs x h => by
  obtain ⟨xs, n, _, _, hcl, hxl, hf⟩ := DataW.trod_struct Tryz.underlying30 h
  have hc2 : cs.length = 4 := hcl
  have f0 := hf 0 _ rfl
  have f1 := hf 1 _ rfl
  have f2 := hf 2 _ rfl
  have f3 := hf 3 _ rfl
  match cs, hc2 with
  | [a, b, c, d], _ =>
    match xs, hxl with
    | [y0, y1, y2, y3], _ =>
      obtain ⟨n0, e0, _, _⟩ := DataW.trod_int Tryz.underlying3 (show DataW.trod enc Tryz.prog w 0 (fun _ => true) true n 3 [a] = some y0 from f0)
      obtain ⟨n1, e1, _, _⟩ := DataW.trod_int Tryz.underlying3 (show DataW.trod enc Tryz.prog w 0 (fun _ => true) true n 3 [b] = some y1 from f1)
      obtain ⟨s2, e2, _, _⟩ := DataW.trod_string Tryz.underlying9 (show DataW.trod enc Tryz.prog w 0 (fun _ => true) true n 9 [c] = some y2 from f2)
      obtain ⟨n3, e3, _, _⟩ := DataW.trod_int Tryz.underlying3 (show DataW.trod enc Tryz.prog w 0 (fun _ => true) true n 3 [d] = some y3 from f3)
      simp only [List.cons.injEq, and_true] at e0 e1 e2 e3
      subst e0; subst e1; subst e2; subst e3
      exact ⟨⟨n0, n1, s2, n3⟩, rfl, trivial⟩
/-- what a list holds: its levels lie in memory. -/
def LsOk (w : World) (e : LsE) : Prop := e.n ≤ e.c ∧ ∃ ls, Sl w 4 lvC e.A e.n ls
set_option maxRecDepth 100000 in
theorem opens_ls (w : World) : Opens enc Tryz.prog w 96 lsC (LsOk w) := fun fuel cs x h => by
  obtain ⟨xs, n, _, _, hcl, hxl, hf⟩ := DataW.trod_struct Tryz.underlying96 h
  have hc2 : cs.length = 2 := hcl
  have f0 := hf 0 _ rfl
  have f1 := hf 1 _ rfl
  match cs, hc2 with
  | [a, b], _ =>
    match xs, hxl with
    | [y0, y1], _ =>
      obtain ⟨n0, e0, _, _⟩ := DataW.trod_int Tryz.underlying3 (show DataW.trod enc Tryz.prog w 0 (fun _ => true) true n 3 [a] = some y0 from f0)
      obtain ⟨q, e1, h1, _, _, ls, h2, _⟩ := opens_slc Tryz.underlying22 (s := 4) (by kernel_rfl) (by omega) (opens_lv w) n [b] y1 (show DataW.trod enc Tryz.prog w 0 (fun _ => true) true n 22 [b] = some y1 from f1)
      simp only [List.cons.injEq, and_true] at e0 e1
      subst e0; subst e1
      exact ⟨⟨n0, q.1, q.2.1, q.2.2⟩, rfl, h1, ls, h2⟩
end
/-- the levels of lists that lie in memory. -/
theorem lst_of {w : World} {A : Option Addr} {n : Nat} {es : List LsE} (h : Sl w 2 lsC A n es) (hok : ∀ e ∈ es, LsOk w e) : ∃ vs, LsT w A n es vs := by
  have hl := h.len
  have hch : ∀ k, ∃ ls, k < n → (gE es k).n ≤ (gE es k).c ∧ Sl w 4 lvC (gE es k).A (gE es k).n ls := fun k => by
    by_cases hk : k < n
    · have hm : gE es k ∈ es := by
        unfold gE
        rw [List.getD_eq_getElem?_getD, List.getElem?_eq_getElem (by omega)]
        exact List.getElem_mem _
      obtain ⟨h1, ls, h2⟩ := hok _ hm
      exact ⟨ls, fun _ => ⟨h1, h2⟩⟩
    · exact ⟨[], fun h => absurd h hk⟩
  obtain ⟨f, hf⟩ := Classical.axiomOfChoice hch
  have hg : ∀ k, k < n → ((List.range n).map f).getD k [] = f k := fun k hk => by
    rw [List.getD_eq_getElem?_getD, List.getElem?_map, List.getElem?_range hk]; rfl
  exact ⟨(List.range n).map f, h, fun k hk => by rw [hg k hk]; exact (hf k hk).2, fun k hk => (hf k hk).1, by simp⟩
end Go.Proofs.YthbodpjkckminaaGreatDoor

namespace Go.Proofs.YthbodpjkckminaaGreatDoor
open Go.ChangeShapes Go.WideShapes Go.ChangeAt Go.RowKit Go.Deep

section
variable {H : Type} {enc : TypeId × Value → H} {P : Program}
theorem okWide_array {w : World} {r : Reach} {base : Nat} {t e : TypeId} {n : Nat} {v : Value} (ht : P.underlying t = some (.array n e)) (h : Value.okWide P w r base t v) : ∃ cs, v = .agg cs ∧ cs.size = P.cellsOf t := by
  simp only [Value.okWide, ht] at h
  obtain ⟨cs, h1, h2, _⟩ := h
  exact ⟨cs, h1, h2⟩
theorem opens_arr2 {α : Type} {w : World} {t e : TypeId} {ev : α → List Value} {ok : α → Prop} (ht : P.underlying t = some (.array 2 e)) (hC : P.cellsOf t = 2) (ce : P.cellsOf e = 1) (ho : Opens enc P w e ev ok) :
    Opens enc P w t (fun p : α × α => ev p.1 ++ ev p.2) (fun p => ok p.1 ∧ ok p.2) := fun fuel cs x h => by
  obtain ⟨xs, m, _, _, hl, hx, hf⟩ := DataW.trod_array ht h
  rw [hC] at hl
  match cs, hl with
  | [a, b], _ =>
    have f0 := hf 0 (by omega)
    have f1 := hf 1 (by omega)
    rw [ce] at f0 f1
    rw [List.getElem?_eq_getElem (by omega)] at f0 f1
    obtain ⟨y0, e0, o0⟩ := ho _ _ _ f0
    obtain ⟨y1, e1, o1⟩ := ho _ _ _ f1
    refine ⟨(y0, y1), ?_, o0, o1⟩
    show _ = ev y0 ++ ev y1
    rw [← e0, ← e1]
    rfl
theorem opens_arr3 {α : Type} {w : World} {t e : TypeId} {ev : α → List Value} {ok : α → Prop} (ht : P.underlying t = some (.array 3 e)) (hC : P.cellsOf t = 3) (ce : P.cellsOf e = 1) (ho : Opens enc P w e ev ok) :
    Opens enc P w t (fun p : α × α × α => ev p.1 ++ ev p.2.1 ++ ev p.2.2) (fun p => ok p.1 ∧ ok p.2.1 ∧ ok p.2.2) := fun fuel cs x h => by
  obtain ⟨xs, m, _, _, hl, hx, hf⟩ := DataW.trod_array ht h
  rw [hC] at hl
  match cs, hl with
  | [a, b, c], _ =>
    have f0 := hf 0 (by omega)
    have f1 := hf 1 (by omega)
    have f2 := hf 2 (by omega)
    rw [ce] at f0 f1 f2
    rw [List.getElem?_eq_getElem (by omega)] at f0 f1 f2
    obtain ⟨y0, e0, o0⟩ := ho _ _ _ f0
    obtain ⟨y1, e1, o1⟩ := ho _ _ _ f1
    obtain ⟨y2, e2, o2⟩ := ho _ _ _ f2
    refine ⟨(y0, y1, y2), ?_, o0, o1, o2⟩
    show _ = ev y0 ++ ev y1 ++ ev y2
    rw [← e0, ← e1, ← e2]
    rfl
theorem open_aggv {α : Type} {w : World} {t : TypeId} {ev : α → List Value} {ok : α → Prop} {v : Value} {d : DataW H} {p : List MemPlace} (ho : Opens enc P w t ev ok) (hv : ∃ cs, v = .agg cs) (h : DataW.Trod enc P w 0 (fun _ => true) true t v d p) :
    ∃ y, v = .agg (ev y).toArray ∧ ok y := by
  obtain ⟨cs, rfl⟩ := hv
  obtain ⟨fuel, hf⟩ := h
  obtain ⟨y, hy, hok⟩ := ho _ _ _ hf
  refine ⟨y, ?_, hok⟩
  rw [← hy]
  rfl
end
end Go.Proofs.YthbodpjkckminaaGreatDoor

namespace Go.Proofs.YthbodpjkckminaaGreatDoor
open Go.ChangeShapes Go.WideShapes Go.ChangeAt Go.RowKit Go.Deep

section
variable {H : Type} {enc : TypeId × Value → H} {P : Program}
theorem opens_arr9 {α : Type} {w : World} {t e : TypeId} {ev : α → List Value} {ok : α → Prop} (ht : P.underlying t = some (.array 9 e)) (hC : P.cellsOf t = 9) (ce : P.cellsOf e = 1) (ho : Opens enc P w e ev ok) :
    Opens enc P w t (fun l : List α => l.flatMap ev) (fun l => l.length = 9) := fun fuel cs x h => by
  obtain ⟨xs, m, _, _, hl, hx, hf⟩ := DataW.trod_array ht h
  rw [hC] at hl
  match cs, hl with
  | [a, b, c, d, e, f, g, h, i], _ =>
    have f0 := hf 0 (by omega)
    have f1 := hf 1 (by omega)
    have f2 := hf 2 (by omega)
    have f3 := hf 3 (by omega)
    have f4 := hf 4 (by omega)
    have f5 := hf 5 (by omega)
    have f6 := hf 6 (by omega)
    have f7 := hf 7 (by omega)
    have f8 := hf 8 (by omega)
    rw [ce] at f0 f1 f2 f3 f4 f5 f6 f7 f8
    rw [List.getElem?_eq_getElem (by omega)] at f0 f1 f2 f3 f4 f5 f6 f7 f8
    obtain ⟨y0, e0, _⟩ := ho _ _ _ f0
    obtain ⟨y1, e1, _⟩ := ho _ _ _ f1
    obtain ⟨y2, e2, _⟩ := ho _ _ _ f2
    obtain ⟨y3, e3, _⟩ := ho _ _ _ f3
    obtain ⟨y4, e4, _⟩ := ho _ _ _ f4
    obtain ⟨y5, e5, _⟩ := ho _ _ _ f5
    obtain ⟨y6, e6, _⟩ := ho _ _ _ f6
    obtain ⟨y7, e7, _⟩ := ho _ _ _ f7
    obtain ⟨y8, e8, _⟩ := ho _ _ _ f8
    refine ⟨[y0, y1, y2, y3, y4, y5, y6, y7, y8], ?_, rfl⟩
    simp only [List.flatMap_cons, List.flatMap_nil, List.append_nil]
    rw [← e0, ← e1, ← e2, ← e3, ← e4, ← e5, ← e6, ← e7, ← e8]
    rfl
end
section
variable {H : Type} {enc : TypeId × Value → H}
theorem opens_b (w : World) : Opens enc Tryz.prog w 4 (fun b => [Value.bool b]) (fun _ => True) := fun fuel cs x h => by
  obtain ⟨b, h1, _⟩ := DataW.trod_bool Tryz.underlying4 h
  exact ⟨b, h1, trivial⟩
set_option maxRecDepth 100000 in
theorem opens_cn (w : World) : Opens enc Tryz.prog w 26 cnL (fun _ => True) := fun fuel cs x h => by
  obtain ⟨xs, n, _, _, hcl, hxl, hf⟩ := DataW.trod_struct Tryz.underlying26 h
  have hc2 : cs.length = 18 := hcl
  have f0 := hf 0 _ rfl
  have f1 := hf 1 _ rfl
  match xs, hxl with
  | [y0, y1], _ =>
    obtain ⟨l1, e1, h1⟩ := opens_arr9 Tryz.underlying23 (by kernel_rfl) (by kernel_rfl) (opens_int Tryz.underlying3) n _ y0 f0
    obtain ⟨l2, e2, h2⟩ := opens_arr9 Tryz.underlying24 (by kernel_rfl) (by kernel_rfl) (opens_b w) n _ y1 f1
    simp only at e1
    simp only at e2
    match l1, h1, e1 with
    | [a0, a1, a2, a3, a4, a5, a6, a7, a8], _, e1 =>
      match l2, h2, e2 with
      | [b0, b1, b2, b3, b4, b5, b6, b7, b8], _, e2 =>
        refine ⟨fun i => ([a0, a1, a2, a3, a4, a5, a6, a7, a8].getD i 0, [b0, b1, b2, b3, b4, b5, b6, b7, b8].getD i false), ?_, trivial⟩
        have e3 : cs = (cs.drop 0).take 9 ++ (cs.drop 9).take 9 := by
          rw [List.drop_zero, show (cs.drop 9).take 9 = cs.drop 9 from List.take_of_length_le (by rw [List.length_drop]; omega), List.take_append_drop]
        have e1' : (cs.drop 0).take 9 = _ := e1
        have e2' : (cs.drop 9).take 9 = _ := e2
        rw [e3, e1', e2']
        rfl
end
set_option maxRecDepth 100000 in
theorem laid_gl5 {W : World} (h : laidMetH Tryz.prog Rows.numberingStepsRow.laid W) : Gl W := by
  rw [MakeChecks.laidMetH_plain _ _ _ (by kernel_rfl)] at h
  obtain ⟨ps, ⟨_, _, _, _, _, _, _, _, _, _, ⟨_, _, _, _, _, _, _, _, _, _, ⟨g2, t2, cs2, f2, p2, q2, hg2, ht2, hv2, hd2, ⟨_, _, _, _, _, _, _, _, _, _, ⟨g4, t4, cs4, f4, p4, q4, hg4, ht4, hv4, hd4, _, _⟩, _⟩, _⟩, _⟩, _⟩, _, _⟩ := h
  obtain rfl := Option.some.inj ((show Tryz.prog.globalNamed "internal/strconv.uint64pow10" = some 2 by kernel_rfl).symm.trans hg2)
  obtain rfl := Option.some.inj ((show Tryz.prog.globalNamed "obelus/numeral.signs" = some 0 by kernel_rfl).symm.trans hg4)
  obtain rfl := Option.some.inj ((show (Tryz.prog.globals[2]?).map (·.type) = some 351 by kernel_rfl).symm.trans ht2)
  obtain rfl := Option.some.inj ((show (Tryz.prog.globals[0]?).map (·.type) = some 324 by kernel_rfl).symm.trans ht4)
  refine ⟨?_, fun j v hv => ?_⟩
  · have e : cs2.toList = Lib.pow10Tab.map fun z => Value.int .u64 z := Lib.cells_of_tab Tryz.underlying351 Tryz.underlying335 (by kernel_rfl) (by kernel_rfl) hd2
    unfold Lib.TabIs
    rw [hv2, ← e]
  · have e : cs4.toList = signsC := signs_of hd4
    have := World.var?_cell hg4 hv4 j
    rw [Nat.zero_add, this, ← Array.getElem?_toList, e, hv]
end Go.Proofs.YthbodpjkckminaaGreatDoor

namespace Go.Proofs.YthbodpjkckminaaGreatDoor
open Go.RowKit

theorem in_any (n lo hi : Int) (w : World) : Calls Tryz.prog 67 #[.int .i64 n, .int .i64 lo, .int .i64 hi] w fun e w' => e = .returned (.bool (decide (lo ≤ n) && decide (n ≤ hi))) ∧ w' = w := by
  by_cases h1 : lo ≤ n
  · go_enter Tryz.func67, Tryz.ntmps67
    go_wp2_with fail
    go_ret
    exact ⟨by simp [h1], rfl⟩
  · have HF := Lib.hid (decide_eq_false h1)
    go_enter Tryz.func67, Tryz.ntmps67
    go_wp2_with fail
    go_ret
    exact ⟨by rw [HF.out]; rfl, rfl⟩
theorem when_any (b : Bool) (e : Int) (w : World) : Calls Tryz.prog 44 #[.bool b, .int .i64 e] w fun r w' => r = .returned (.int .i64 (if b = true then e else 0)) ∧ w' = w := by
  cases b
  all_goals
    go_enter Tryz.func44, Tryz.ntmps44
    go_wp2_with fail
    go_ret
    exact ⟨rfl, rfl⟩
set_option maxRecDepth 100000 in
theorem dfirst_any (A : Option Addr) (n c : Nat) (es : List Int) (w : World) (ha : Sl w 1 intC A n es) (hn : n ≤ 1000000) :
    Calls Tryz.prog 31 #[.slice A n c] w fun r w' => r = .returned (.int .i64 (firstNZ es)) ∧ w' = w := by
  have hl := ha.len
  have HAT := Lib.hid (fun i (h0 : ∀ t, t < i → es.getD t 0 = 0) (hn : es.getD i 0 ≠ 0) => firstNZ_at h0 hn)
  have HALL := Lib.hid (fun (h0 : ∀ t, t < es.length → es.getD t 0 = 0) => firstNZ_all h0)
  have HLN := Lib.hid hl
  clear hl
  generalize firstNZ es = r at *
  go_enter Tryz.func31, Tryz.ntmps31
  go_wp2_with fail
  go_loop [7] (fun vi => ∃ i : Nat, vi = .int .i64 i ∧ i ≤ n ∧ ∀ t, t < i → es.getD t 0 = 0) (fun vi => n - (intOf vi).toNat)
  case atStart => exact ⟨0, rfl, Nat.zero_le _, fun t ht => absurd ht (Nat.not_lt_zero _)⟩
  case round =>
    obtain ⟨i, rfl, hi, hz⟩ := hrel
    have HZ := Lib.hid hz
    clear hz
    by_cases hlt : i < n
    · obtain ⟨ad, e, hl2, k0⟩ := ha.int hlt
      subst e
      have hlt' : (i : Int) < n := by omega
      obtain ⟨v, hv⟩ : ∃ v, gI es i = v := ⟨_, rfl⟩
      rw [hv] at k0
      have HV := Lib.hid hv
      clear hv
      by_cases hv0 : v = 0
      · have hb : (v != 0) = false := by rw [hv0]; rfl
        have HV0 := Lib.hid hv0
        clear hv0
        go_wp2_with fail
        go_round
        case rel => exact ⟨i + 1, by simp, by omega, fun t ht => by
          rcases (show t < i ∨ t = i by omega) with h | rfl
          · exact HZ.out t h
          · exact HV.out.trans HV0.out⟩
        case measure => simp [intOf]; omega
      · have hb : (v != 0) = true := bne_iff_ne.2 hv0
        have HV0 := Lib.hid hv0
        clear hv0
        go_wp2_with fail
        go_ret
        exact ⟨by rw [HAT.out i HZ.out (by rw [show es.getD i 0 = v from HV.out]; exact HV0.out), show es.getD i 0 = v from HV.out]; rfl, rfl⟩
    · have : i = n := by omega
      subst this
      go_wp2_with fail
      go_ret
      exact ⟨by rw [HALL.out (by rw [HLN.out]; exact HZ.out)]; rfl, rfl⟩
section
variable {P : Program} {ops : Array Oper} {rest : List Oper} {o : Oper} {a : Act} {w : World} {Q : Exit → Act → World → Prop}
/-- a call of a function that a slot holds. -/
theorem run_callv {a : Act} (f : Operand) (xs : Array Operand) (ts : Array TypeId) (g : Nat) (lb vs : Array Value) (ho : o.op = .call { callee := .value f, args := xs, argTypes := ts }) (hf : a.eval f = .func (.func g) #[] lb) (hx : xs.map a.eval = vs) (hen : ∀ args W, (callFunc g args).run P W = .ok (.enter g args) W) : (execOp a.eval o).run P w = .ok (.enter g (vs ++ lb)) w := by
  have e : (resolve a.eval { callee := .value f, args := xs, argTypes := ts } o.type).run P w = .ok { target := .fn (.func g) lb, args := vs } w := by
    simp only [resolve, hf, hx]
    simp [Deferred.ofValue, go_sem]
  unfold execOp
  simp only [ho]
  rw [Sem.run_bind, e, Result.andThen_ok]
  simp only [invoke]
  exact hen _ _
/-- in a plain region: a call of whatever function. -/
theorem wpl_call (f : Nat) (args : Array Value) (R : Value → World → Prop) (hw : Region.wanted o (yielded ops a.tmps) = true) (he : (execOp a.eval o).run P w = .ok (.enter f args) w) (hc : Calls P f args w fun e w' => ∃ v, e = .returned v ∧ R v w') (h : ∀ v w', R v w' → wpList P ops Q rest (a.put o.dst v) w') : wpList P ops Q (o :: rest) a w :=
  wpList_step fun K hK => by
    show if Region.wanted o (yielded ops a.tmps) = true then _ else _
    rw [if_pos hw]
    unfold Oper.wp
    rw [he, Oper.upon_enter]
    refine hc.mono ?_
    rintro e w' ⟨v, rfl, hR⟩
    exact hK _ _ (h v w' hR)
end
/-- a result that is an error code, which tells something where it is 0. -/
def ErrPost (w : World) (Q : Prop) (e : Ending) (w' : World) : Prop := ∃ r : Int, e = .returned (.int .i64 r) ∧ (r = 0 → Q) ∧ Below w.heap.size w w'
def ErrR (w : World) (Q : Prop) (v : Value) (w' : World) : Prop := ∃ r : Int, v = .int .i64 r ∧ (r = 0 → Q) ∧ Below w.heap.size w w'
theorem ErrPost.val {w : World} {Q : Prop} {e : Ending} {w' : World} (h : ErrPost w Q e w') : ∃ v, e = .returned v ∧ ErrR w Q v w' := by
  obtain ⟨r, h1, h2, h3⟩ := h
  exact ⟨_, h1, r, rfl, h2, h3⟩
set_option maxRecDepth 100000 in
set_option maxHeartbeats 4000000 in
theorem all_any (n : Nat) (g : Nat) (lb : Array Value) (Q : Nat → Prop) (w : World) (hn : n ≤ 1000000) (hen : ∀ args W, (callFunc g args).run Tryz.prog W = .ok (.enter g args) W)
    (hc : ∀ i W, i < n → Below w.heap.size w W → Calls Tryz.prog g (#[.int .i64 (i : Nat)] ++ lb) W (ErrPost W (Q i))) :
    Calls Tryz.prog 58 #[.int .i64 (n : Nat), .func (.func g) #[] lb] w (ErrPost w (∀ i, i < n → Q i)) := by
  have HC := Lib.hid hc
  have HEN := Lib.hid hen
  clear hen
  have HP := Lib.hid (show ∀ e w', (∃ r : Int, e = .returned (.int .i64 r) ∧ (r = 0 → ∀ i, i < n → Q i) ∧ Below w.heap.size w w') → ErrPost w (∀ i, i < n → Q i) e w' from fun _ _ h => h)
  clear hc
  go_enter Tryz.func58, Tryz.ntmps58
  go_wp2_with fail
  go_loopw [8] (fun vi wr => ∃ i : Nat, vi = .int .i64 i ∧ i ≤ n ∧ Below w.heap.size w wr ∧ ∀ t, t < i → Q t) (fun vi _ => n - (intOf vi).toNat)
  case atStart => exact ⟨0, rfl, Nat.zero_le _, Below.refl _ _, fun t ht => absurd ht (Nat.not_lt_zero _)⟩
  case round =>
    obtain ⟨i, rfl, hi, hb, hz⟩ := hrel
    have HZ := Lib.hid hz
    clear hz
    by_cases hlt : i < n
    · have c1 := HC.out i wr hlt hb
      go_upto_region 4 with fail
      refine wp_region_lit ?_
      refine wpl_val (.func (.func g) #[] lb) wr (by rfl) (by go_simp) ?_
      try simp only [Act.put, List.setIfInBounds_toArray, List.set_cons_zero, List.set_cons_succ]
      refine wpl_val (.int .i64 (i : Nat)) wr (by rfl) (by go_simp) ?_
      try simp only [Act.put, List.setIfInBounds_toArray, List.set_cons_zero, List.set_cons_succ]
      have c2 : Calls Tryz.prog g (#[.int .i64 (i : Nat)] ++ lb) wr fun e w' => ∃ v, e = .returned v ∧ ErrR wr (Q i) v w' := Calls.mono c1 (fun _ _ h => h.val)
      refine wpl_call g (#[.int .i64 (i : Nat)] ++ lb) (ErrR wr (Q i)) (by rfl) ?he ?hc ?rest
      case hc => with_reducible exact c2
      case he => exact run_callv (.tmp 11) #[.tmp 12] #[3] g lb #[.int .i64 (i : Nat)] rfl rfl (by simp only [List.map_toArray, List.map_cons, List.map_nil]; rfl) HEN.out
      clear c2
      rintro v w4 ⟨r, rfl, hq, hb4⟩
      try simp only [Act.put, List.setIfInBounds_toArray, List.set_cons_zero, List.set_cons_succ]
      have HQ := Lib.hid hq
      have hb5 := below_trans' hb hb.size hb4
      clear hq hb4 c1
      by_cases hr : r = 0
      · have HR := Lib.hid hr
        subst hr
        go_wp2_with fail
        go_roundw
        case rel => exact ⟨i + 1, by simp, by omega, hb5, fun t ht => by
          rcases (show t < i ∨ t = i by omega) with h | rfl
          · exact HZ.out t h
          · exact HQ.out rfl⟩
        case measure => rw [intOf, intOf]; omega
      · have hrb : (r != 0) = true := bne_iff_ne.2 hr
        have HR := Lib.hid hr
        clear hr
        go_wp2_with fail
        go_ret
        exact HP.out _ _ ⟨r, rfl, fun h => absurd h HR.out, hb5⟩
    · have : i = n := by omega
      subst this
      go_wp2_with fail
      go_ret
      exact HP.out _ _ ⟨0, rfl, fun _ => HZ.out, hb⟩
end Go.Proofs.YthbodpjkckminaaGreatDoor
