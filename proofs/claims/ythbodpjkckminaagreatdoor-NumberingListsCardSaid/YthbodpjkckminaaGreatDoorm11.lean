/- rows loaded and stored in a walk that bears a fence; the iterator over the items of a flow whose items have one unit each. run.Index. renumber.Seq's check, plain and walked. The law's checkMarks. The law's check of lists and marks. -/
import Derived.Test.YthbodpjkckminaaGreatDoorm10
import Derived.Test.YthbodpjkckminaaGreatDoorm9
import Derived.Test.YthbodpjkckminaaGreatDoorm5
namespace Go.Proofs.YthbodpjkckminaaGreatDoor
open Go.RowKit
attribute [local go_sem] Oper.semAt_some

section
variable {P : Program} {ops : Array Oper} {Q : Exit → Act → World → Prop}
theorem oper_liftW {o : Oper} {a : Act} {w : World} {K : Act → World → Prop} (n : Nat) (h : o.wp P a w K Q) : o.wpIn Fence.wide n P a w K Q := by
  unfold Oper.wp at h
  refine ⟨fun _ _ => trivial, ?_⟩
  rw [show Fence.wide.round = none from rfl, Oper.semAt_none]
  generalize (execOp a.eval o).run P w = r at *
  have hn : Fence.wide.depth.isSome = true → 1 ≤ n := fun hh => by simp [Fence.wide] at hh
  cases r with
  | ok m w' =>
    cases m with
    | value v => exact h
    | skip => exact h
    | defer d => exact h
    | enter f args => exact ⟨hn, callsIn_wide.2 (h.mono fun e w'' he => by cases e <;> exact he)⟩
    | row row args => exact ⟨hn, fun c cs _ => let ⟨v, w'', r, s⟩ := h c cs; ⟨v, w'', r, stepsIn_wide.2 s⟩⟩
    | _ => exact h.elim
  | halt x w' => cases x <;> exact h
theorem wlW {o : Oper} {rest : List Oper} {a : Act} {w : World} {n : Nat} (hg : o.guard = none) (h : ∀ K : Act → World → Prop, (∀ a w, wpListIn Fence.wide n P ops Q rest a w → K a w) → o.wp P a w K Q) : wpListIn Fence.wide n P ops Q (o :: rest) a w :=
  wpListIn_plain hg fun K hK => oper_liftW n (h K hK)
theorem wlF {o : Oper} {rest : List Oper} {a : Act} {w : World} {n l : Nat} (hg : o.guard = none) (hd : noDefer o = true) (h : ∀ K : Act → World → Prop, (∀ a w, wpListIn (FR l) n P ops Q rest a w → K a w) → o.wp P a w K Q) : wpListIn (FR l) n P ops Q (o :: rest) a w :=
  wpListIn_plain hg fun K hK => oper_lift l n (noDefer_ne hd) (h K hK)
/-- loads and stores of rows, outside a round (W) and in a round (F). -/
theorem wlW_load {o : Oper} {rest : List Oper} {a : Act} {w : World} {n : Nat} (hg : o.guard = none) (ty : TypeId) (x : Operand) (ho : o.op = .load ty x) (b q : Nat) (hx : a.eval x = .pointer (some ⟨b, q, none⟩)) (cs : List Value) (d : TypeDesc) (hc : w.rangeAt b q cs)
    (hu : P.underlying ty = some d) (hd : d.isRow = true) (hi : (P.info? ty).map (·.size) = some cs.length) (h : wpListIn Fence.wide n P ops Q rest (a.put o.dst (.agg cs.toArray)) w) : wpListIn Fence.wide n P ops Q (o :: rest) a w :=
  wlW hg fun _ hK => wp_load_mid ty x ho b q hx cs d hc hu hd hi (hK _ _ h)
theorem wlF_load {o : Oper} {rest : List Oper} {a : Act} {w : World} {n l : Nat} (hg : o.guard = none) (ty : TypeId) (x : Operand) (ho : o.op = .load ty x) (b q : Nat) (hx : a.eval x = .pointer (some ⟨b, q, none⟩)) (cs : List Value) (d : TypeDesc) (hc : w.rangeAt b q cs)
    (hu : P.underlying ty = some d) (hd : d.isRow = true) (hi : (P.info? ty).map (·.size) = some cs.length) (h : wpListIn (FR l) n P ops Q rest (a.put o.dst (.agg cs.toArray)) w) : wpListIn (FR l) n P ops Q (o :: rest) a w :=
  wlF hg (by unfold noDefer; rw [ho]) fun _ hK => wp_load_mid ty x ho b q hx cs d hc hu hd hi (hK _ _ h)
theorem wlW_store {o : Oper} {rest : List Oper} {a : Act} {w : World} {n : Nat} (hg : o.guard = none) (ty : TypeId) (x y : Operand) (ho : o.op = .store ty x y) (g : Nat) (cells : Array Value) (hx : a.eval x = .pointer (some ⟨g, 0, none⟩)) (hy : a.eval y = .agg cells)
    (t : TypeId) (old : Array Value) (hgh : w.heap[g]? = some (.cells old t (0, 0))) (hi : (P.info? ty).map (·.size) = some cells.size) (hold : old.size = cells.size) (h1 : cells.all (·.oneCell') = true)
    (h : wpListIn Fence.wide n P ops Q rest (a.put o.dst undef) (w.setRow g cells)) : wpListIn Fence.wide n P ops Q (o :: rest) a w :=
  wlW hg fun _ hK => wp_store_row ty x y ho g cells hx hy t old hgh hi hold h1 (hK _ _ h)
theorem wlF_store {o : Oper} {rest : List Oper} {a : Act} {w : World} {n l : Nat} (hg : o.guard = none) (ty : TypeId) (x y : Operand) (ho : o.op = .store ty x y) (g : Nat) (cells : Array Value) (hx : a.eval x = .pointer (some ⟨g, 0, none⟩)) (hy : a.eval y = .agg cells)
    (t : TypeId) (old : Array Value) (hgh : w.heap[g]? = some (.cells old t (0, 0))) (hi : (P.info? ty).map (·.size) = some cells.size) (hold : old.size = cells.size) (h1 : cells.all (·.oneCell') = true)
    (h : wpListIn (FR l) n P ops Q rest (a.put o.dst undef) (w.setRow g cells)) : wpListIn (FR l) n P ops Q (o :: rest) a w :=
  wlF hg (by unfold noDefer; rw [ho]) fun _ hK => wp_store_row ty x y ho g cells hx hy t old hgh hi hold h1 (hK _ _ h)
end

section
variable {P : Program} {ops : Array Oper} {Q : Exit → Act → World → Prop} {md : Region.Mode} {S : World → Prop} {fuel : Nat} {listed : Array Bool} {a : Act} {w : World} {o : Oper}
/-- the store of one cell, in a drawn region walked by hand. -/
theorem hx_store1 (i : Nat) (g : Nat) (v : Value) (ho : ops[i]? = some o) (hw : Region.wanted o (yielded ops a.tmps) = true) (hd : o.dst = none) (he : (execOp a.eval o).run P w = .ok .skip (w.setCell ⟨g, 0, none⟩ v)) (hS : S (w.setCell ⟨g, 0, none⟩ v))
    (h : wpAnyH P md ops Q S fuel (listed.setIfInBounds i true) a (w.setCell ⟨g, 0, none⟩ v)) : StepH P md ops Q S fuel listed a w i := by
  refine hx_wp i ho hw ?_
  unfold Oper.wp
  rw [he, Oper.upon_skip]
  rw [hd]
  exact ⟨hS, by simpa [Act.put] using h⟩
theorem hx_storeC (i : Nat) (g j : Nat) (v : Value) (ho : ops[i]? = some o) (hw : Region.wanted o (yielded ops a.tmps) = true) (hd : o.dst = none) (he : (execOp a.eval o).run P w = .ok .skip (w.setCell ⟨g, j, none⟩ v)) (hS : S (w.setCell ⟨g, j, none⟩ v))
    (h : wpAnyH P md ops Q S fuel (listed.setIfInBounds i true) a (w.setCell ⟨g, j, none⟩ v)) : StepH P md ops Q S fuel listed a w i := by
  refine hx_wp i ho hw ?_
  unfold Oper.wp
  rw [he, Oper.upon_skip]
  rw [hd]
  exact ⟨hS, by simpa [Act.put] using h⟩
theorem cell_set {p q : Nat} {v u : Value} (h : w.cell? ⟨p, 0, none⟩ = some v) (hne : p ≠ q) : (w.setCell ⟨q, 0, none⟩ u).cell? ⟨p, 0, none⟩ = some v :=
  (World.cell?_of_block (a := ⟨p, 0, none⟩) ((gset w q 0 u).block p (by have := World.block_lt_of_cell? _ _ h; exact this) (by simpa using hne))).trans h
end
/-- what the iterator over items asks of a round: what lay below N0 lies, and whatever block holds one item. -/
structure KpI (N0 : Nat) (W W' : World) : Prop where
  low : ∀ k, k < N0 → W'.heap[k]? = W.heap[k]?
  one : ∀ (k : Nat) (cs : Array Value), W.heap[k]? = some (.cells cs 102 (0, 0)) → cs.size = 11 → W'.heap[k]? = W.heap[k]?
theorem KpI.trans_ {N0 : Nat} {X Y Z : World} (h : KpI N0 X Y) (k : KpI N0 Y Z) : KpI N0 X Z :=
  ⟨fun i hi => (k.low i hi).trans (h.low i hi), fun i cs hc hs => (k.one i cs ((h.one i cs hc hs).trans hc) hs).trans (h.one i cs hc hs)⟩
theorem KpI.put_ {N0 : Nat} {w : World} (h0 : N0 ≤ w.heap.size) (W : World) (l : Nat) (o o' : Obj) (hl : w.heap.size ≤ l) (ho : W.heap[l]? = some o) (hc : o.isCells = false) (_ : o.isWalk = false) : KpI N0 W (W.putObj l o') := by
  have hg := grownBy_putObj' W l o'
  have hlt : l < W.heap.size := (Array.getElem?_eq_some_iff.1 ho).1
  refine ⟨fun k hk => hg.block k (by omega) (by simp; omega), fun k cs hk _ => ?_⟩
  refine hg.block k (Array.getElem?_eq_some_iff.1 hk).1 (fun e => ?_)
  cases e
  rw [ho] at hk
  cases hk
  cases hc
theorem KpI.of_below {N0 : Nat} {W W' : World} (h : Below W.heap.size W W') (h0 : N0 ≤ W.heap.size) : KpI N0 W W' :=
  ⟨fun k hk => h.block k (by omega), fun k cs hk _ => h.block k (Array.getElem?_eq_some_iff.1 hk).1⟩
/-- a slice's array lies below N0. -/
def Low (N0 : Nat) (A : Option Addr) : Prop := ∀ ad, A = some ad → ad.block < N0
theorem Slb.low {α : Type} {w w' : World} {s : Nat} {enc : α → List Value} {A : Option Addr} {n N0 : Nat} {xs : List α} (h : Slb w s enc A n xs) (hl : 0 < n → Low N0 A) (hk : ∀ k, k < N0 → w'.heap[k]? = w.heap[k]?) : Slb w' s enc A n xs :=
  ⟨h.len, fun hn => by
    obtain ⟨g, o, e, hg, hc⟩ := h.rd hn
    have hb := hk g (hl hn _ e)
    have hlt : g < w'.heap.size := by
      have : ∃ x, w.heap[g]? = some x := ⟨_, Array.getElem?_eq_getElem hg⟩
      obtain ⟨x, hx⟩ := this
      rw [hx] at hb
      exact (Array.getElem?_eq_some_iff.1 hb).1
    exact ⟨g, o, e, hlt, fun i x hx j v hv => (World.cell?_of_block (a := ⟨g, o + i * s + j, none⟩) hb).trans (hc i x hx j v hv)⟩⟩
theorem Slb.lowW {α : Type} {w : World} {s : Nat} {enc : α → List Value} {A : Option Addr} {n : Nat} {xs : List α} (h : Slb w s enc A n xs) : 0 < n → Low w.heap.size A := fun hn ad e => by
  obtain ⟨g, o, e2, hg, _⟩ := h.rd hn
  rw [e2] at e; cases e; exact hg
/-- every item has one unit. -/
def One (x : It) : Prop := TxOk x ∧ unN x = 1 ∧ unE x = 0
theorem one_itZ : One itZ := ⟨by unfold TxOk itZ; decide, by unfold unN; rfl, by unfold unE; rfl⟩
theorem gIt_one {xs : List It} (h : ∀ x ∈ xs, One x) (i : Nat) : One (gIt xs i) := by
  by_cases hi : i < xs.length
  · exact h _ (gIt_mem hi)
  · unfold gIt
    rw [List.getD_eq_getElem?_getD, List.getElem?_eq_none (by omega)]
    exact one_itZ
theorem units_one (x : It) (w : World) (hx : One x) : Calls Tryz.prog 155 #[.agg (itA x)] w fun e w' => e = .returned (.tuple #[.int .i64 1, .int .i64 0]) ∧ Below w.heap.size w w' := by
  have := units_any x w hx.1
  rw [hx.2.1, hx.2.2] at this
  exact this
/-- a new variable that holds an item. -/
theorem boxed_it (w : World) (x : It) : Blk ((w.alloc (.cells itZA 102)).setRow w.heap.size (itA x)) w.heap.size 102 (itA x) ∧ Below w.heap.size w ((w.alloc (.cells itZA 102)).setRow w.heap.size (itA x)) :=
  ⟨setRow_heap _ _ _ (itA x) _ _ (newZ w), below_setRow (alloc1 w _) (Nat.le_refl _) _⟩
set_option maxRecDepth 100000 in
set_option maxHeartbeats 4000000 in
theorem items1_in (n : Nat) (l p N0 : Nat) (A : Option Addr) (m c : Nat) (xs : List It) (hn : m ≤ 1000000) (hone : ∀ x ∈ xs, One x) (J Jx : List Nat → World → Prop)
    (hY : ∀ pre x W, J pre W → pre.length < m → YieldAt Fence.wide (n - 1) Tryz.prog l #[.int .i64 (min x 1000000 : Nat), .agg (itA (gIt xs x))] W fun e W' =>
      (e = .returned (.bool true) ∧ J (pre ++ [x]) W' ∧ KpI N0 W W') ∨ (e = .returned (.bool false) ∧ Jx (pre ++ [x]) W'))
    (W : World) (hAb : _root_.Go.AbidesFrom W.heap.size J) (hA : Its W A m xs) (hLow : 0 < m → Low N0 A) (h2 : W.cell? ⟨p, 0, none⟩ = some (.slice A m c)) (h0 : J [] W) :
    CallsIn Fence.wide n Tryz.prog 182 #[.func (.yield l) #[] #[], .pointer (some ⟨p, 0, none⟩)] W fun e W' => (∃ v, e = .returned v) ∧
      ((∃ ys, ys = List.range m ∧ J ys W') ∨ (∃ pre, (∃ k, k < m ∧ pre = List.range (k + 1)) ∧ Jx pre W')) := by
  have hlen := hA.len
  refine callsIn_of_wp Tryz.func182 rfl trivial ?_ rfl
  simp only [Tryz.ntmps182, List.size_toArray, List.length_cons, List.length_nil, Nat.reduceAdd, Nat.reduceSub, Array.replicate_succ, Array.replicate_zero, List.push_toArray, List.append_toArray, List.nil_append, List.cons_append]
  gi_wp2
  gi_loopw [3, 10] (fun va vi wr => ∃ i : Nat, va = .int .i64 i ∧ vi = .int .i64 i ∧ i ≤ m ∧ J (List.range i) wr ∧ Its wr A m xs) (fun va _ _ => m - (intOf va).toNat)
  case atStart => exact ⟨0, rfl, rfl, Nat.zero_le _, h0, hA⟩
  case round =>
    obtain ⟨i, rfl, rfl, hi, hJ, hA1⟩ := hrel
    clear hA h0 h2
    by_cases hlt : i < m
    · obtain ⟨g, o, e, hg, hr⟩ := hA1.at_ itZ hlt
      have hlt' : (i : Int) < m := by omega
      rw [show xs.getD i itZ = gIt xs i from rfl] at hr
      subst e
      have hone1 := gIt_one hone i
      have hu := fun W => units_one (gIt xs i) W hone1
      have ho := itA_one (gIt xs i)
      obtain ⟨BX, hBx⟩ := boxed_it wr (gIt xs i)
      have NZ := newZ wr
      have hJ2 : J (List.range i) ((wr.alloc (.cells itZA 102)).setRow wr.heap.size (itA (gIt xs i))) := hAb _ wr _ none hJ ⟨hBx.os, hBx.tape, hBx.output, hBx.size, fun k hk _ => hBx.block k hk⟩ (fun r e => by cases e)
      have hA2 := hA1.below hBx
      have hsz := size_it
      have hwr := hBx.size
      gi_upto_region 4 with (first | (refine wlW_load rfl 102 _ rfl g (o + i * 11) rfl (itC (gIt xs i)) _ hr Tryz.underlying102 rfl hsz ?_) | (refine wlW_store rfl 102 _ _ rfl wr.heap.size (itA (gIt xs i)) rfl rfl 102 _ NZ (by kernel_rfl) rfl ho ?_))
      show Code.wpIn Fence.wide n _ _ _ _ ((wr.alloc (.cells itZA 102)).setRow wr.heap.size (itA (gIt xs i)))
      generalize (wr.alloc (.cells itZA 102)).setRow wr.heap.size (itA (gIt xs i)) = W2 at *
      have hp5 := BX.lt
      generalize wr.heap.size = p5 at *
      have hY2 := hY _ i W2 hJ2 (by simp; omega)
      rw [show min i 1000000 = i by omega] at hY2
      obtain ⟨fn, tmps, assign, body, hy, hR⟩ := hY2
      have r5 := Blk.rng BX
      clear hr NZ hY hJ
      rw [show itA (gIt xs i) = (itC (gIt xs i)).toArray from rfl] at hy
      generalize gIt xs i = x at *
      gi_wp2_with (first | (refine wlW_load rfl 102 _ rfl p5 0 rfl (itC x) _ r5 Tryz.underlying102 rfl hsz ?_))
      refine ⟨fun hh => by simp [Fence.wide] at hh, hR.mono ?_⟩
      rintro e W3 (⟨rfl, hJ3, hk3⟩ | ⟨rfl, hJx3⟩)
      · have B3 : Blk W3 p5 102 (itA x) := (hk3.one p5 _ BX rfl).trans BX
        have hA3 := hA2.low hLow hk3.low
        have r5' := Blk.rng B3
        have hw1 : IntKind.i64.wrap ((i : Int) + 1) = (i : Int) + 1 := IntWalk.i64_in _ (by omega)
        clear r5 hy hR hA2 hA1 hJ2
        gi_wp2_with (first | (refine wlW_load rfl 102 _ rfl p5 0 rfl (itC x) _ r5' Tryz.underlying102 rfl hsz ?_) | (refine ⟨trivial, ?_⟩; refine ⟨fun hh => by simp [Fence.wide] at hh, ?_⟩; refine (callsIn_wide.2 (hu _)).mono ?_; rintro e W4 ⟨rfl, hb4⟩))
        go_roundw
        case rel => exact ⟨i + 1, by simp, by simp, by omega, by rw [List.range_succ]; exact hAb _ W3 W4 none hJ3 ⟨hb4.os, hb4.tape, hb4.output, hb4.size, fun k hk _ => hb4.block k hk⟩ (fun r e => by cases e), hA3.below hb4⟩
        case measure => rw [intOf, intOf]; omega
      · gi_wp2
        refine bodyPost_ret (results_none rfl _ _ _) rfl ?_
        exact ⟨⟨_, rfl⟩, .inr ⟨_, ⟨i, hlt, rfl⟩, by rw [List.range_succ]; exact hJx3⟩⟩
    · have : i = m := by omega
      subst this
      gi_wp2
      go_end0
      exact ⟨⟨_, rfl⟩, .inl ⟨_, rfl, hJ⟩⟩
theorem items_stops (n p N0 : Nat) (A : Option Addr) (m c : Nat) (xs : List It) (w : World) (hn : m ≤ 1000000) (hone : ∀ x ∈ xs, One x) (hA : Its w A m xs) (hLow : 0 < m → Low N0 A) (h2 : w.cell? ⟨p, 0, none⟩ = some (.slice A m c)) :
    SeqStopsK Fence.wide n Tryz.prog 182 #[.pointer (some ⟨p, 0, none⟩)] (fun i : Nat => #[Value.int .i64 (min i 1000000 : Nat), .agg (itA (gIt xs i))]) (KpI N0) (fun ys => ys = List.range m) (fun pre => ∃ k, k < m ∧ pre = List.range (k + 1)) m w := fun l J Jx W hW hJ _ hY h0 =>
  items1_in n l p N0 A m c xs hn hone J Jx hY W hJ (hA.below hW) hLow (keepC hW h2) h0
/-- run.items hands back the iterator over a box of the slice. -/
theorem items_any (A : Option Addr) (m c : Nat) (w : World) :
    Calls Tryz.prog 154 #[.slice A m c] w fun e w' => e = .returned (.func (.func 182) #[] #[.pointer (some ⟨w.heap.size, 0, none⟩)]) ∧ w' = w.alloc (.cells #[.slice A m c] 54) := by
  go_enter Tryz.func154, Tryz.ntmps154
  go_wp2_with fail
  go_ret
  exact ⟨rfl, rfl⟩
theorem items_any2 (A : Option Addr) (m c : Nat) (w : World) :
    Calls Tryz.prog 154 #[.slice A m c] w fun e w' => ∃ q, e = .returned (.func (.func 182) #[] #[.pointer (some ⟨q, 0, none⟩)]) ∧ Blk w' q 54 #[.slice A m c] ∧ w.heap.size ≤ q ∧ Below w.heap.size w w' := by
  refine (items_any A m c w).mono ?_
  rintro e w' ⟨rfl, rfl⟩
  exact ⟨_, rfl, Blk.new _ _ _, Nat.le_refl _, alloc1 _ _⟩
end Go.Proofs.YthbodpjkckminaaGreatDoor

namespace Go.Proofs.YthbodpjkckminaaGreatDoor
open Go.RowKit
attribute [local go_sem] Oper.semAt_some

theorem ownFrom_blk {β : Type} (D p : Nat) (t : TypeId) (f : β → Array Value) : OwnFrom D (fun s W => Blk W p t (f s)) := fun s X Y row h hg hr => by
  refine Blk.keep h hg (fun e => ?_)
  obtain ⟨_, o, ho, hc⟩ := hr p e
  unfold Blk at h
  rw [h] at ho
  cases ho
  cases hc
theorem KpI.setc {N0 p : Nat} {t : TypeId} {cs : Array Value} {W : World} (hB : Blk W p t cs) (ht : t ≠ 102) (h0 : N0 ≤ p) (v : Value) : KpI N0 W (W.setCell ⟨p, 0, none⟩ v) :=
  ⟨fun k hk => (gset W p 0 v).block k (by have := hB.lt; omega) (by simp; omega), fun k cs' hk _ => (gset W p 0 v).block k (Array.getElem?_eq_some_iff.1 hk).1 (fun e => by
    cases e
    unfold Blk at hB
    rw [hB] at hk
    cases hk
    exact ht rfl)⟩
theorem grownB {w w' : World} {row : Option Nat} (h : Below w.heap.size w w') : w.grownBy w' row := ⟨h.os, h.tape, h.output, h.size, fun k hk _ => h.block k hk⟩
theorem others_below {W W' : World} (h : Below W.heap.size W W') : KeepsOthers W W' := KeepsOthers.of_grownBy (grownB (row := none) h) (fun j o e => by cases e)
/-- what Index answers. -/
def ixE (m : Nat) (a : Int) : Int := if a < 0 ∨ (m : Int) ≤ a then 2 else 0
def ixV (m : Nat) (a : Int) : Int := if a < 0 ∨ (m : Int) ≤ a then 0 else a
theorem lenV_one {xs : List It} (h : ∀ x ∈ xs, One x) : lenV xs = xs.length ∧ lenE xs = 0 := by
  have ho : okI xs = true := okI_true fun t ht => (h _ (gIt_mem ht)).2.2
  have hl : ∀ ys : List It, (∀ x ∈ ys, One x) → lenN ys = ys.length := by
    intro ys
    induction ys with
    | nil => intro _; rfl
    | cons y ys ih =>
      intro hy
      unfold lenN at *
      rw [List.map_cons, List.sum_cons, ih (fun x hx => hy x (List.mem_cons_of_mem _ hx)), (hy y (List.mem_cons_self ..)).2.1, List.length_cons]
      omega
  exact ⟨by unfold lenV; rw [if_pos ho]; exact hl xs h, by unfold lenE; rw [if_pos ho]⟩
theorem len_one (A : Option Addr) (n c : Nat) (xs : List It) (w : World) (ha : Its w A n xs) (hn : n ≤ 1000000) (ht : ∀ x ∈ xs, One x) :
    Calls Tryz.prog 142 #[.slice A n c] w fun e w' => e = .returned (.tuple #[.int .i64 (n : Nat), .int .i64 0]) ∧ Below w.heap.size w w' := by
  have := len_any A n c xs w ha hn (fun x hx => (ht x hx).1)
  rw [(lenV_one ht).1, (lenV_one ht).2, ha.len] at this
  exact this
/-- Index's variables. -/
structure IxB (w wx : World) (p3 p4 p5 p6 : Nat) (a x y e : Int) : Prop where
  b3 : Blk wx p3 3 #[.int .i64 a]
  b4 : Blk wx p4 3 #[.int .i64 x]
  b5 : Blk wx p5 3 #[.int .i64 y]
  b6 : Blk wx p6 31 #[.int .i64 e]
  l3 : w.heap.size ≤ p3
  l4 : p3 < p4
  l5 : p4 < p5
  l6 : p5 < p6
  bel : Below w.heap.size w wx
theorem IxB.below {w wx wy : World} {p3 p4 p5 p6 : Nat} {a x y e : Int} (h : IxB w wx p3 p4 p5 p6 a x y e) (hb : Below wx.heap.size wx wy) : IxB w wy p3 p4 p5 p6 a x y e :=
  ⟨h.b3.below hb, h.b4.below hb, h.b5.below hb, h.b6.below hb, h.l3, h.l4, h.l5, h.l6, below_trans' h.bel h.bel.size hb⟩
theorem IxB.s4 {w wx : World} {p3 p4 p5 p6 : Nat} {a x y e : Int} (h : IxB w wx p3 p4 p5 p6 a x y e) (v : Int) : IxB w (wx.setCell ⟨p4, 0, none⟩ (.int .i64 v)) p3 p4 p5 p6 a v y e :=
  ⟨h.b3.keep (gset _ _ _ _) (by have := h.l4; simp; omega), h.b4.set_ 0 _, h.b5.keep (gset _ _ _ _) (by have := h.l5; simp; omega), h.b6.keep (gset _ _ _ _) (by have := h.l5; have := h.l6; simp; omega), h.l3, h.l4, h.l5, h.l6, h.bel.setCell (p := ⟨p4, 0, none⟩) (by have := h.l3; have := h.l4; show _ ≤ p4; omega) _⟩
theorem IxB.s5 {w wx : World} {p3 p4 p5 p6 : Nat} {a x y e : Int} (h : IxB w wx p3 p4 p5 p6 a x y e) (v : Int) : IxB w (wx.setCell ⟨p5, 0, none⟩ (.int .i64 v)) p3 p4 p5 p6 a x v e :=
  ⟨h.b3.keep (gset _ _ _ _) (by have := h.l4; have := h.l5; simp; omega), h.b4.keep (gset _ _ _ _) (by have := h.l5; simp; omega), h.b5.set_ 0 _, h.b6.keep (gset _ _ _ _) (by have := h.l6; simp; omega), h.l3, h.l4, h.l5, h.l6, h.bel.setCell (p := ⟨p5, 0, none⟩) (by have := h.l3; have := h.l4; have := h.l5; show _ ≤ p5; omega) _⟩
theorem IxB.s6 {w wx : World} {p3 p4 p5 p6 : Nat} {a x y e : Int} (h : IxB w wx p3 p4 p5 p6 a x y e) (v : Int) : IxB w (wx.setCell ⟨p6, 0, none⟩ (.int .i64 v)) p3 p4 p5 p6 a x y v :=
  ⟨h.b3.keep (gset _ _ _ _) (by have := h.l4; have := h.l5; have := h.l6; simp; omega), h.b4.keep (gset _ _ _ _) (by have := h.l5; have := h.l6; simp; omega), h.b5.keep (gset _ _ _ _) (by have := h.l6; simp; omega), h.b6.set_ 0 _, h.l3, h.l4, h.l5, h.l6, h.bel.setCell (p := ⟨p6, 0, none⟩) (by have := h.l3; have := h.l4; have := h.l5; have := h.l6; show _ ≤ p6; omega) _⟩
theorem IxB.own {β : Type} {w : World} {D p3 p4 p5 p6 : Nat} {a x y e : Int} (hD : w.heap.size ≤ D) : OwnFrom D (fun (_ : β) W => IxB w W p3 p4 p5 p6 a x y e) := fun s X Y row h hg hr =>
  ⟨ownFrom_blk D p3 _ (fun _ => _) s X Y row h.b3 hg hr, ownFrom_blk D p4 _ (fun _ => _) s X Y row h.b4 hg hr, ownFrom_blk D p5 _ (fun _ => _) s X Y row h.b5 hg hr, ownFrom_blk D p6 _ (fun _ => _) s X Y row h.b6 hg hr, h.l3, h.l4, h.l5, h.l6, h.bel.grown hg h.bel.size (fun k e => Nat.le_trans hD (hr k e).1)⟩
def IxI (w : World) (p3 p4 p5 p6 p8 : Nat) (a : Int) (pre : List Nat) (W : World) : Prop := IxB w W p3 p4 p5 p6 a 0 0 0 ∧ Blk W p8 3 #[.int .i64 (pre.length : Nat)] ∧ (∀ y ∈ pre, (min y 1000000 : Nat) + 1 ≤ a)
def IxX (w : World) (p3 p4 p5 p6 : Nat) (a : Int) (c : Code) (pre : List Nat) (W : World) : Prop := c = .ret ∧ ∃ y pre0, pre = pre0 ++ [y] ∧ a < (min y 1000000 : Nat) + 1 ∧ (∀ z ∈ pre0, (min z 1000000 : Nat) + 1 ≤ a) ∧ IxB w W p3 p4 p5 p6 a (pre0.length : Nat) (a - (min y 1000000 : Nat)) 0
theorem results_ix (tmps : Array Value) (w w0 : World) (p3 p4 p5 p6 : Nat) (a x y e : Int) (h : IxB w0 w p3 p4 p5 p6 a x y e) (h4 : tmps.getD 4 undef = .pointer (some ⟨p4, 0, none⟩)) (h5 : tmps.getD 5 undef = .pointer (some ⟨p5, 0, none⟩)) (h6 : tmps.getD 6 undef = .pointer (some ⟨p6, 0, none⟩)) :
    (results Tryz.f125 tmps).run Tryz.prog w = .ok (.tuple #[.int .i64 x, .int .i64 y, .int .i64 e]) w := by
  have q4 := h.b4.cell 0 rfl
  have q5 := h.b5.cell 0 rfl
  have q6 := h.b6.cell 0 rfl
  have h4' : tmps[4]?.getD undef = .pointer (some ⟨p4, 0, none⟩) := by simpa using h4
  have h5' : tmps[5]?.getD undef = .pointer (some ⟨p5, 0, none⟩) := by simpa using h5
  have h6' : tmps[6]?.getD undef = .pointer (some ⟨p6, 0, none⟩) := by simpa using h6
  simp [results, h4', h5', h6', asAddr, go_sem, q4, q5, q6]
set_option maxRecDepth 100000 in
set_option maxHeartbeats 8000000 in
theorem index_any (A : Option Addr) (m c : Nat) (xs : List It) (a : Int) (w : World) (ha : Its w A m xs) (hn : m ≤ 1000000) (ht : ∀ x ∈ xs, One x) :
    Calls Tryz.prog 125 #[.slice A m c, .int .i64 a] w fun e w' => e = .returned (.tuple #[.int .i64 (ixV m a), .int .i64 0, .int .i64 (ixE m a)]) ∧ Below w.heap.size w w' := by
  have hlen := Lib.hid (fun W (h : Its W A m xs) => len_one A m c xs W h hn ht)
  have hLow := Lib.hid ha.lowW
  have HV := Lib.hid (show ixV m a = if a < 0 ∨ (m : Int) ≤ a then 0 else a from rfl)
  have HE := Lib.hid (show ixE m a = if a < 0 ∨ (m : Int) ≤ a then 2 else 0 from rfl)
  refine (callsIn_wide (n := 8)).1 ?_
  refine callsIn_of_wp_marks Tryz.func125 rfl trivial ?_ rfl
  simp only [Tryz.ntmps125, List.size_toArray, List.length_cons, List.length_nil, Nat.reduceAdd, Nat.reduceSub, Array.replicate_succ, Array.replicate_zero, List.push_toArray, List.append_toArray, List.nil_append, List.cons_append]
  gi_upto_region 0 with fail
  gi_cut [3, 4, 5, 6] from 50 (fun v3 v4 v5 v6 wx => ∃ p3 p4 p5 p6, v3 = .pointer (some ⟨p3, 0, none⟩) ∧ v4 = .pointer (some ⟨p4, 0, none⟩) ∧ v5 = .pointer (some ⟨p5, 0, none⟩) ∧ v6 = .pointer (some ⟨p6, 0, none⟩) ∧ IxB w wx p3 p4 p5 p6 a 0 0 0)
  case first =>
    have B3 := Blk.new w 3 #[.int .i64 a]
    have B4 := Blk.new (w.alloc (.cells #[.int .i64 a] 3)) 3 #[.int .i64 0]
    have B5 := Blk.new ((w.alloc (.cells #[.int .i64 a] 3)).alloc (.cells #[.int .i64 0] 3)) 3 #[.int .i64 0]
    have B6 := Blk.new (((w.alloc (.cells #[.int .i64 a] 3)).alloc (.cells #[.int .i64 0] 3)).alloc (.cells #[.int .i64 0] 3)) 31 #[.int .i64 0]
    have hb := ((((Below.refl w.heap.size w).alloc (Nat.le_refl _) (.cells #[.int .i64 a] 3)).alloc (by simp) (.cells #[.int .i64 0] 3)).alloc (by simp; omega) (.cells #[.int .i64 0] 3)).alloc (by simp; omega) (.cells #[.int .i64 0] 31)
    have HX : IxB w ((((w.alloc (.cells #[.int .i64 a] 3)).alloc (.cells #[.int .i64 0] 3)).alloc (.cells #[.int .i64 0] 3)).alloc (.cells #[.int .i64 0] 31)) w.heap.size (w.heap.size + 1) (w.heap.size + 1 + 1) (w.heap.size + 1 + 1 + 1) a 0 0 0 :=
      ⟨((B3.alloc _).alloc _).alloc _, by have := (B4.alloc (.cells #[.int .i64 0] 3)).alloc (.cells #[.int .i64 0] 31); simpa using this, by have := B5.alloc (.cells #[.int .i64 0] 31); simpa using this, by simpa using B6, Nat.le_refl _, by omega, by omega, by omega, hb⟩
    have HX := Lib.hid HX
    clear B3 B4 B5 B6 hb
    gi_wp2
    gi_meet
    case rel => exact ⟨_, _, _, _, rfl, rfl, rfl, rfl, HX.out⟩
  case rest =>
  obtain ⟨p3, p4, p5, p6, rfl, rfl, rfl, rfl, X0⟩ := hcut
  have q6 := X0.b6.cell 0 rfl
  have f6 := X0.b6.frozen 0
  gi_upto_region 4 with (refine ⟨trivial, ?_⟩; gi_at_call 142; refine (callsIn_wide.2 (hlen.out _ (ha.below X0.bel))).mono ?_; rintro e w1 ⟨rfl, hb1⟩; have X1 := X0.below hb1; have q6 := X1.b6.cell 0 rfl; have f6 := X1.b6.frozen 0)
  have X2 := X1.s6 0
  generalize w1.setCell ⟨p6, 0, none⟩ (.int .i64 0) = w2 at *
  clear X0 X1 hb1 q6 f6
  have q3 := X2.b3.cell 0 rfl
  have q4 := X2.b4.cell 0 rfl
  have q5 := X2.b5.cell 0 rfl
  have q6 := X2.b6.cell 0 rfl
  have f4 := X2.b4.frozen 0
  have f5 := X2.b5.frozen 0
  have f6 := X2.b6.frozen 0
  have g4 := (X2.s4 0)
  have c5 := g4.b5.cell 0 rfl
  have d5 := g4.b5.frozen 0
  have g5 := g4.s5 0
  have c6 := g5.b6.cell 0 rfl
  have d6 := g5.b6.frozen 0
  have g6 := Lib.hid (g5.s6 2)
  by_cases h1 : a < 0
  · have HV2 := Lib.hid (HV.out.trans (if_pos (.inl h1)))
    have HE2 := Lib.hid (HE.out.trans (if_pos (.inl h1)))
    gi_wp2
    exact ⟨_, results_ix _ _ _ _ _ _ _ _ _ _ _ g6.out rfl rfl rfl, by rw [HV2.out, HE2.out], g6.out.bel⟩
  by_cases h2 : (m : Int) ≤ a
  · have HV2 := Lib.hid (HV.out.trans (if_pos (.inr h2)))
    have HE2 := Lib.hid (HE.out.trans (if_pos (.inr h2)))
    gi_wp2
    exact ⟨_, results_ix _ _ _ _ _ _ _ _ _ _ _ g6.out rfl rfl rfl, by rw [HV2.out, HE2.out], g6.out.bel⟩
  have HV2 := Lib.hid (HV.out.trans (if_neg (by omega)))
  have HE2 := Lib.hid (HE.out.trans (if_neg (by omega)))
  clear HV HE g6 c6 d6 g5 c5 d5 g4 f4 f5 f6
  have N8 := Blk.new w2 3 #[.int .i64 0]
  have hb3 := alloc1 w2 (.cells #[.int .i64 0] 3)
  have X3 := X2.below hb3
  have hp8 : p6 < w2.heap.size := X2.b6.lt
  gi_upto_region 7 with fail
  generalize w2.alloc (.cells #[.int .i64 0] 3) = w3 at *
  generalize w2.heap.size = p8 at *
  clear X2 hb3 q3 q4 q5 q6
  gi_wp2_with (refine ⟨trivial, ?_⟩; gi_at_call 154; refine (callsIn_wide.2 (items_any2 A m c _)).mono ?_; rintro e w4 ⟨pq, rfl, Nq, hpq, hb4⟩)
  have X4 := X3.below hb4
  have N8 := N8.below hb4
  clear X3
  have hA4 := ha.below X4.bel
  have hsz4 := X4.bel.size
  refine wpIn_rangeFunc_ownH rfl (by omega) (gf := 182) (lb := #[.pointer (some ⟨pq, 0, none⟩)]) rfl trivial (enters_of Tryz.func182 (by kernel_rfl) rfl)
    (items_stops _ pq w.heap.size A m c xs w4 hn ht hA4 hLow.out (Nq.cell 0 rfl)) KpI.trans_ (KpI.put_ hsz4) (Below.refl _ _) (fun _ => rfl)
    (IxI w p3 p4 p5 p6 p8 a) (IxX w p3 p4 p5 p6 a) ((IxB.own hsz4).and ((ownFrom_blk _ _ _ (fun pre : List Nat => #[.int .i64 (pre.length : Nat)])).and (ownFrom_pure _ _)))
    (fun _ => fun pre X Y row h hg hr => by
      obtain ⟨h1, y, pre0, h2, h3, h4, h5⟩ := h
      exact ⟨h1, y, pre0, h2, h3, h4, IxB.own hsz4 pre X Y row h5 hg hr⟩)
    ⟨X4, N8, fun y hy => absurd hy List.not_mem_nil⟩
    (fun y a' W => ∃ q, Blk W q 102 (itA (gIt xs y)) ∧ a' = { tmps := #[.slice A m c, .int .i64 a, undef, .pointer (some ⟨p3, 0, none⟩), .pointer (some ⟨p4, 0, none⟩), .pointer (some ⟨p5, 0, none⟩), .pointer (some ⟨p6, 0, none⟩), .int .i64 (m : Nat), .pointer (some ⟨p8, 0, none⟩), .int .i64 (min y 1000000 : Nat), .pointer (some ⟨q, 0, none⟩), undef, undef, .tuple #[.int .i64 (m : Nat), .int .i64 0], .slice A m c, .tuple #[.int .i64 (m : Nat), .int .i64 0], .int .i64 (m : Nat), .int .i64 0, .bool false, .int .i64 0, .bool false, undef, .bool false, .int .i64 a, .bool false, .bool false, .int .i64 a, .int .i64 (m : Nat), .bool false, .bool false, .slice A m c, .func (.func 182) #[] #[.pointer (some ⟨pq, 0, none⟩)], .int .i64 (min y 1000000 : Nat), .agg (itA (gIt xs y)), undef, undef, undef, undef, undef, undef, undef, undef, undef, undef, undef, undef, undef, undef, undef, undef], defers := [] })
    (fun y a' => fun _ X Y row h hg hr => by
      obtain ⟨q, h1, h2⟩ := h
      exact ⟨q, ownFrom_blk _ q _ (fun _ : Unit => _) () X Y row h1 hg hr, h2⟩) ?assign ?body ?done ?stop
  case assign =>
    intro l pre y W K hI hK
    have NZ := newZ W
    have ho := itA_one (gIt xs y)
    obtain ⟨BX, hBx⟩ := boxed_it W (gIt xs y)
    have hI2 : IxI w p3 p4 p5 p6 p8 a pre ((W.alloc (.cells itZA 102)).setRow W.heap.size (itA (gIt xs y))) := ⟨hI.1.below hBx, hI.2.1.below hBx, hI.2.2⟩
    have hk1 := (others_below hBx).from w4.heap.size
    have hk2 : KpI w.heap.size W _ := KpI.of_below hBx hI.1.bel.size
    have HK := Lib.hid (fun a' => hK a' _ hk1 hk2 hI2)
    clear hK hk1 hk2 hI2
    gi_wp2_with (refine wlF_store rfl 102 _ _ rfl W.heap.size (itA (gIt xs y)) rfl rfl 102 _ NZ (by kernel_rfl) rfl ho ?_)
    exact HK.out _ ⟨_, BX, rfl⟩
  case body =>
    rintro l pre y a' W hl _ ⟨X5, N5, hpre⟩ ⟨q, Bq, rfl⟩ hlt
    have HP := Lib.hid hpre
    have rq := Blk.rng Bq
    have hsz := size_it
    have hu := fun W => units_one (gIt xs y) W (gIt_one ht y)
    have hb0 : w.heap.size ≤ W.heap.size := X5.bel.size
    clear hpre X4 N8 Nq hb4 hA4 hlen hpq
    rw [show itA (gIt xs y) = (itC (gIt xs y)).toArray from rfl] at hu
    rw [show itA (gIt xs y) = (itC (gIt xs y)).toArray from rfl]
    generalize gIt xs y = x at *
    gi_upto_region 11 with (first | (refine wlF_load rfl 102 _ rfl q 0 rfl (itC x) _ rq Tryz.underlying102 rfl hsz ?_) | (refine ⟨trivial, ?_⟩; gi_at_call 155; refine (CallsIn.inRound l (callsIn_wide.2 (hu _))).mono ?_; rintro e w5 ⟨rfl, hb5⟩))
    have X6 := X5.below hb5
    have N6 := N5.below hb5
    obtain ⟨f, hf⟩ : ∃ f : Nat, min y 1000000 = f := ⟨_, rfl⟩
    have hf1 : f ≤ 1000000 := by omega
    have hf2 : 0 ≤ a := by omega
    have HF := Lib.hid hf
    rw [hf]
    have q3 := X6.b3.cell 0 rfl
    have q4 := X6.b4.cell 0 rfl
    have q5 := X6.b5.cell 0 rfl
    have q6 := X6.b6.cell 0 rfl
    have q8 := N6.cell 0 rfl
    have f4 := X6.b4.frozen 0
    have f5 := X6.b5.frozen 0
    have f6 := X6.b6.frozen 0
    have f8 := N6.frozen 0
    have hw1 : IntKind.i64.wrap ((f : Int) + 1) = (f : Int) + 1 := IntWalk.i64_in _ (by omega)
    clear hf rq hu X5 N5 Bq
    by_cases hc : a < (f : Int) + 1
    · have hw2 : IntKind.i64.wrap (a - (f : Int)) = a - (f : Int) := IntWalk.i64_in _ (by omega)
      have n38 : p3 ≠ p4 ∧ p3 ≠ p5 ∧ p3 ≠ p6 := by have := X6.l4; have := X6.l5; have := X6.l6; omega
      have n8 : p8 ≠ p4 ∧ p8 ≠ p5 ∧ p8 ≠ p6 := by have := X6.l5; have := X6.l6; omega
      have g0 : IxB w w5.drew p3 p4 p5 p6 a 0 0 0 := ⟨X6.b3, X6.b4, X6.b5, X6.b6, X6.l3, X6.l4, X6.l5, X6.l6, bDrew X6.bel⟩
      have g4 := g0.s4 (pre.length : Nat)
      have c5 := g4.b5.cell 0 rfl
      have d5 := g4.b5.frozen 0
      have g5 := g4.s5 (a - (f : Int))
      have c6 := g5.b6.cell 0 rfl
      have d6 := g5.b6.frozen 0
      have g6 := g5.s6 0
      have q8 : w5.drew.cell? ⟨p8, 0, none⟩ = some (.int .i64 (pre.length : Nat)) := q8
      have q3 : w5.drew.cell? ⟨p3, 0, none⟩ = some (.int .i64 a) := q3
      have q4 : w5.drew.cell? ⟨p4, 0, none⟩ = some (.int .i64 0) := q4
      have f4 : w5.drew.frozen? ⟨p4, 0, none⟩ = false := f4
      have hS0 : w5.drew.cell? ⟨p8, 0, none⟩ = some (.int .i64 (pre.length : Nat)) ∧ w5.drew.cell? ⟨p3, 0, none⟩ = some (.int .i64 a) := ⟨q8, q3⟩
      have hS1 := And.intro (cell_set (u := .int .i64 (pre.length : Nat)) q8 n8.1) (cell_set (u := .int .i64 (pre.length : Nat)) q3 n38.1)
      have hS2 := And.intro (cell_set (u := .int .i64 (a - (f : Int))) hS1.1 n8.2.1) (cell_set (u := .int .i64 (a - (f : Int))) hS1.2 n38.2.1)
      have hS3 := And.intro (cell_set (u := .int .i64 0) hS2.1 n8.2.2) (cell_set (u := .int .i64 0) hS2.2 n38.2.2)
      have hko : KeepsOthers W (((w5.drew.setCell ⟨p4, 0, none⟩ (.int .i64 (pre.length : Nat))).setCell ⟨p5, 0, none⟩ (.int .i64 (a - (f : Int)))).setCell ⟨p6, 0, none⟩ (.int .i64 0)) := (((others_below (bDrew hb5)).trans (KeepsOthers.setCell _ _ _)).trans (KeepsOthers.setCell _ _ _)).trans (KeepsOthers.setCell _ _ _)
      have HKO := Lib.hid (hko.from w4.heap.size)
      have HG6 := Lib.hid g6
      clear hko g6 g4 g5 g0 X6 N6
      gi_upto_region 12 with fail
      refine wpIn_region_hand (S := fun w' => w'.cell? ⟨p8, 0, none⟩ = some (.int .i64 (pre.length : Nat)) ∧ w'.cell? ⟨p3, 0, none⟩ = some (.int .i64 a)) l _ (by kernel_rfl) (by kernel_rfl) hS0 (fun hHeld => ?_)
      generalize w5.drew = wd at *
      refine hx_take 0 (some 44) (.int .i64 (pre.length : Nat)) rfl (by kernel_rfl) (by kernel_rfl) (by kernel_rfl) (fun _ _ _ h => by cases h.1) rfl (Or.inl ⟨by rfl, fun w hSw => by first | (go_simp; done) | (go_simp; with_reducible rfl) | (go_simp; rfl)⟩) (by assumption) ?_
      try simp only [Act.put, List.setIfInBounds_toArray, List.set_cons_zero, List.set_cons_succ]
      refine hx_take 1 (some 45) (.int .i64 a) rfl (by kernel_rfl) (by kernel_rfl) (by kernel_rfl) (fun _ _ _ h => by cases h.1) rfl (Or.inl ⟨by rfl, fun w hSw => by first | (go_simp; done) | (go_simp; with_reducible rfl) | (go_simp; rfl)⟩) (by assumption) ?_
      try simp only [Act.put, List.setIfInBounds_toArray, List.set_cons_zero, List.set_cons_succ]
      refine hx_take 2 (some 46) _ rfl (by kernel_rfl) (by kernel_rfl) (by kernel_rfl) (fun _ _ _ h => by cases h.1) rfl (Or.inl ⟨by rfl, fun w hSw => by first | (go_simp; done) | (go_simp; with_reducible rfl) | (go_simp; rfl)⟩) (by assumption) ?_
      try simp only [Act.put, List.setIfInBounds_toArray, List.set_cons_zero, List.set_cons_succ]
      refine hx_take 3 (some 47) (.int .i64 (a - (f : Int))) rfl (by kernel_rfl) (by kernel_rfl) (by kernel_rfl) (fun _ _ _ h => by cases h.1) rfl (Or.inl ⟨by rfl, fun w hSw => by first | (go_simp; done) | (go_simp; with_reducible rfl) | (go_simp; rfl)⟩) (by assumption) ?_
      try simp only [Act.put, List.setIfInBounds_toArray, List.set_cons_zero, List.set_cons_succ]
      refine hx1 4 (by kernel_rfl) ?_
      refine hx_store1 4 p4 (.int .i64 (pre.length : Nat)) rfl (by rfl) rfl (by go_simp) hS1 ?_
      refine hx1 5 (by kernel_rfl) ?_
      refine hx_store1 5 p5 (.int .i64 (a - (f : Int))) rfl (by rfl) rfl (by go_simp) hS2 ?_
      refine hx1 6 (by kernel_rfl) ?_
      refine hx_store1 6 p6 (.int .i64 0) rfl (by rfl) rfl (by go_simp) hS3 ?_
      refine wpAnyH_done (by kernel_rfl) ?_ _
      generalize ((wd.setCell ⟨p4, 0, none⟩ (.int .i64 (pre.length : Nat))).setCell ⟨p5, 0, none⟩ (.int .i64 (a - (f : Int)))).setCell ⟨p6, 0, none⟩ (.int .i64 0) = w9 at *
      refine ⟨rfl, ?_⟩
      gi_wp2
      exact ⟨HKO.out, rfl, y, pre, rfl, by rw [HF.out]; exact hc, HP.out, by rw [HF.out]; exact HG6.out⟩
    · have hw3 : IntKind.i64.wrap ((pre.length : Int) + 1) = (pre.length : Int) + 1 := IntWalk.i64_in _ (by omega)
      have hX : IxB w (w5.setCell ⟨p8, 0, none⟩ (.int .i64 ((pre.length : Int) + 1))) p3 p4 p5 p6 a 0 0 0 := ⟨X6.b3.keep (gset _ _ _ _) (by have := X6.l4; have := X6.l5; have := X6.l6; simp; omega), X6.b4.keep (gset _ _ _ _) (by have := X6.l5; have := X6.l6; simp; omega), X6.b5.keep (gset _ _ _ _) (by have := X6.l6; simp; omega), X6.b6.keep (gset _ _ _ _) (by simp; omega), X6.l3, X6.l4, X6.l5, X6.l6, X6.bel.setCell (p := ⟨p8, 0, none⟩) (by have := X6.l3; have := X6.l4; have := X6.l5; have := X6.l6; show _ ≤ p8; omega) _⟩
      have hN : Blk (w5.setCell ⟨p8, 0, none⟩ (.int .i64 ((pre.length : Int) + 1))) p8 3 #[.int .i64 ((pre ++ [y]).length : Nat)] := by
        rw [show (((pre ++ [y]).length : Nat) : Int) = (pre.length : Int) + 1 by simp]
        exact N6.set_ 0 _
      have hko := (((others_below hb5).trans (KeepsOthers.setCell w5 ⟨p8, 0, none⟩ (.int .i64 ((pre.length : Int) + 1)))).from w4.heap.size)
      have hkp : KpI w.heap.size W (w5.setCell ⟨p8, 0, none⟩ (.int .i64 ((pre.length : Int) + 1))) := (KpI.of_below hb5 hb0).trans_ (KpI.setc N6 (by decide) (by have := X6.l3; have := X6.l4; have := X6.l5; have := X6.l6; omega) _)
      have HX := Lib.hid (And.intro hko (And.intro hkp (And.intro hX hN)))
      clear hX hN hko hkp
      gi_wp2
      exact ⟨HX.out.1, HX.out.2.1, HX.out.2.2.1, HX.out.2.2.2, fun z hz => by
        rcases List.mem_append.1 hz with h | h
        · exact HP.out z h
        · rw [List.mem_singleton.1 h, HF.out]; omega⟩
  case done =>
    rintro D ys W hD rfl ⟨_, _, h3⟩ _
    have := h3 (a.toNat) (by rw [List.mem_range]; omega)
    omega
  case stop =>
    rintro D c pre W hD ⟨k, hk, rfl⟩ ⟨rfl, y, pre0, e, h1, h2, h3⟩ hK
    rw [List.range_succ] at e
    obtain ⟨e1, e2⟩ := List.append_inj' e rfl
    injection e2 with e2
    subst e1 e2
    have hka : a = k := by
      rcases Int.lt_or_le a (k : Int) with h | h
      · have := h2 a.toNat (by rw [List.mem_range]; omega)
        omega
      · omega
    have hBD := belowK_b (w := w) (Nat.le_refl _) W D _ (.deferred none) (by omega) hK rfl rfl
    have X9 : IxB w (W.putObj D (.deferred none)) p3 p4 p5 p6 a (List.range k).length (a - (min k 1000000 : Nat)) 0 := IxB.own (β := Unit) hsz4 () W _ (some D) h3 (grownBy_putObj' W D _) (fun r e => by cases e; exact ⟨hD, _, hK, rfl⟩)
    gi_wp2
    refine ⟨by simp, .inl ⟨_, _, rfl, run_takeDeferred hK, ?_⟩⟩
    refine ⟨_, results_ix _ _ _ _ _ _ _ _ _ _ _ X9 rfl rfl rfl, ?_, X9.bel⟩
    have HV3 := HV2.out
    have HE3 := HE2.out
    rw [hka] at HV3 HE3
    rw [HV3, HE3, List.length_range, show min k 1000000 = k by omega, hka, Int.sub_self]
end Go.Proofs.YthbodpjkckminaaGreatDoor

namespace Go.Proofs.YthbodpjkckminaaGreatDoor
open Go.RowKit

def chkM (es : List LsE) (m : Mk) : Int := if m.list = 0 then (if m.level = 0 ∧ m.restart = 0 then 0 else 15) else if m.list ∈ idsL es then mkE (gE es ((idsL es).idxOf m.list)).n m.level m.restart else 26
def chkE (es : List LsE) : List Mk → Int
  | [] => 0
  | m :: t => if chkM es m = 0 then chkE es t else chkM es m
theorem chkE_drop (es : List LsE) (ms : List Mk) {i : Nat} (h : i < ms.length) : chkE es (ms.drop i) = if chkM es (gM ms i) = 0 then chkE es (ms.drop (i + 1)) else chkM es (gM ms i) := by
  have e : ms.drop i = gM ms i :: ms.drop (i + 1) := by
    rw [List.drop_eq_getElem_cons h]
    unfold gM
    rw [List.getD_eq_getElem?_getD, List.getElem?_eq_getElem h]; rfl
  rw [e]; rfl
theorem chkE_ok {es : List LsE} {ms : List Mk} (h : chkE es ms = 0) : ∀ m ∈ ms, chkM es m = 0 := by
  induction ms with
  | nil => intro m hm; simp at hm
  | cons x t ih =>
    unfold chkE at h
    by_cases e : chkM es x = 0
    · rw [if_pos e] at h
      intro m hm
      rcases List.mem_cons.1 hm with rfl | hm
      · exact e
      · exact ih h m hm
    · rw [if_neg e] at h; exact absurd h e
/-- ids that go up. -/
def Up (zs : List Int) : Prop := zs.Pairwise (· < ·)
theorem Up.le {zs : List Int} (h : Up zs) : zs.Pairwise (· ≤ ·) := h.imp (fun h => by omega)
theorem Up.ix {zs : List Int} {x : Int} (h : Up zs) (hm : x ∈ zs) : ixF zs x = zs.idxOf x := by
  unfold ixF
  induction zs with
  | nil => simp at hm
  | cons z t ih =>
    have h := List.pairwise_cons.1 h
    by_cases e : z = x
    · subst e
      rw [List.idxOf_cons_self, List.countP_cons_of_neg (by simp)]
      rw [List.countP_eq_zero]
      intro a ha
      have := h.1 a ha
      simp; omega
    · rw [show (z :: t).idxOf x = t.idxOf x + 1 by rw [List.idxOf_cons, beq_eq_false_iff_ne.2 e]; rfl]
      have hm : x ∈ t := by rcases List.mem_cons.1 hm with h2 | h2; exact absurd h2.symm e; exact h2
      have := h.1 x hm
      rw [List.countP_cons_of_pos (by simp; omega), ih h.2 hm]
theorem contains_mem {zs : List Int} {x : Int} : zs.contains x = decide (x ∈ zs) := by
  rw [Bool.eq_iff_iff]; simp
end Go.Proofs.YthbodpjkckminaaGreatDoor

namespace Go.Proofs.YthbodpjkckminaaGreatDoor
open Go.RowKit

theorem mkE_two {n : Nat} {a b : Int} (h : a < 1 ∨ (n : Int) < a) : mkE n a b = 2 := if_pos h
theorem mkE_five {n : Nat} {a b : Int} (h : ¬ (a < 1 ∨ (n : Int) < a)) (h2 : b < 0 ∨ 32767 < b) : mkE n a b = 5 := (if_neg h).trans (if_pos h2)
theorem mkE_zero {n : Nat} {a b : Int} (h : ¬ (a < 1 ∨ (n : Int) < a)) (h2 : ¬ (b < 0 ∨ 32767 < b)) : mkE n a b = 0 := (if_neg h).trans (if_neg h2)
end Go.Proofs.YthbodpjkckminaaGreatDoor

namespace Go.Proofs.YthbodpjkckminaaGreatDoor
open Go.RowKit

def lstE : Int → List (Int × List Lv) → Int
  | _, [] => 0
  | last, x :: t => if x.1 ≤ last then 26 else if clE x.2 ≠ 0 then clE x.2 else lstE x.1 t
def prL (es : List LsE) (vs : List (List Lv)) : List (Int × List Lv) := (idsL es).zip vs
theorem lstE_ok {P : List (Int × List Lv)} {last : Int} (h : lstE last P = 0) : (∀ x ∈ P, last < x.1) ∧ Up (P.map (·.1)) ∧ ∀ x ∈ P, clE x.2 = 0 := by
  induction P generalizing last with
  | nil => exact ⟨fun x hx => by simp at hx, List.Pairwise.nil, fun x hx => by simp at hx⟩
  | cons y t ih =>
    unfold lstE at h
    by_cases h1 : y.1 ≤ last
    · rw [if_pos h1] at h; exact absurd h (by omega)
    rw [if_neg h1] at h
    by_cases h2 : clE y.2 ≠ 0
    · rw [if_pos h2] at h; exact absurd h h2
    rw [if_neg h2] at h
    obtain ⟨a, b, c⟩ := ih h
    refine ⟨fun x hx => ?_, ?_, fun x hx => ?_⟩
    · rcases List.mem_cons.1 hx with rfl | hx
      · omega
      · have := a x hx; omega
    · refine List.pairwise_cons.2 ⟨fun z hz => ?_, b⟩
      obtain ⟨x, hx, rfl⟩ := List.mem_map.1 hz
      exact a x hx
    · rcases List.mem_cons.1 hx with rfl | hx
      · exact Decidable.not_not.1 h2
      · exact c x hx
theorem prL_at {es : List LsE} {vs : List (List Lv)} {n : Nat} (hl : es.length = n) (hv : vs.length = n) {i : Nat} (h : i < n) : (prL es vs).drop i = ((gE es i).id, vs.getD i []) :: (prL es vs).drop (i + 1) := by
  have hlen : i < (prL es vs).length := by unfold prL; rw [List.length_zip, idsL_len]; omega
  rw [List.drop_eq_getElem_cons hlen]
  congr 1
  have h1 : i < (idsL es).length := by rw [idsL_len]; omega
  have e1 : (gE es i).id = (idsL es)[i] := by rw [← idsL_at, List.getD_eq_getElem?_getD, List.getElem?_eq_getElem h1]; rfl
  have e2 : vs.getD i [] = vs[i]'(by omega) := by rw [List.getD_eq_getElem?_getD, List.getElem?_eq_getElem (by omega)]; rfl
  rw [e1, e2]
  simp [prL]
theorem lstE_drop {es : List LsE} {vs : List (List Lv)} {n : Nat} (hl : es.length = n) (hv : vs.length = n) {i : Nat} (h : i < n) (last : Int) : lstE last ((prL es vs).drop i) = if (gE es i).id ≤ last then 26 else if clE (vs.getD i []) ≠ 0 then clE (vs.getD i []) else lstE (gE es i).id ((prL es vs).drop (i + 1)) := by
  rw [prL_at hl hv h]; rfl
theorem prL_nil {es : List LsE} {vs : List (List Lv)} {n : Nat} (hl : es.length = n) (last : Int) : lstE last ((prL es vs).drop n) = 0 := by
  rw [List.drop_eq_nil_of_le (by unfold prL; rw [List.length_zip, idsL_len]; omega)]; rfl
theorem prL_ids {es : List LsE} {vs : List (List Lv)} (hv : vs.length = es.length) : (prL es vs).map (·.1) = idsL es := by
  unfold prL
  exact List.map_fst_zip (by rw [idsL_len]; omega)
theorem prL_vs {es : List LsE} {vs : List (List Lv)} (hv : vs.length = es.length) : (prL es vs).map (·.2) = vs := by
  unfold prL
  exact List.map_snd_zip (by rw [idsL_len]; omega)
def allE (es : List LsE) (vs : List (List Lv)) (ms : List Mk) : Int := if lstE 0 (prL es vs) ≠ 0 then lstE 0 (prL es vs) else chkE es ms
end Go.Proofs.YthbodpjkckminaaGreatDoor
