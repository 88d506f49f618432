/- A region that draws its order, walked by hand: single steps. No program in sight. -/
import Derived.Deep.RegionHeld3
import Derived.Test.YtjpbmeonkfkgdaaW1
namespace Go.Proofs.Ytjpbmeonkfkgdaa
open Go.RowKit

section
variable {P : Program} {ops : Array Oper} {Q : Exit → Act → World → Prop} {md : Region.Mode} {S : World → Prop} {fuel : Nat} {listed : Array Bool} {a : Act} {w : World} {o : Oper}
/-- operation i comes up next. -/
def StepH (P : Program) (md : Region.Mode) (ops : Array Oper) (Q : Exit → Act → World → Prop) (S : World → Prop) (fuel : Nat) (listed : Array Bool) (a : Act) (w : World) (i : Nat) : Prop :=
  wpOp P ops Q i (fun a' w' => S w' ∧ wpAnyH P md ops Q S fuel (listed.setIfInBounds i true) a' w') a w
theorem hx_take (i : Nat) (d : Option Tmp) (v : Value) (hi : ops[i]? = some o) (hs : Region.noSelect ops = true) (hf : Region.free md ops listed i = true) (hr : (Region.ready md ops listed).contains i = true)
    (hQ : ∀ c a w, Q (.panic c) (a.put o.dst v) w → Q (.panic c) a w) (hd : o.dst = d) (hy : YieldsIf P ops S o v a) (hS : S w)
    (h : wpAnyH P md ops Q S fuel (listed.setIfInBounds i true) (a.put d v) w) : wpAnyH P md ops Q S (fuel + 1) listed a w := by
  subst hd
  exact wpAnyH_take hi hs hf hr hQ hy hS h
theorem hx1 (i : Nat) (hr : Region.ready md ops listed = [i]) (h : StepH P md ops Q S fuel listed a w i) : wpAnyH P md ops Q S (fuel + 1) listed a w :=
  wpAnyH_ready hr (by simp) fun j hj => by
    rcases List.mem_singleton.1 hj with rfl
    exact h
theorem hx2 (i j : Nat) (hr : Region.ready md ops listed = [i, j]) (h : StepH P md ops Q S fuel listed a w i) (h' : StepH P md ops Q S fuel listed a w j) : wpAnyH P md ops Q S (fuel + 1) listed a w :=
  wpAnyH_ready hr (by simp) fun k hk => by
    rcases List.mem_cons.1 hk with rfl | hk
    · exact h
    · rcases List.mem_singleton.1 hk with rfl
      exact h'
theorem hx3 (i j k : Nat) (hr : Region.ready md ops listed = [i, j, k]) (h : StepH P md ops Q S fuel listed a w i) (h' : StepH P md ops Q S fuel listed a w j) (h'' : StepH P md ops Q S fuel listed a w k) : wpAnyH P md ops Q S (fuel + 1) listed a w :=
  wpAnyH_ready hr (by simp) fun l hl => by
    rcases List.mem_cons.1 hl with rfl | hl
    · exact h
    · rcases List.mem_cons.1 hl with rfl | hl
      · exact h'
      · rcases List.mem_singleton.1 hl with rfl
        exact h''
theorem hx_wp (i : Nat) (ho : ops[i]? = some o) (hw : Region.wanted o (yielded ops a.tmps) = true) (h : Oper.wp P o a w (fun a' w' => S w' ∧ wpAnyH P md ops Q S fuel (listed.setIfInBounds i true) a' w') Q) : StepH P md ops Q S fuel listed a w i := by
  unfold StepH wpOp
  rw [ho]
  show if Region.wanted o (yielded ops a.tmps) = true then _ else _
  rw [if_pos hw]
  exact .inl h
/-- any operation, handed over behind a letter. -/
theorem hx_step (i : Nat) (ho : ops[i]? = some o) (hw : Region.wanted o (yielded ops a.tmps) = true) (h : ∀ K : Act → World → Prop, Hid (∀ a' w', S w' → wpAnyH P md ops Q S fuel (listed.setIfInBounds i true) a' w' → K a' w') → Oper.wp P o a w K Q) : StepH P md ops Q S fuel listed a w i :=
  hx_wp i ho hw (h _ (Lib.hid fun _ _ h1 h2 => ⟨h1, h2⟩))
/-- a call of a Go function, by its contract. -/
theorem hx_call (i : Nat) (d : Option Tmp) (f : Nat) (args : Array Value) (v : Value) (R : World → Prop) (ho : ops[i]? = some o) (hw : Region.wanted o (yielded ops a.tmps) = true) (hd : o.dst = d) (he : (execOp a.eval o).run P w = .ok (.enter f args) w)
    (hc : Calls P f args w fun e w' => e = .returned v ∧ R w') (h : ∀ w', R w' → S w' ∧ wpAnyH P md ops Q S fuel (listed.setIfInBounds i true) (a.put d v) w') : StepH P md ops Q S fuel listed a w i := by
  refine hx_wp i ho hw ?_
  unfold Oper.wp
  rw [he, Oper.upon_enter]
  refine hc.mono ?_
  rintro e w' ⟨rfl, hR⟩
  subst hd
  exact h w' hR
/-- an operation that yields a value, and may make memory. -/
theorem hx_val (i : Nat) (d : Option Tmp) (v : Value) (w' : World) (ho : ops[i]? = some o) (hw : Region.wanted o (yielded ops a.tmps) = true) (hd : o.dst = d) (he : (execOp a.eval o).run P w = .ok (.value v) w') (hS : S w')
    (h : wpAnyH P md ops Q S fuel (listed.setIfInBounds i true) (a.put d v) w') : StepH P md ops Q S fuel listed a w i := by
  refine hx_wp i ho hw ?_
  unfold Oper.wp
  rw [he, Oper.upon_value]
  subst hd
  exact ⟨hS, h⟩
/-- an operation whose guard says no. -/
theorem hx_skip (i : Nat) (d : Option Tmp) (ho : ops[i]? = some o) (hw : Region.wanted o (yielded ops a.tmps) = false) (hd : o.dst = d) (hS : S w)
    (h : wpAnyH P md ops Q S fuel (listed.setIfInBounds i true) (a.put d undef) w) : StepH P md ops Q S fuel listed a w i := by
  unfold StepH wpOp
  rw [ho]
  show if Region.wanted o (yielded ops a.tmps) = true then _ else _
  rw [if_neg (by rw [hw]; simp)]
  subst hd
  exact ⟨hS, h⟩
/-- the store of a row into a block. -/
theorem hx_store (i : Nat) (ty : TypeId) (x y : Operand) (g : Nat) (l : List Value) (ho : ops[i]? = some o) (hw : Region.wanted o (yielded ops a.tmps) = true) (hd : o.dst = none) (hop : o.op = .store ty x y) (hx : a.eval x = .pointer (some ⟨g, 0, none⟩)) (hy : a.eval y = .agg l.toArray)
    (ht : w.there g 0 l.length) (hi : (P.info? ty).map (·.size) = some l.length) (h1 : ∀ v ∈ l, v.oneCell' = true) (hS : S (w.setCells g 0 l))
    (h : wpAnyH P md ops Q S fuel (listed.setIfInBounds i true) a (w.setCells g 0 l)) : StepH P md ops Q S fuel listed a w i := by
  refine hx_wp i ho hw ?_
  refine wp_store_mid ty x y hop g 0 l.toArray hx hy (by simpa using ht) (by simpa using hi) (all_oneCell_toArray h1) ?_
  rw [hd]
  exact ⟨hS, by simpa [Act.put] using h⟩
/-- in a plain region: a load of a row that is guarded, where the guard says yes. -/
theorem wpList_load_g {rest : List Oper} (hw : Region.wanted o (yielded ops a.tmps) = true) (ty : TypeId) (x : Operand) (ho : o.op = .load ty x)
    (b q : Nat) (hx : a.eval x = .pointer (some ⟨b, q, none⟩)) (cs : List Value) (d : TypeDesc) (hc : w.rangeAt b q cs)
    (hu : P.underlying ty = some d) (hd : d.isRow = true) (hi : (P.info? ty).map (·.size) = some cs.length)
    (h : wpList P ops Q rest (a.put o.dst (.agg cs.toArray)) w) : wpList P ops Q (o :: rest) a w :=
  wpList_step fun K hK => by
    show if Region.wanted o (yielded ops a.tmps) = true then _ else _
    rw [if_pos hw]
    exact wp_load_mid ty x ho b q hx cs d hc hu hd hi (hK _ _ h)
end
end Go.Proofs.Ytjpbmeonkfkgdaa
