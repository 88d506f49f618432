/- Two effects compared: the run of '==' at arrays of nine changes. -/
import Derived.Test.YtjpbmeonkfkgdaaG12
import Derived.Laws.StructEq
namespace Go.Proofs.Ytjpbmeonkfkgdaa
open Go.RowKit

section
variable {P : Program}
theorem run_equalIn_array (w : World) (d : Nat) (t e : TypeId) (n s : Nat) (ht : P.underlying t = some (.array n e)) (hsz : ∀ w, (sizeOf e).run P w = .ok s w) (xs ys : Array Value) (r : Nat → Bool)
    (hr : ∀ i, i < n → ∃ a b, (∀ w, (part e xs (i * s)).run P w = .ok a w) ∧ (∀ w, (part e ys (i * s)).run P w = .ok b w) ∧ ∀ w, (Op.equalIn d e a b).run P w = .ok (r i) w) :
    (Op.equalIn (d + 1) t (.agg xs) (.agg ys)).run P w = .ok ((List.range n).all r) w := by
  rw [List.range_eq_range', Op.equalIn]
  simp only [Sem.run_bind, run_underlying ht, Result.andThen_ok, hsz, Std.Legacy.Range.forIn_eq_forIn_range', Std.Legacy.Range.size, Nat.sub_zero, Nat.add_sub_cancel, Nat.div_one]
  have hl : ∀ i ∈ List.range' 0 n 1, i < n := fun i hi => by simpa using (List.mem_range'_1.1 hi).2
  generalize List.range' 0 n 1 = l at hl ⊢
  induction l with
  | nil => simp
  | cons i l ih =>
    obtain ⟨a, b, pa, pb, pe⟩ := hr i (hl i (by simp))
    simp only [List.forIn_cons, Sem.run_bind, pa, pb, pe, Result.andThen_ok, List.all_cons]
    cases hb : r i
    · simp
    · simp only [Bool.not_true, Bool.false_eq_true, if_false, Sem.run_pure, Result.andThen_ok, Bool.true_and]
      exact ih fun j hj => hl j (by simp [hj])
end
theorem stoodCh : Try.prog.stoodInHeld 31 = false := by kernel_rfl
theorem fieldsCh : Try.prog.underlying 31 = some (.struct (Try.prog.fieldsOf 31)) := by kernel_rfl
theorem fieldsChL : (Try.prog.fieldsOf 31).toList.map (fun f => (f.name, f.type, f.offset)) = [("Fixed", 4, 0), ("Started", 4, 1), ("Number", 3, 2), ("Add", 3, 3)] := by kernel_rfl
theorem eqFields_map {P : Program} (d : Nat) (xs ys : Array Value) : ∀ (fs : List Field) (gs : List (String × TypeId × Nat)), fs.map (fun f => (f.name, f.type, f.offset)) = gs → ∀ w,
    (Op.eqFields d xs ys fs).run P w = (gs.foldr (fun (g : String × TypeId × Nat) (r : Sem Bool) => if g.1 ≠ "_" then (do let a ← part g.2.1 xs g.2.2; let b ← part g.2.1 ys g.2.2; let q ← Op.equalIn d g.2.1 a b; if (!q) = true then pure false else r) else r) (pure true)).run P w
  | [], _, h, w => by subst h; rfl
  | f :: fs, _, h, w => by
    subst h
    simp only [List.map_cons, List.foldr_cons, Op.eqFields]
    have ih := eqFields_map (P := P) d xs ys fs _ rfl
    split
    · simp only [Sem.run_bind]
      generalize (part f.type xs f.offset).run P w = r1
      cases r1 with
      | halt x w1 => rfl
      | ok a w1 =>
        simp only [Result.andThen_ok]
        generalize (part f.type ys f.offset).run P w1 = r2
        cases r2 with
        | halt x w2 => rfl
        | ok b w2 =>
          simp only [Result.andThen_ok]
          generalize (Op.equalIn d f.type a b).run P w2 = r3
          cases r3 with
          | halt x w3 => rfl
          | ok r w3 =>
            cases r
            · rfl
            · simp only [Result.andThen_ok, Bool.not_true, Bool.false_eq_true, if_false]
              exact ih w3
    · exact ih w
def eqC (a b : Ch) : Bool := (a.fx == b.fx) && (a.st == b.st) && (a.num == b.num) && (a.add == b.add)
theorem equalCh (d : Nat) (a b : Ch) (w : World) : (Op.equalIn (d + 2) 31 (.agg (chC a).toArray) (.agg (chC b).toArray)).run Try.prog w = .ok (eqC a b) w := by
  rw [run_equalIn_struct w (d + 1) 31 _ _ fieldsCh stoodCh, eqFields_map _ _ _ _ _ fieldsChL]
  obtain ⟨a0, a1, a2, a3⟩ := a
  obtain ⟨b0, b1, b2, b3⟩ := b
  have u3 := Try.underlying3
  have u4 := Try.underlying4
  simp only [chC, List.foldr_cons, List.foldr_nil, part, isAgg]
  simp [run_underlying u3, run_underlying u4, run_equalIn_int w d 3 .i64 .i64 _ _ u3, run_equalIn_bool' w d 4 _ _ u4, eqC]
  by_cases h0 : a0 = b0 <;> by_cases h1 : a1 = b1 <;> by_cases h2 : a2 = b2 <;> by_cases h3 : a3 = b3 <;> simp [h0, h1, h2, h3]
def eqE (x y : Eff) : Bool := (List.range 9).all fun i => eqC (x i) (y i)
theorem eqC_self (a : Ch) : eqC a a = true := by simp [eqC]
theorem eqE_self (x : Eff) : eqE x x = true := by simp [eqE, eqC_self]
theorem part_eff (x : Eff) : ∀ k, k < 9 → ∀ w, (part 31 (effA x) (k * 4)).run Try.prog w = .ok (.agg (chC (x k)).toArray) w := by
  have ha : ∀ w, (isAgg 31).run Try.prog w = .ok true w := fun w => by kernel_rfl
  have hs : ∀ w, (sizeOf 31).run Try.prog w = .ok 4 w := fun w => by kernel_rfl
  have h : ∀ k, k < 9 → ((effA x).extract (k * 4) (k * 4 + 4)) = (chC (x k)).toArray := lt9 rfl rfl rfl rfl rfl rfl rfl rfl rfl
  intro k hk w
  simp only [part, Sem.run_bind, ha, Result.andThen_ok, if_true, hs, h k hk, Sem.run_pure]
theorem equalE (d : Nat) (x y : Eff) (w : World) : (Op.equalIn (d + 3) 33 (.agg (effA x)) (.agg (effA y))).run Try.prog w = .ok (eqE x y) w :=
  run_equalIn_array w (d + 2) _ 31 9 4 Try.underlying33 (fun w => by kernel_rfl) _ _ (fun i => eqC (x i) (y i)) fun i hi => ⟨_, _, part_eff x i hi, part_eff y i hi, equalCh d _ _⟩
theorem equalE_self (x : Eff) (w : World) : (Op.equalIn 10000 33 (.agg (effA x)) (.agg (effA x))).run Try.prog w = .ok true w := by
  have := equalE 9997 x x w
  rw [eqE_self] at this
  exact this
theorem equalE_list {l l' : List Value} {x : Eff} (h : l = effL x) (h' : l' = effL x) (w : World) : (Op.equalIn 10000 33 (.agg l.toArray) (.agg l'.toArray)).run Try.prog w = .ok true w := by
  subst h; subst h'; exact equalE_self x w
end Go.Proofs.Ytjpbmeonkfkgdaa
