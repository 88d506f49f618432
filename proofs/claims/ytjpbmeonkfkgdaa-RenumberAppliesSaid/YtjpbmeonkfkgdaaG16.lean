/- Several effects in memory, and what a region that draws its order does with them. -/
import Derived.Test.YtjpbmeonkfkgdaaG14
import Derived.Deep.RegionHeld3
namespace Go.Proofs.Ytjpbmeonkfkgdaa
open Go.RowKit

def ES (w : World) (l : List (Nat × Eff)) : Prop := ∀ q, q ∈ l → Blk w q.1 33 (effA q.2)
theorem ES.below {w w' : World} {l : List (Nat × Eff)} (h : ES w l) (hb : Below w.heap.size w w') : ES w' l := fun q hq => (h q hq).below hb
theorem ES.drewN {w : World} {l : List (Nat × Eff)} (h : ES w l) (n : Nat) : ES (w.drewN n) l := fun q hq => (h q hq).drewN n
theorem ES.nil_ (w : World) : ES w [] := fun _ h => by simp at h
theorem ES.cons_ {w : World} {l : List (Nat × Eff)} (h : ES w l) {g : Nat} {X : Eff} (hb : Blk w g 33 (effA X)) : ES w ((g, X) :: l) := fun q hq => by
  rcases List.mem_cons.1 hq with rfl | h2
  · exact hb
  · exact h q h2
theorem ES.tail_ {w : World} {l : List (Nat × Eff)} {q : Nat × Eff} (h : ES w (q :: l)) : ES w l := fun r hr => h r (List.mem_cons_of_mem _ hr)
theorem ES.head_ {w : World} {l : List (Nat × Eff)} {q : Nat × Eff} (h : ES w (q :: l)) : Blk w q.1 33 (effA q.2) := h q (List.mem_cons_self ..)
theorem ES.ne {w : World} {l : List (Nat × Eff)} (h : ES w l) {g : Nat} (hg : w.heap.size ≤ g) : ∀ q, q ∈ l → q.1 ≠ g := fun q hq e => by have := (h q hq).lt; omega
theorem ES.store {w : World} {l : List (Nat × Eff)} (h : ES w l) {g : Nat} (hn : ∀ q, q ∈ l → q.1 ≠ g) (N : Blk w g 33 (effA effZ)) {X : Eff} {lX : List Value} (e : lX = effL X) : ES (w.setCells g 0 lX) ((g, X) :: l) := by
  refine ES.cons_ (fun q hq => ?_) (N.eff_set X e)
  exact (h q hq).keep (only_setCells g lX 0 w) (fun e => hn q hq (by injection e with e; exact e.symm))
/-- a store of the whole row. -/
theorem ES.row {w : World} {l : List (Nat × Eff)} (h : ES w l) {g : Nat} (hn : ∀ q, q ∈ l → q.1 ≠ g) (N : Blk w g 33 (effA effZ)) (X : Eff) : ES (w.setRow g (effA X)) ((g, X) :: l) :=
  ES.cons_ (fun q hq => (setRow_other w g q.1 _ (hn q hq)).trans (h q hq)) (setRow_heap _ _ _ _ _ _ N)
theorem rangeAt_below {w w' : World} {b o : Nat} {cs : List Value} (hb : Below w.heap.size w w') (h : w.rangeAt b o cs) : w'.rangeAt b o cs := fun j v hv => keep1 hb (h j v hv)
theorem Blk.range_ {w : World} {g : Nat} {t : TypeId} {X : Eff} (h : Blk w g t (effA X)) {lX : List Value} (e : lX = effL X) : w.rangeAt g 0 lX := fun j v hv => by
  subst e
  rw [Nat.zero_add]
  exact h.cell j (by unfold effA; simpa using hv)
theorem bAlloc {w0 w : World} (h : Below w0.heap.size w0 w) (o : Obj) : Below w0.heap.size w0 (w.alloc o) := h.alloc h.size o
theorem bDrew {B : Nat} {w0 w : World} (h : Below B w0 w) : Below B w0 w.drew := ⟨h.os, h.tape, h.output, h.size, h.block⟩
theorem bSetC {w0 w : World} (h : Below w0.heap.size w0 w) {g : Nat} (hg : w0.heap.size ≤ g) (vs : List Value) : Below w0.heap.size w0 (w.setCells g 0 vs) := below_setC h (Nat.le_refl _) hg vs
theorem keepR2 {w0 w : World} {b1 b2 : Nat} {l1 l2 : List Value} (h1 : w0.rangeAt b1 0 l1) (h2 : w0.rangeAt b2 0 l2) (hb : Below w0.heap.size w0 w) : w.rangeAt b1 0 l1 ∧ w.rangeAt b2 0 l2 := ⟨rangeAt_below hb h1, rangeAt_below hb h2⟩
theorem keepR3 {w0 w : World} {b1 b2 b3 : Nat} {l1 l2 l3 : List Value} (h1 : w0.rangeAt b1 0 l1) (h2 : w0.rangeAt b2 0 l2) (h3 : w0.rangeAt b3 0 l3) (hb : Below w0.heap.size w0 w) : w.rangeAt b1 0 l1 ∧ w.rangeAt b2 0 l2 ∧ w.rangeAt b3 0 l3 := ⟨rangeAt_below hb h1, rangeAt_below hb h2, rangeAt_below hb h3⟩
/-- a contract over an old world's slice, at any world that keeps it. -/
theorem at_below {w0 : World} {P : Program} {f : Nat} {args : Array Value} {v : Value} (h : ∀ W, Below w0.heap.size w0 W → Calls P f args W fun e w' => e = .returned v ∧ Below W.heap.size W w') : ∀ W, Below w0.heap.size w0 W → Calls P f args W fun e w' => e = .returned v ∧ Below W.heap.size W w' ∧ Below w0.heap.size w0 w' :=
  fun W hW => (h W hW).mono fun _ _ ⟨he, hb⟩ => ⟨he, hb, below_trans' hW hW.size hb⟩
end Go.Proofs.Ytjpbmeonkfkgdaa
