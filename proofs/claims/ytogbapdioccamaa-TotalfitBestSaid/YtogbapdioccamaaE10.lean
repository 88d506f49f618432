/- line: two blocks that the call makes. -/
import Derived.Test.YtogbapdioccamaaE9
namespace Go.Proofs.Ytogbapdioccamaa
open Go.RowKit

def z10 : Array Value := #[.int .i64 0, .int .i64 0, .int .i64 0, .int .i64 0, .int .i64 0, .int .i64 0, .int .i64 0, .int .i64 0, .int .i64 0, .int .i64 0]
/-- behind w the call has made the result's block (zeros yet) and the block of the line under way. -/
structure LW (w wx : World) (cs : Array Value) : Prop where
  b0 : Blk wx w.heap.size 56 z10
  b1 : Blk wx (w.heap.size + 1) 56 cs
  bw : Below w.heap.size w wx
theorem LW.drewN {w wx : World} {cs : Array Value} (h : LW w wx cs) (d : Nat) : LW w (wx.drewN d) cs := ⟨h.b0.drewN d, h.b1.drewN d, below_drewN h.bw d⟩
theorem LW.set {w wx : World} {cs : Array Value} (h : LW w wx cs) (i : Nat) (u : Value) : LW w (wx.setCell ⟨w.heap.size + 1, i, none⟩ u) (cs.setIfInBounds i u) := by
  have hg : wx.grownBy (wx.setCell ⟨w.heap.size + 1, i, none⟩ u) (some (w.heap.size + 1)) := only_set (World.grownBy.refl _ _) i u
  refine ⟨h.b0.keep hg (by intro e; injection e with e; omega), h.b1.set_ i u, ?_⟩
  exact h.bw.grown hg h.bw.size (fun k hk => by injection hk with hk; omega)
theorem LW.new (w : World) (d : Nat) (cs : Array Value) : LW w (((w.alloc (.cells z10 56)).drewN d).alloc (.cells cs 56)) cs := by
  have e : ((w.alloc (.cells z10 56)).drewN d).heap.size = w.heap.size + 1 := by simp
  refine ⟨((Blk.new w _ _).drewN d).alloc _, ?_, (below_drewN ((Below.refl _ _).alloc (Nat.le_refl _) _) d).alloc (by rw [e]; omega) _⟩
  have h := Blk.new ((w.alloc (.cells z10 56)).drewN d) 56 cs
  rw [e] at h
  exact h
end Go.Proofs.Ytogbapdioccamaa
