/- L17's Settings: its first list's levels. -/
import Derived.Test.YtjpbmeonkfkgdaaG6
namespace Go.Proofs.Ytjpbmeonkfkgdaa
open Go.RowKit

def knL : List Lv := [⟨1, 1, ⟨#[37, 49, 46]⟩, 0⟩, ⟨2, 1, ⟨#[37, 49, 46, 37, 50]⟩, 1⟩]
theorem knL_right : clE knL = 0 := by decide +kernel
theorem Blk.new' {w : World} {t : TypeId} {cs : Array Value} {g : Nat} (h : w.heap.size = g) : Blk (w.alloc (.cells cs t)) g t cs := by subst h; exact Blk.new w t cs
def SetPost (w : World) (e : Ending) (w' : World) : Prop :=
  ∃ v0 v2 v3 g gl q, e = .returned (.agg #[v0, .slice (some ⟨g, 0, none⟩) 2 2, v2, v3]) ∧ Blk w' g 63 #[.int .i64 1, .slice (some ⟨gl, 0, none⟩) 2 2, .int .i64 2, q] ∧ Blk w' gl 59 (knL.flatMap lvC).toArray ∧ Below w.heap.size w w'
theorem knL_flat : (knL.flatMap lvC).toArray = #[.int .i64 1, .int .i64 1, .string ⟨#[37, 49, 46]⟩, .int .i64 0, .int .i64 2, .int .i64 1, .string ⟨#[37, 49, 46, 37, 50]⟩, .int .i64 1] := rfl
def setA (b : Nat) : Array Value := #[.slice (some ⟨b + 1 + 1 + 1 + 1 + 1, 0, none⟩) 4 4, .slice (some ⟨b + 1 + 1 + 1 + 1 + 1 + 1 + 1 + 1, 0, none⟩) 2 2, .slice (some ⟨b + 1 + 1 + 1 + 1 + 1 + 1 + 1 + 1 + 1, 0, none⟩) 1 1, .slice (some ⟨b + 1 + 1 + 1 + 1 + 1 + 1 + 1 + 1 + 1 + 1, 0, none⟩) 2 2]
set_option maxHeartbeats 4000000 in
set_option maxRecDepth 100000 in
theorem settings_any (w : World) : Calls Try.prog 18 #[] w (SetPost w) := by
  go_enter Try.func18, Try.ntmps18
  go_wp2_with fail
  refine bodyPost_ret (results_cell_row rfl _ _ w.heap.size 69 (setA w.heap.size) (0, 0) _ rfl ?hg Try.underlying69 rfl (by kernel_rfl)) rfl ?hq
  case hg =>
    unfold setA
    repeat (first | exact Blk.new' (by simp) | refine Blk.alloc ?_ _)
  case hq =>
    refine ⟨_, _, _, w.heap.size + 1 + 1 + 1 + 1 + 1 + 1 + 1 + 1, w.heap.size + 1 + 1 + 1 + 1 + 1 + 1, .slice (some ⟨w.heap.size + 1 + 1 + 1 + 1 + 1 + 1 + 1, 0, none⟩) 1 1, rfl, ?_, ?_, ?_⟩
    · repeat (first | exact Blk.new' (by simp) | refine Blk.alloc ?_ _)
    · rw [knL_flat]
      repeat (first | exact Blk.new' (by simp) | refine Blk.alloc ?_ _)
    · repeat (refine Below.alloc ?_ (by simp <;> omega) _)
      exact Below.refl _ _
end Go.Proofs.Ytjpbmeonkfkgdaa
