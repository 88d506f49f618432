/- Best, Breaks, of what prepare is said to do. -/
import Derived.Test.YtogbapdioccamaaE20
import Derived.Test.YtogbapdioccamaaE21
namespace Go.Proofs.Ytogbapdioccamaa
open Go.RowKit

/-- what prepare does. -/
def PrepOk : Prop := ∀ (A M : Option Addr) (n m c d : Nat) (xs : List It) (ms : List Int) (w : World), Sl w 6 itC A n xs → Sl w 1 intC M m ms → 0 < n ∧ n ≤ 4096 → (∀ k, k < n → Right 31680 (gT xs k)) →
    Calls Try.prog 44 #[.slice A n c, .slice M m d] w fun e w' => ∃ g q, e = .returned (.pointer (some ⟨g, 0, none⟩)) ∧ Below w.heap.size w w' ∧ Par w' g q n m xs ms

set_option maxRecDepth 100000 in
set_option maxHeartbeats 4000000 in
theorem Best_any (hp : PrepOk) (A M : Option Addr) (n m c d : Nat) (xs : List It) (ms : List Int) (w : World) (ha : Sl w 6 itC A n xs) (hm : Sl w 1 intC M m ms) (hn : n ≤ 4096) (hmm : m ≤ 4096) :
    Calls Try.prog 23 #[.slice A n c, .slice M m d] w fun e w' => e = .returned (.tuple #[.int .i64 (if chkB xs ms = 0 then bestV xs ms else 0), .int .i64 (chkB xs ms)]) ∧ Below w.heap.size w w' := by
  have cc := fun w h1 h2 => check_any A M n m c d xs ms w h1 h2 hn hmm
  by_cases h0 : chkB xs ms = 0
  · have G := chkB_good ha.len hm.len hn h0
    have cp := fun w h1 h2 => hp A M n m c d xs ms w h1 h2 ⟨G.n0, hn⟩ G.R
    have cs := fun g q w P => solve_any g q n m xs ms w P ⟨G.n0, hn⟩ ⟨G.m0, G.m1⟩ G.R G.M G.F
    rw [if_pos h0, h0]
    rw [h0] at cc
    clear h0 G
    go_enter Try.func23, Try.ntmps23
    go_wp2_with (first
      | (go_at_call 43; refine (cc _ ha hm).mono ?_; rintro e w1 ⟨rfl, hb1⟩)
      | (go_at_call 44; refine (cp _ (ha.below hb1) (hm.below hb1)).mono ?_; rintro e w2 ⟨g, q, rfl, hb2, P⟩)
      | (go_at_call 45; refine (cs g q _ P).mono ?_; rintro e w3 ⟨h, N, f, rfl, Hm, hb3, hf, hI⟩; have hl := Hm.lookup (a := -1) (k := 0) (c := 1) (by unfold okI; omega) (by unfold okI; omega) (by unfold okI; omega); rw [hf 1 (by omega) (by omega)] at hl; have hv : (valS xs ms (posN xs) (-1) 0 1).1 = bestV xs ms := rfl; rw [hv] at hl; unfold stV chV at hl; have hfd := fld0 (bestV xs ms) (valS xs ms (posN xs) (-1) 0 1).2 w3; clear hf hI))
    go_ret2
    exact ⟨rfl, below_trans' (below_trans' hb1 hb1.size hb2) (Nat.le_trans hb1.size hb2.size) hb3⟩
  · rw [if_neg h0]
    have h1 : (chkB xs ms != 0) = true := by simpa using h0
    generalize chkB xs ms = v at *
    go_enter Try.func23, Try.ntmps23
    go_wp2_with (first | (go_at_call 43; refine (cc _ ha hm).mono ?_; rintro e w1 ⟨rfl, hb1⟩))
    go_ret2
    exact ⟨rfl, hb1⟩
end Go.Proofs.Ytogbapdioccamaa
