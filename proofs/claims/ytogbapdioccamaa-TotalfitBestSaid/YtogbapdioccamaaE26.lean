/- The chapter's example. -/
import Derived.Test.YtogbapdioccamaaE23
import Derived.Test.YtogbapdioccamaaE24
import Derived.Test.YtogbapdioccamaaE25
namespace Go.Proofs.Ytogbapdioccamaa
open Go.RowKit

def exL : List It := [boxI 50, glueI, boxI 30, glueI, boxI 40, ⟨2, 0, 1000, 0, 0, false⟩, ⟨3, 0, 0, 0, -10000, false⟩]
theorem ex_words : wordsF [50, 30, 40] = exL := rfl
theorem ex_chk : chk exL = 0 := by decide +kernel
theorem ex_chk90 : chkB exL [90] = 0 := by decide +kernel
theorem ex_chk88 : chkB exL [88] = 0 := by decide +kernel
theorem ex_pos : posN exL = [1, 3, 5, 6] := by decide +kernel
theorem ex_breaks : breaksL exL [90] = [3, 6] := by decide +kernel
theorem ex_best : bestV exL [90] = 2 := by decide +kernel
theorem ex_brok : BrOk exL 7 [3, 6] := by
  refine ⟨⟨?_, ?_⟩, ?_, ?_⟩
  · decide +kernel
  · intro k hk
    have : k = 0 := by simp at hk; omega
    subst this
    decide +kernel
  · rw [ex_pos]; decide +kernel
  · rw [ex_pos]; decide +kernel
def exX : Ln := withD (lnAt exL [88] [3, 6] 0) (demAt exL [88] [3, 6] 0)
def exY : Ln := withD (lnAt exL [88] [3, 6] 1) (demAt exL [88] [3, 6] 1)
theorem ex_lines : linesN exL [88] [3, 6] 2 = [exX, exY] := rfl
theorem ex_x5 : exX.ratio = -666 := by decide +kernel
theorem ex_x6 : exX.cls = 0 := by decide +kernel
theorem ex_x7 : exX.bad = 29 := by decide +kernel
theorem ex_x9 : exX.dem = 900 := by decide +kernel
theorem words_c (w : World) (A : Option Addr) (c : Nat) (ha : Sl w 1 intC A 3 [50, 30, 40]) :
    Calls Try.prog 31 #[.slice A 3 c] w fun e w' => ∃ A' c', e = .returned (.slice A' 7 c') ∧ Own w' w.heap.size 52 6 itC A' 7 c' exL ∧ Below w.heap.size w w' :=
  words_any A 3 c [50, 30, 40] w ha (by omega)
theorem positions_c (w : World) (A : Option Addr) (c : Nat) (ha : Sl w 6 itC A 7 exL) :
    Calls Try.prog 19 #[.slice A 7 c] w fun e w' => ∃ A' c', e = .returned (.tuple #[.slice A' 4 c', .int .i64 0]) ∧ Own w' w.heap.size 3 1 intC A' 4 c' [1, 3, 5, 6] ∧ Below w.heap.size w w' := by
  refine (Positions_any A 7 c exL w ha (by omega)).mono fun e w' h => ?_
  rcases h with ⟨h, _⟩ | ⟨_, A', c', h1, h2, h3⟩
  · exact absurd ex_chk h
  · rw [ex_pos] at h1 h2
    exact ⟨A', c', h1, h2, h3⟩
theorem breaks_c (hp : PrepOk) (w : World) (A M : Option Addr) (c d : Nat) (ha : Sl w 6 itC A 7 exL) (hm : Sl w 1 intC M 1 [90]) :
    Calls Try.prog 22 #[.slice A 7 c, .slice M 1 d] w fun e w' => ∃ A' c', e = .returned (.tuple #[.slice A' 2 c', .int .i64 0]) ∧ Own w' w.heap.size 3 1 intC A' 2 c' [3, 6] ∧ Below w.heap.size w w' := by
  refine (Breaks_any hp A M 7 1 c d exL [90] w ha hm (by omega) (by omega)).mono fun e w' h => ?_
  obtain ⟨A', c', h1, h2, h3⟩ := h
  rw [if_pos ex_chk90, ex_breaks] at h1 h2
  rw [ex_chk90] at h1
  exact ⟨A', c', h1, h2, h3⟩
theorem best_c (hp : PrepOk) (w : World) (A M : Option Addr) (c d : Nat) (ha : Sl w 6 itC A 7 exL) (hm : Sl w 1 intC M 1 [90]) :
    Calls Try.prog 23 #[.slice A 7 c, .slice M 1 d] w fun e w' => e = .returned (.tuple #[.int .i64 2, .int .i64 0]) ∧ Below w.heap.size w w' := by
  refine (Best_any hp A M 7 1 c d exL [90] w ha hm (by omega) (by omega)).mono fun e w' h => ?_
  rw [if_pos ex_chk90, ex_best, ex_chk90] at h
  exact h
theorem lines_c (hp : PrepOk) (w : World) (A M : Option Addr) (c d gB cB : Nat) (ha : Sl w 6 itC A 7 exL) (hm : Sl w 1 intC M 1 [88]) (hB : Sl w 1 intC (some ⟨gB, 0, none⟩) 2 [3, 6]) :
    Calls Try.prog 30 #[.slice A 7 c, .slice M 1 d, .slice (some ⟨gB, 0, none⟩) 2 cB] w fun e w' => ∃ g c', e = .returned (.tuple #[.slice (some ⟨g, 0, none⟩) 2 c', .int .i64 0]) ∧ g < w'.heap.size ∧ w'.cell? ⟨g, 5, none⟩ = some (.int .i64 (-666)) ∧ w'.cell? ⟨g, 6, none⟩ = some (.int .i64 0) ∧ w'.cell? ⟨g, 7, none⟩ = some (.int .i64 29) ∧ w'.cell? ⟨g, 9, none⟩ = some (.int .i64 900) ∧ Below w.heap.size w w' := by
  refine (Lines_ok hp A M 7 1 2 c d cB gB 0 [3, 6] exL [88] w ha hm hB (by omega) (by omega) (by omega) ex_chk88 ex_brok).mono fun e w' h => ?_
  obtain ⟨A', c', h1, h2, h3⟩ := h
  rw [ex_lines] at h2
  obtain ⟨g, x, e, _, hg, hx, hc⟩ := h2.field lnC_len (k := 0) (by omega)
  subst e
  have hxx : x = exX := by injection hx with hx; exact hx.symm
  subst hxx
  have c5 := hc 5 _ rfl
  have c6 := hc 6 _ rfl
  have c7 := hc 7 _ rfl
  have c9 := hc 9 _ rfl
  rw [ex_x5] at c5
  rw [ex_x6] at c6
  rw [ex_x7] at c7
  rw [ex_x9] at c9
  exact ⟨g, c', h1, hg, c5, c6, c7, c9, h3⟩
theorem same_c (A B : Option Addr) (n c d : Nat) (xs : List Int) (w : World) (ha : Sl w 1 intC A n xs) (hb : Sl w 1 intC B n xs) (hn : n ≤ 65536) :
    Calls Try.prog 20 #[.slice A n c, .slice B n d] w fun e w' => e = .returned (.bool true) ∧ Below w.heap.size w w' := by
  have h := sameInts_any A B n n c d xs xs w ha hb (by unfold maxLen; omega) (by unfold maxLen; omega)
  rw [decide_eq_true rfl] at h
  exact h
theorem lit_sl {w : World} {xs : List Int} {cs : Array Value} (h : (xs.map (Value.int .i64)).toArray = cs) (hm : xs.length ≤ maxLen) : Sl (w.alloc (.cells cs 3)) 1 intC (some ⟨w.heap.size, 0, none⟩) xs.length xs := by
  subst h
  have := (Own.lit (w := w) (B := 0) (e := 3) (s := 1) (enc := intC) (xs := xs) (Nat.zero_le _) (by rw [flat_int]; simp) hm).sl intC_len
  rw [flat_int] at this
  exact this
end Go.Proofs.Ytogbapdioccamaa
