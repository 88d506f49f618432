/- The paragraph in memory; measure, flagged. -/
import Derived.Test.YtogbapdioccamaaE6
import Derived.Deep.DeepCutAuto
namespace Go.Proofs.Ytogbapdioccamaa
open Go.RowKit

structure PA where
  A : Option Addr
  c : Nat
  M : Option Addr
  d : Nat
  W : Option Addr
  Y : Option Addr
  Z : Option Addr
  S : Option Addr
def sumL (f : It → Int) (xs : List It) (n : Nat) : List Int := (List.range (n + 1)).map (sumTo f xs)
def staL (xs : List It) (n : Nat) : List Int := (List.range (n + 1)).map (fun i => (start xs i : Int))
/-- a paragraph: the pointed block g, and what it holds. -/
structure Par (w : World) (g : Nat) (q : PA) (n m : Nat) (xs : List It) (ms : List Int) : Prop where
  blk : Blk w g 88 #[.slice q.A n q.c, .slice q.M m q.d, .slice q.W (n + 1) (n + 1), .slice q.Y (n + 1) (n + 1), .slice q.Z (n + 1) (n + 1), .slice q.S (n + 1) (n + 1)]
  its : Sl w 6 itC q.A n xs
  mss : Sl w 1 intC q.M m ms
  wid : Sl w 1 intC q.W (n + 1) (sumL wOf xs n)
  str : Sl w 1 intC q.Y (n + 1) (sumL (·.stretch) xs n)
  shr : Sl w 1 intC q.Z (n + 1) (sumL (·.shrink) xs n)
  sta : Sl w 1 intC q.S (n + 1) (staL xs n)
theorem Par.below {w w' : World} {g : Nat} {q : PA} {n m : Nat} {xs : List It} {ms : List Int} (h : Par w g q n m xs ms) (hb : Below w.heap.size w w') : Par w' g q n m xs ms :=
  ⟨h.blk.below hb, h.its.below hb, h.mss.below hb, h.wid.below hb, h.str.below hb, h.shr.below hb, h.sta.below hb⟩

set_option maxHeartbeats 400000 in
theorem measure_any (g : Nat) (q : PA) (n m k : Nat) (xs : List It) (ms : List Int) (w : World) (P : Par w g q n m xs ms) (hm : 0 < m ∧ m ≤ 4096) :
    Calls Try.prog 57 #[.pointer (some ⟨g, 0, none⟩), .int .i64 k] w fun e w' => e = .returned (.int .i64 (measOf ms k)) ∧ ∃ d, w' = w.drewN d := by
  have p1 := P.blk.cell 1 rfl
  have hl := P.mss.len
  by_cases h : k ≤ m - 1
  · obtain ⟨ad, e, hl2, r⟩ := P.mss.int (k := k) (by omega)
    have HM := Lib.hid (show measOf ms k = gI ms k by unfold measOf gI; rw [hl, Nat.min_eq_left h])
    rw [e] at p1
    have h1 : (k : Int) ≤ (m : Int) - 1 := by omega
    have h2 : k < m := by omega
    clear hl
    go_enter Try.func57, Try.ntmps57
    go_wp2_with fail
    go_quiet (fail)
    go_wp2_with fail
    go_ret
    exact ⟨ret_int HM.out.symm, _, rfl⟩
  · obtain ⟨ad, e, hl2, r⟩ := P.mss.int (k := m - 1) (by omega)
    have HM := Lib.hid (show measOf ms k = gI ms (m - 1) by unfold measOf gI; rw [hl, Nat.min_eq_right (by omega)])
    rw [e] at p1
    have h1 : ¬ (k : Int) ≤ (m : Int) - 1 := by omega
    have h3 : ((m : Int) - 1) = ((m - 1 : Nat) : Int) := by omega
    clear hl
    go_enter Try.func57, Try.ntmps57
    go_wp2_with fail
    go_quiet (fail)
    go_wp2_with fail
    go_ret
    exact ⟨ret_int HM.out.symm, _, rfl⟩

set_option maxHeartbeats 400000 in
theorem flagged_any (g : Nat) (q : PA) (n m : Nat) (b : Int) (xs : List It) (ms : List Int) (w : World) (P : Par w g q n m xs ms) (hb : b < n) :
    Calls Try.prog 63 #[.pointer (some ⟨g, 0, none⟩), .int .i64 b] w fun e w' => e = .returned (.bool (flagAt xs b)) ∧ w' = w := by
  have p0 := P.blk.cell 0 rfl
  by_cases hz : b < 0
  · have HP := Lib.hid (show flagAt xs b = false by unfold flagAt; rw [decide_eq_false (by omega)]; rfl)
    have hz1 : decide (0 ≤ b) = false := decide_eq_false (by omega)
    go_enter Try.func63, Try.ntmps63
    go_wp2_with fail
    go_ret
    exact ⟨ret_bool HP.out.symm, rfl⟩
  obtain ⟨k, rfl⟩ : ∃ k : Nat, b = (k : Int) := ⟨b.toNat, by omega⟩
  have hk : k < n := by omega
  obtain ⟨ad, e, hl, q0, q1, q2, q3, q4, q5⟩ := P.its.it hk
  rw [e] at p0
  have hP : flagAt xs (k : Int) = ((gT xs k).kind == 3 && (gT xs k).flag) := by unfold flagAt; rw [decide_eq_true (by omega)]; rfl
  by_cases h3 : (gT xs k).kind = 3
  · have HP := Lib.hid (show flagAt xs (k : Int) = (gT xs k).flag by rw [hP, h3]; rfl)
    rw [h3] at q0
    clear hP h3
    go_enter Try.func63, Try.ntmps63
    go_wp2_with fail
    go_ret
    exact ⟨ret_bool HP.out.symm, rfl⟩
  · have h3' : ((gT xs k).kind == 3) = false := by simpa using h3
    have HP := Lib.hid (show flagAt xs (k : Int) = false by rw [hP, h3']; rfl)
    clear hP h3
    go_enter Try.func63, Try.ntmps63
    go_wp2_with fail
    go_ret
    exact ⟨ret_bool HP.out.symm, rfl⟩

set_option maxHeartbeats 400000 in
theorem mflagged_any (A : Option Addr) (n c : Nat) (b : Int) (xs : List It) (w : World) (ha : Sl w 6 itC A n xs) (hb : b < n) (hR : ∀ k, k < n → (gT xs k).kind ≠ 3 → (gT xs k).flag = false) :
    Calls Try.prog 58 #[.slice A n c, .int .i64 b] w fun e w' => e = .returned (.bool (flagAt xs b)) ∧ w' = w := by
  by_cases hz : b < 0
  · have HP := Lib.hid (show flagAt xs b = false by unfold flagAt; rw [decide_eq_false (by omega)]; rfl)
    have hz1 : decide (0 ≤ b) = false := decide_eq_false (by omega)
    go_enter Try.func58, Try.ntmps58
    go_wp2_with fail
    go_ret
    exact ⟨ret_bool HP.out.symm, rfl⟩
  obtain ⟨k, rfl⟩ : ∃ k : Nat, b = (k : Int) := ⟨b.toNat, by omega⟩
  have hk : k < n := by omega
  obtain ⟨ad, rfl, hl, q0, q1, q2, q3, q4, q5⟩ := ha.it hk
  have HP := Lib.hid (show flagAt xs (k : Int) = (gT xs k).flag by
    unfold flagAt
    rw [decide_eq_true (by omega)]
    show ((gT xs k).kind == 3 && (gT xs k).flag) = _
    by_cases h3 : (gT xs k).kind = 3
    · rw [h3]; rfl
    · rw [hR k hk h3]; simp)
  clear hR
  go_enter Try.func58, Try.ntmps58
  go_wp2_with fail
  go_ret
  exact ⟨ret_bool HP.out.symm, rfl⟩
end Go.Proofs.Ytogbapdioccamaa
