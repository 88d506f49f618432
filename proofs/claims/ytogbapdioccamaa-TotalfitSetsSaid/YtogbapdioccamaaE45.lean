/- Cost; lines compared. -/
import Derived.Test.YtogbapdioccamaaE44
import Derived.Test.YtogbapdioccamaaE37
import Derived.Test.YtogbapdioccamaaE36
namespace Go.Proofs.Ytogbapdioccamaa
open Go.RowKit

theorem Sl.ln {w : World} {A : Option Addr} {n : Nat} {xs : List Ln} (h : Sl w 10 lnC A n xs) {k : Nat} (hk : k < n) :
    ∃ ad, A = some ad ∧ ad.block < w.heap.size ∧ w.cell? (ad.add (k * 10)) = some (.int .i64 (gL xs k).fr) ∧ (∀ j u, 0 < j → (lnC (gL xs k))[j]? = some u → w.cell? ⟨(ad.add (k * 10)).block, (ad.add (k * 10)).off + j, none⟩ = some u) := by
  obtain ⟨ad, e, hl, x, hx, hc⟩ := h.at_ hk
  have hg : gL xs k = x := by unfold gL; rw [List.getD_eq_getElem?_getD, hx]; rfl
  rw [hg]
  refine ⟨ad, e, hl, hc 0 _ rfl, fun j u hj hu => ?_⟩
  have : w.cell? ((ad.add (k * 10)).add j) = w.cell? ⟨(ad.add (k * 10)).block, (ad.add (k * 10)).off + j, none⟩ := by
    unfold Addr.add; simp [Nat.ne_of_gt hj]
  rw [← this, add_add_]; exact hc j u hu
def demS : List Ln → Int
  | [] => 0
  | x :: l => x.dem + demS l
theorem demS_snoc (l : List Ln) (x : Ln) : demS (l ++ [x]) = demS l + x.dem := by
  induction l with
  | nil => simp [demS]
  | cons y l ih => simp only [List.cons_append, demS, ih]; omega
theorem demS_lines (xs : List It) (ms : List Int) (bl : List Nat) : ∀ k, demS (linesN xs ms bl k) = costN xs ms bl k
  | 0 => rfl
  | k + 1 => by
    rw [linesN_succ, demS_snoc, demS_lines xs ms bl k]
    rfl
theorem take_snocL {l : List Ln} {k : Nat} (h : k < l.length) : l.take (k + 1) = l.take k ++ [gL l k] := by rw [List.take_add_one, gL_some h]; rfl
def DemOk (ls : List Ln) : Prop := ls.length ≤ 4096 ∧ ∀ k, k < ls.length → -50000000000000 ≤ (gL ls k).dem ∧ (gL ls k).dem ≤ 50000000000000
theorem demS_bd {ls : List Ln} (h : DemOk ls) : ∀ {k : Nat}, k ≤ ls.length → -50000000000000 * (k : Int) ≤ demS (ls.take k) ∧ demS (ls.take k) ≤ 50000000000000 * (k : Int)
  | 0, _ => by simp [demS]
  | k + 1, hk => by
    have h1 := demS_bd h (k := k) (by omega)
    have h2 := h.2 k (by omega)
    rw [take_snocL (by omega), demS_snoc]
    omega
theorem demOk_nil : DemOk [] := ⟨Nat.zero_le _, fun _ hk => absurd hk (Nat.not_lt_zero _)⟩
theorem gL_lines {xs : List It} {ms : List Int} {bl : List Nat} {k K : Nat} (hk : k < K) : gL (linesN xs ms bl K) k = withD (lnAt xs ms bl k) (demAt xs ms bl k) := by
  unfold gL linesN; rw [List.getD_eq_getElem?_getD, List.getElem?_map, List.getElem?_range hk]; rfl
theorem demOk_lines {xs : List It} {ms : List Int} {n m K : Nat} {bl : List Nat} (G : Good xs ms n m) (hl : xs.length = n) (hml : ms.length = m) (h : BrOk xs n bl) (hK : bl.length = K) (hK2 : K ≤ 4096) : DemOk (linesN xs ms bl K) := by
  refine ⟨by rw [linesN_len]; exact hK2, fun i hk => ?_⟩
  rw [linesN_len] at hk
  rw [gL_lines hk]
  have hb := h.rise.1 i (by omega)
  have := dem_bd (xs := xs) (b := gN bl i) (a := aAt bl i) (c := clAt xs ms bl i) (line_ok (a := aAt bl i) (k := i) hl hml G.m0 hb G.n1 G.R G.M) ⟨(G.R _ hb).c0, (G.R _ hb).c1⟩
  have e : (withD (lnAt xs ms bl i) (demAt xs ms bl i)).dem = demF 31680 xs (lineF xs ms (aAt bl i) (gN bl i) i) (gN bl i) (aAt bl i) (clAt xs ms bl i) := rfl
  rw [e]
  omega

def LsRes (v : Int) (P : List Ln → Prop) (w : World) (e : Ending) (w' : World) : Prop :=
  ∃ (ls : List Ln) (k : Nat) (A' : Option Addr) (c' : Nat), P ls ∧ e = .returned (.tuple #[.slice A' k c', .int .i64 v]) ∧ Sl w' 10 lnC A' k ls ∧ Below w.heap.size w w'
def CoRes (v : Int) (P : List Ln → Prop) (w : World) (e : Ending) (w' : World) : Prop :=
  ∃ ls, P ls ∧ e = .returned (.tuple #[.int .i64 (demS ls), .int .i64 v]) ∧ Below w.heap.size w w'
set_option maxRecDepth 100000 in
set_option maxHeartbeats 2000000 in
theorem Lines_bad (A M B : Option Addr) (n m K c d cB : Nat) (xs : List It) (ms : List Int) (w : World) (ha : Sl w 6 itC A n xs) (hm : Sl w 1 intC M m ms) (hn : n ≤ 4096) (hmm : m ≤ 4096) (h0 : chkB xs ms ≠ 0) :
    Calls Try.prog 30 #[.slice A n c, .slice M m d, .slice B K cB] w fun e w' => LsRes (chkB xs ms) (· = []) w e w' := by
  have cc := fun w h1 h2 => check_any A M n m c d xs ms w h1 h2 hn hmm
  have h1 : (chkB xs ms != 0) = true := by simpa using h0
  clear h0
  generalize chkB xs ms = v at *
  go_enter Try.func30, Try.ntmps30
  go_wp2_with (go_at_call 43; refine (cc _ ha hm).mono ?_; rintro e w1 ⟨rfl, hb1⟩)
  go_ret2
  exact ⟨[], 0, none, 0, rfl, rfl, Sl.nil, hb1⟩
set_option maxRecDepth 100000 in
set_option maxHeartbeats 2000000 in
theorem Cost_of (A M B : Option Addr) (n m K c d cB : Nat) (v : Int) (P : List Ln → Prop) (hP : ∀ ls, P ls → DemOk ls) (w : World)
    (CL : Calls Try.prog 30 #[.slice A n c, .slice M m d, .slice B K cB] w fun e w' => LsRes v P w e w') :
    Calls Try.prog 32 #[.slice A n c, .slice M m d, .slice B K cB] w fun e w' => CoRes v P w e w' := by
  go_enter Try.func32, Try.ntmps32
  go_wp2_with (go_at_call 30; refine CL.mono ?_; rintro e w1 ⟨ls, k0, A1, c1, hp, rfl, hs, hb1⟩)
  have hl := hs.len
  have HD := hP ls hp
  have HD1 := HD.1
  have HB := Lib.hid (fun k (hk : k ≤ k0) => demS_bd HD (k := k) (by omega))
  have HD2 := Lib.hid (fun k (hk : k < k0) => HD.2 k (by omega))
  have HS := Lib.hid (fun k (hk : k < k0) => take_snocL (l := ls) (k := k) (by omega))
  have HE := Lib.hid (show ls.take k0 = ls by rw [← hl, List.take_length])
  have HP := Lib.hid hp
  have hk4 : k0 ≤ 4096 := by omega
  clear hl HD hP hp CL HD1
  go_loopw [10, 22] (fun vn vi wr => ∃ k : Nat, k ≤ k0 ∧ vi = .int .i64 k ∧ vn = .int .i64 (demS (ls.take k)) ∧ Below w.heap.size w wr ∧ Sl wr 10 lnC A1 k0 ls) (fun _ vi _ => k0 - (intOf vi).toNat)
  case atStart => exact ⟨0, Nat.zero_le _, rfl, rfl, hb1, hs⟩
  case round =>
    obtain ⟨k, hk, rfl, rfl, hbw, hsw⟩ := hrel
    by_cases hlt : k < k0
    · obtain ⟨ad, rfl, hla, q0, hq⟩ := hsw.ln hlt
      have q1 := hq 1 _ (by omega) rfl
      have q2 := hq 2 _ (by omega) rfl
      have q3 := hq 3 _ (by omega) rfl
      have q4 := hq 4 _ (by omega) rfl
      have q5 := hq 5 _ (by omega) rfl
      have q6 := hq 6 _ (by omega) rfl
      have q7 := hq 7 _ (by omega) rfl
      have q8 := hq 8 _ (by omega) rfl
      have q9 := hq 9 _ (by omega) rfl
      have bd := HB.out k hk
      have bx := HD2.out k hlt
      have HT := Lib.hid (show demS (ls.take (k + 1)) = demS (ls.take k) + (gL ls k).dem by rw [HS.out k hlt, demS_snoc])
      have hsd := Lib.hid hsw
      clear hq hsw
      generalize demS (ls.take k) = s at *
      generalize gL ls k = x at *
      obtain ⟨xf, xt, xb, xm, xw, xr, xc, xbad, xo, xd⟩ := x
      simp only at *
      go_wp2_with fail
      go_roundw
      case rel => exact ⟨k + 1, by omega, by go_num, by rw [HT.out], hbw.alloc hbw.size _, hsd.out.below ((Below.refl _ _).alloc (Nat.le_refl _) _)⟩
      case measure => simp [intOf]; omega
    · have hkn : k = k0 := by omega
      subst hkn
      rw [HE.out]
      obtain ⟨s, hs2⟩ : ∃ s, s = demS ls := ⟨_, rfl⟩
      rw [← hs2]
      have HQ := Lib.hid hs2
      clear hs2
      go_wp2_with fail
      go_ret2
      exact ⟨ls, HP.out, by rw [← HQ.out]; rfl, hbw⟩
end Go.Proofs.Ytogbapdioccamaa
