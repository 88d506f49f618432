/- law: levels. stylesheet without styles: Check, effective. stylesheet.named, without styles. property.pairs. property.pairs over no properties and a list: the iterator's contract. property.Merge of no properties and a list. stylesheet.only, of properties of that group. stylesheet.Para without styles. -/
import Derived.Test.YthbodpjkckminaaGreatDoorm16
import Derived.Deep.QuietTactic
import Derived.BigQuiet
namespace Go.Proofs.YthbodpjkckminaaGreatDoor
open Go.RowKit

def knL : List Lv := [⟨1, 1, ⟨#[37, 49, 46]⟩, 0⟩, ⟨2, 1, ⟨#[37, 49, 37, 50, 41]⟩, 1⟩]
theorem levels_any (w : World) :
    Calls Tryz.prog 26 #[] w fun e w' => ∃ (A : Option Addr), e = .returned (.slice A 2 2) ∧ Own w' w.heap.size 30 4 lvC A 2 2 knL ∧ Below w.heap.size w w' := by
  have hO := Own.lit (w := w) (B := w.heap.size) (s := 4) (e := 30) (enc := lvC) (xs := knL) (Nat.le_refl _) rfl (by decide)
  rw [show (knL.flatMap lvC).toArray = #[.int .i64 1, .int .i64 1, .string ⟨#[37, 49, 46]⟩, .int .i64 0, .int .i64 2, .int .i64 1, .string ⟨#[37, 49, 37, 50, 41]⟩, .int .i64 1] from rfl] at hO
  go_enter Tryz.func26, Tryz.ntmps26
  go_wp2_with fail
  go_ret
  exact ⟨_, rfl, hO, alloc1 w _⟩
/-- a chain of styles from no style: no round. -/
theorem chain_any (w : World) :
    Calls Tryz.prog 57 #[.slice none 0 0, .int .i64 0] w fun e w' => ∃ q1 q2 : Nat, e = .returned (.func (.func 101) #[] #[.pointer (some ⟨q1, 0, none⟩), .pointer (some ⟨q2, 0, none⟩)]) ∧ Blk w' q1 41 #[.slice none 0 0] ∧ Blk w' q2 3 #[.int .i64 0] ∧ Below w.heap.size w w' := by
  have N1 := (Blk.new w 41 #[.slice none 0 0]).alloc (.cells #[.int .i64 0] 3)
  have N2 := Blk.new (w.alloc (.cells #[.slice none 0 0] 41)) 3 #[.int .i64 0]
  have hb := ((Below.refl w.heap.size w).alloc (Nat.le_refl _) (.cells #[.slice none 0 0] 41)).alloc (by simp) (.cells #[.int .i64 0] 3)
  have N2' : Blk ((w.alloc (.cells #[.slice none 0 0] 41)).alloc (.cells #[.int .i64 0] 3)) (w.heap.size + 1) 3 #[.int .i64 0] := by simpa using N2
  have HF := Lib.hid (And.intro N1 (And.intro N2' hb))
  clear N1 N2 N2' hb
  go_enter Tryz.func57, Tryz.ntmps57
  go_wp2_with fail
  go_ret
  exact ⟨_, _, rfl, HF.out.1, HF.out.2.1, HF.out.2.2⟩
set_option maxRecDepth 100000 in
set_option maxHeartbeats 8000000 in
theorem chain1_in (n : Nat) (l p1 p2 : Nat) (J : List Empty → World → Prop) (W : World) (hAb : _root_.Go.AbidesFrom W.heap.size J) (h1 : Blk W p1 41 #[.slice none 0 0]) (h2 : Blk W p2 3 #[.int .i64 0]) (h0 : J [] W) :
    CallsIn Fence.wide n Tryz.prog 101 #[.func (.yield l) #[] #[], .pointer (some ⟨p1, 0, none⟩), .pointer (some ⟨p2, 0, none⟩)] W fun e W' => (∃ v, e = .returned v) ∧ J [] W' := by
  have q1 := h1.cell 0 rfl
  have q2 := h2.cell 0 rfl
  refine callsIn_of_wp Tryz.func101 rfl trivial ?_ rfl
  simp only [Tryz.ntmps101, List.size_toArray, List.length_cons, List.length_nil, Nat.reduceAdd, Nat.reduceSub, Array.replicate_succ, Array.replicate_zero, List.push_toArray, List.append_toArray, List.nil_append, List.cons_append]
  have hmm := @run_makeMap Tryz.prog
  have hb := alloc1 W (.map #[] 0)
  have J1 : J [] (W.alloc (.map #[] 0)) := hAb [] W _ none h0 ⟨hb.os, hb.tape, hb.output, hb.size, fun k hk _ => hb.block k hk⟩ (fun r e => by cases e)
  have B1 := h1.below hb
  have B2 := h2.below hb
  clear q1 q2 h1 h2 h0 hAb hb
  gi_upto_region 1 with fail
  generalize W.alloc (.map #[] 0) = W1 at *
  have q1 := B1.cell 0 rfl
  have q2 := B2.cell 0 rfl
  clear B1 B2
  gi_wp2
  gi_loopw [12] (fun vi wr => vi = .int .i64 0 ∧ wr = W1) (fun _ _ => 0)
  case atStart => exact ⟨rfl, rfl⟩
  case round =>
    obtain ⟨rfl, rfl⟩ := hrel
    gi_wp2
    gi_loopw [22] (fun _ wr' => wr' = wr) (fun _ _ => 0)
    case atStart => rfl
    case round =>
      subst hrel
      gi_wp2
      go_end0
      exact ⟨⟨_, rfl⟩, J1⟩
theorem chain_stops (n p1 p2 : Nat) (encs : Empty → Array Value) (Kp : World → World → Prop) (w : World) (h1 : Blk w p1 41 #[.slice none 0 0]) (h2 : Blk w p2 3 #[.int .i64 0]) :
    SeqStopsK Fence.wide n Tryz.prog 101 #[.pointer (some ⟨p1, 0, none⟩), .pointer (some ⟨p2, 0, none⟩)] encs Kp (fun ys => ys = []) (fun _ => False) 0 w := fun l J _ W hW hJ _ _ h0 =>
  (chain1_in n l p1 p2 J W hJ (h1.below hW) (h2.below hW) h0).mono (fun _ _ h => ⟨h.1, .inl ⟨_, rfl, h.2⟩⟩)
end Go.Proofs.YthbodpjkckminaaGreatDoor

namespace Go.Proofs.YthbodpjkckminaaGreatDoor
open Go.RowKit

set_option maxRecDepth 100000 in
set_option maxHeartbeats 8000000 in
theorem effective_any (w : World) :
    Calls Tryz.prog 156 #[.slice none 0 0, .int .i64 0] w fun e w' => e = .returned (.slice none 0 0) ∧ Below w.heap.size w w' := by
  have cC := Lib.hid (fun W => chain_any W)
  refine (callsIn_wide (n := 8)).1 ?_
  refine callsIn_of_wp_marks Tryz.func156 rfl trivial ?_ rfl
  simp only [Tryz.ntmps156, List.size_toArray, List.length_cons, List.length_nil, Nat.reduceAdd, Nat.reduceSub, Array.replicate_succ, Array.replicate_zero, List.push_toArray, List.append_toArray, List.nil_append, List.cons_append]
  have N5 := Blk.new w 47 #[.slice none 0 0]
  have hb5 := alloc1 w (.cells #[.slice none 0 0] 47)
  gi_upto_region 2 with fail
  generalize w.alloc (.cells #[.slice none 0 0] 47) = w1 at *
  have hp5 := N5.lt
  gi_wp2_with (refine ⟨trivial, ?_⟩; gi_at_call 57; refine (callsIn_wide.2 (cC.out _)).mono ?_; rintro e w4 HQ; obtain ⟨u1, u2, rfl, N1, N2, hb4⟩ := HQ)
  have N6 := N5.below hb4
  have hb6 := below_trans' hb5 hb5.size hb4
  refine wpIn_rangeFunc_ownH rfl (by omega) (gf := 101) (lb := #[.pointer (some ⟨u1, 0, none⟩), .pointer (some ⟨u2, 0, none⟩)]) rfl trivial (enters_of Tryz.func101 (by kernel_rfl) rfl)
    (chain_stops _ u1 u2 (fun e : Empty => e.elim) (fun _ _ => True) w4 N1 N2) (fun _ _ => trivial) (fun _ _ _ _ _ _ _ _ => trivial) (Below.refl _ _) (fun x => x.elim)
    (fun _ W => Blk W w.heap.size 47 #[.slice none 0 0] ∧ Below w.heap.size w W) (fun _ _ _ => False) ?own (fun _ _ _ _ _ h => h.elim)
    ⟨N6, hb6⟩ (fun x _ _ => x.elim) (fun x => x.elim) (fun _ _ x => x.elim) (fun _ _ x => x.elim) ?done (fun _ _ _ _ _ h => h.elim)
  case own =>
    intro s X Y row h hg hr
    exact ⟨ownFrom_blk _ w.heap.size _ (fun _ : Unit => _) () X Y row h.1 hg hr, h.2.grown hg h.2.size (fun k e => by have := (hr k e).1; have := hb4.size; omega)⟩
  case done =>
    rintro D ys W hD rfl ⟨h1, h2⟩ hK
    have q5 := h1.cell 0 rfl
    gi_wp2
    refine ⟨by simp, .inl ⟨_, _, rfl, run_takeDeferred hK, ?_⟩⟩
    have hsz := hb6.size
    exact ⟨_, results_tmp rfl _ _ _, rfl, h2.grown (grownBy_putObj' W D _) h2.size (fun k e => by cases e; omega)⟩
theorem results_c31 (tmps : Array Value) (w : World) (p2 : Nat) (v : Value) (h2 : tmps.getD 2 undef = .pointer (some ⟨p2, 0, none⟩)) (q2 : w.cell? ⟨p2, 0, none⟩ = some v) :
    (results Tryz.f32 tmps).run Tryz.prog w = .ok v w := by
  have h2' : tmps[2]?.getD undef = .pointer (some ⟨p2, 0, none⟩) := by simpa using h2
  simp [results, h2', asAddr, go_sem, q2]
set_option maxRecDepth 100000 in
set_option maxHeartbeats 8000000 in
theorem stCheck_any (w : World) :
    Calls Tryz.prog 32 #[.slice none 0 0] w fun e w' => e = .returned (.int .i64 0) ∧ Below w.heap.size w w' := by
  have N1 := (Blk.new w 41 #[.slice none 0 0]).alloc (.cells #[.int .i64 0] 31)
  have N2 := Blk.new (w.alloc (.cells #[.slice none 0 0] 41)) 31 #[.int .i64 0]
  have hb := ((Below.refl w.heap.size w).alloc (Nat.le_refl _) (.cells #[.slice none 0 0] 41)).alloc (by simp) (.cells #[.int .i64 0] 31)
  have N2' : Blk ((w.alloc (.cells #[.slice none 0 0] 41)).alloc (.cells #[.int .i64 0] 31)) (w.heap.size + 1) 31 #[.int .i64 0] := by simpa using N2
  clear N2
  go_enter Tryz.func32, Tryz.ntmps32
  go_upto_region 1 with fail
  generalize (w.alloc (.cells #[.slice none 0 0] 41)).alloc (.cells #[.int .i64 0] 31) = W1 at *
  have q1 := N1.cell 0 rfl
  have q2 := N2'.cell 0 rfl
  have f2 := N2'.frozen 0
  have hb2 := hb.setCell (p := ⟨w.heap.size + 1, 0, none⟩) (show w.heap.size ≤ w.heap.size + 1 by omega) (.int .i64 0)
  have hq := (N2'.set_ 0 (.int .i64 0)).cell 0 rfl
  have HB := Lib.hid (And.intro hb2 hq)
  clear hb hb2 hq N1 N2'
  generalize w.heap.size + 1 = p2 at *
  go_wp2_with fail
  go_loopw [15] (fun vi wr => vi = .int .i64 0 ∧ wr = W1) (fun _ _ => 0)
  case atStart => exact ⟨rfl, rfl⟩
  case round =>
    obtain ⟨rfl, rfl⟩ := hrel
    go_wp2_with fail
    go_loopw [27] (fun vi wr' => vi = .int .i64 0 ∧ wr' = wr) (fun _ _ => 0)
    case atStart => exact ⟨rfl, rfl⟩
    case round =>
      obtain ⟨rfl, rfl⟩ := hrel
      go_wp2_with fail
      go_loopw [63] (fun vi wr'' => vi = .int .i64 0 ∧ wr'' = wr) (fun _ _ => 0)
      case atStart => exact ⟨rfl, rfl⟩
      case round =>
        obtain ⟨rfl, rfl⟩ := hrel
        go_wp2_with fail
        refine bodyPost_ret (results_c31 _ _ p2 _ rfl HB.out.2) rfl ?_
        exact ⟨rfl, HB.out.1⟩
end Go.Proofs.YthbodpjkckminaaGreatDoor

namespace Go.Proofs.YthbodpjkckminaaGreatDoor
open Go.RowKit

set_option maxRecDepth 100000 in
set_option maxHeartbeats 4000000 in
theorem named_any (A : Option Addr) (n c : Nat) (ps : List Pr) (x y : Int) (w : World) (ha : Sl w 2 prC A n ps) (hbig : n ≤ 1000000) (hs : (keyL ps).Pairwise (· ≤ ·)) (hx : getV ps x = 0) :
    Calls Tryz.prog 126 #[.slice none 0 0, .slice A n c, .int .i64 x, .int .i64 y] w fun e w' => e = .returned (.tuple #[.slice none 0 0, .int .i64 0]) ∧ Below w.heap.size w w' := by
  have cG := get_any A n c ps x w ha hbig hs
  rw [hx] at cG
  have cE := Lib.hid (fun W => effective_any W)
  generalize (keyL ps).contains x = b at *
  go_enter Tryz.func126, Tryz.ntmps126
  go_upto_region 2 with (go_at_call 74; refine cG.mono ?_; rintro e w1 ⟨rfl, hb1⟩)
  go_wp2_with (go_at_call 156; refine (cE.out _).mono ?_; rintro e w2 ⟨rfl, hb2⟩)
  go_ret2
  exact ⟨rfl, below_trans' hb1 hb1.size hb2⟩
end Go.Proofs.YthbodpjkckminaaGreatDoor

namespace Go.Proofs.YthbodpjkckminaaGreatDoor
open Go.RowKit

theorem pairs_any (A1 : Option Addr) (n1 c1 : Nat) (A2 : Option Addr) (n2 c2 : Nat) (w : World) :
    Calls Tryz.prog 161 #[(.slice A1 n1 c1), (.slice A2 n2 c2)] w fun e w' => ∃ q1 q2 : Nat, e = .returned (.func (.func 184) #[] #[.pointer (some ⟨q1, 0, none⟩), .pointer (some ⟨q2, 0, none⟩)]) ∧ Blk w' q1 47 #[(.slice A1 n1 c1)] ∧ Blk w' q2 47 #[(.slice A2 n2 c2)] ∧ w.heap.size ≤ q1 ∧ w.heap.size ≤ q2 ∧ Below w.heap.size w w' := by
  have N1 := (Blk.new w 47 #[(.slice A1 n1 c1)]).alloc (.cells #[(.slice A2 n2 c2)] 47)
  have N2 := Blk.new (w.alloc (.cells #[(.slice A1 n1 c1)] 47)) 47 #[(.slice A2 n2 c2)]
  have hb := ((Below.refl w.heap.size w).alloc (Nat.le_refl _) (.cells #[(.slice A1 n1 c1)] 47)).alloc (by simp) (.cells #[(.slice A2 n2 c2)] 47)
  have N2' : Blk ((w.alloc (.cells #[(.slice A1 n1 c1)] 47)).alloc (.cells #[(.slice A2 n2 c2)] 47)) (w.heap.size + 1) 47 #[(.slice A2 n2 c2)] := by simpa using N2
  have HF := Lib.hid (And.intro N1 (And.intro N2' hb))
  clear N1 N2 N2' hb
  go_enter Tryz.func161, Tryz.ntmps161
  go_wp2_with fail
  go_ret
  exact ⟨_, _, rfl, HF.out.1, HF.out.2.1, Nat.le_refl _, by omega, HF.out.2.2⟩
end Go.Proofs.YthbodpjkckminaaGreatDoor

namespace Go.Proofs.YthbodpjkckminaaGreatDoor
open Go.RowKit
attribute [local go_sem] Oper.semAt_some

/-- what a round over pairs may turn below N0: block p alone. -/
structure KpP (N0 p : Nat) (W W' : World) : Prop where
  low : ∀ k, k < N0 → k ≠ p → W'.heap[k]? = W.heap[k]?
  sz : W.heap.size ≤ W'.heap.size
theorem KpP.trans_ {N0 p : Nat} {X Y Z : World} (h : KpP N0 p X Y) (k : KpP N0 p Y Z) : KpP N0 p X Z := ⟨fun i hi hp => (k.low i hi hp).trans (h.low i hi hp), Nat.le_trans h.sz k.sz⟩
theorem KpP.put_ {N0 p : Nat} {w : World} (h0 : N0 ≤ w.heap.size) (W : World) (l : Nat) (o o' : Obj) (hl : w.heap.size ≤ l) (ho : W.heap[l]? = some o) (_ : o.isCells = false) (_ : o.isWalk = false) : KpP N0 p W (W.putObj l o') := by
  have hlt : l < W.heap.size := (Array.getElem?_eq_some_iff.1 ho).1
  exact ⟨fun k hk _ => (grownBy_putObj' W l o').block k (by omega) (by simp; omega), (grownBy_putObj' W l o').size⟩
theorem KpP.of_below {N0 p : Nat} {W W' : World} (h : Below W.heap.size W W') (h0 : N0 ≤ W.heap.size) : KpP N0 p W W' := ⟨fun k hk _ => h.block k (by omega), h.size⟩
theorem KpP.grow {N0 p : Nat} {W v v' : World} {row : Option Nat} (h : KpP N0 p W v) (hg : v.grownBy v' row) (hr : ∀ j, row = some j → N0 ≤ j ∨ j = p) (hN : N0 ≤ v.heap.size) : KpP N0 p W v' :=
  ⟨fun k hk hp => (hg.block k (by omega) (fun e => by rcases hr k e.symm with h | h; omega; exact hp h)).trans (h.low k hk hp), Nat.le_trans h.sz hg.size⟩
structure PzS (N0 p q1 q2 : Nat) (A : Option Addr) (n c : Nat) (ps : List Pr) (W : World) : Prop where
  b1 : Blk W q1 47 #[.slice none 0 0]
  b2 : Blk W q2 47 #[.slice A n c]
  s : Slb W 2 prC A n ps
  l1 : q1 < N0 ∧ q1 ≠ p
  l2 : q2 < N0 ∧ q2 ≠ p
  la : 0 < n → ∀ ad, A = some ad → ad.block < N0 ∧ ad.block ≠ p
theorem Slb.lowP {α : Type} {w w' : World} {s : Nat} {enc : α → List Value} {A : Option Addr} {n : Nat} {xs : List α} (h : Slb w s enc A n xs) {N0 p : Nat} (hl : 0 < n → ∀ ad, A = some ad → ad.block < N0 ∧ ad.block ≠ p) (hN : N0 ≤ w'.heap.size) (hk : KpP N0 p w w') : Slb w' s enc A n xs :=
  ⟨h.len, fun hn => by
    obtain ⟨g, o, e, hg, hc⟩ := h.rd hn
    obtain ⟨h1, h2⟩ := hl hn _ e
    have hb := hk.low g h1 h2
    exact ⟨g, o, e, Nat.lt_of_lt_of_le h1 hN, fun i x hx j u hu => (World.cell?_of_block (a := ⟨g, o + i * s + j, none⟩) hb).trans (hc i x hx j u hu)⟩⟩
theorem PzS.kp {N0 p q1 q2 : Nat} {A : Option Addr} {n c : Nat} {ps : List Pr} {W W' : World} (h : PzS N0 p q1 q2 A n c ps W) (hN : N0 ≤ W'.heap.size) (hk : KpP N0 p W W') : PzS N0 p q1 q2 A n c ps W' :=
  ⟨(hk.low q1 h.l1.1 h.l1.2).trans h.b1, (hk.low q2 h.l2.1 h.l2.2).trans h.b2, h.s.lowP h.la hN hk, h.l1, h.l2, h.la⟩
theorem PzS.below {N0 p q1 q2 : Nat} {A : Option Addr} {n c : Nat} {ps : List Pr} {W W' : World} (h : PzS N0 p q1 q2 A n c ps W) (hb : Below W.heap.size W W') : PzS N0 p q1 q2 A n c ps W' :=
  ⟨h.b1.below hb, h.b2.below hb, h.s.below hb, h.l1, h.l2, h.la⟩
theorem PzS.drew {N0 p q1 q2 : Nat} {A : Option Addr} {n c : Nat} {ps : List Pr} {W : World} (h : PzS N0 p q1 q2 A n c ps W) : PzS N0 p q1 q2 A n c ps W.drew := h.below (bDrew (Below.refl _ _))
theorem abG {β : Type} {J : β → World → Prop} {B : Nat} {X Y : World} {pre : β} (hAb : _root_.Go.AbidesFrom B J) (hJ : J pre X) (hb : Below X.heap.size X Y) : J pre Y := hAb pre X Y none hJ ⟨hb.os, hb.tape, hb.output, hb.size, fun k hk _ => hb.block k hk⟩ (fun r e => by cases e)
def ptK (A : Option Addr) (k : Nat) : Value := .pointer (A.map fun a => ⟨a.block, a.off + k * 2, none⟩)
set_option maxRecDepth 100000 in
set_option maxHeartbeats 8000000 in
theorem pairs1_in (n : Nat) (l q1 q2 N0 p : Nat) (A : Option Addr) (m c : Nat) (ps : List Pr) (hm : m ≤ 1000000) (J Jx : List (Fin m) → World → Prop)
    (hY : ∀ pre x W, J pre W → pre.length < m → YieldAt Fence.wide (n - 1) Tryz.prog l #[.pointer none, ptK A x.val] W fun e W' =>
      (e = .returned (.bool true) ∧ J (pre ++ [x]) W' ∧ KpP N0 p W W') ∨ (e = .returned (.bool false) ∧ Jx (pre ++ [x]) W'))
    (W : World) (hAb : _root_.Go.AbidesFrom W.heap.size J) (hN : N0 ≤ W.heap.size) (hS : PzS N0 p q1 q2 A m c ps W) (h0 : J [] W) :
    CallsIn Fence.wide n Tryz.prog 184 #[.func (.yield l) #[] #[], .pointer (some ⟨q1, 0, none⟩), .pointer (some ⟨q2, 0, none⟩)] W fun e W' => (∃ v, e = .returned v) ∧
      ((∃ ys, ys.map (·.val) = List.range m ∧ J ys W') ∨ (∃ pre, (∃ k, k < m ∧ pre.map (·.val) = List.range (k + 1)) ∧ Jx pre W')) := by
  refine callsIn_of_wp Tryz.func184 rfl trivial ?_ rfl
  simp only [Tryz.ntmps184, List.size_toArray, List.length_cons, List.length_nil, Nat.reduceAdd, Nat.reduceSub, Array.replicate_succ, Array.replicate_zero, List.push_toArray, List.append_toArray, List.nil_append, List.cons_append]
  gi_wp2
  gi_loopw [4, 5] (fun va vi wr => ∃ i : Nat, va = .int .i64 0 ∧ vi = .int .i64 i ∧ i ≤ m ∧ N0 ≤ wr.heap.size ∧ (∃ ys : List (Fin m), ys.map (·.val) = List.range i ∧ J ys wr) ∧ PzS N0 p q1 q2 A m c ps wr) (fun _ vi _ => m - (intOf vi).toNat)
  case atStart => exact ⟨0, rfl, rfl, Nat.zero_le _, hN, ⟨[], rfl, h0⟩, hS⟩
  case round =>
    obtain ⟨i, rfl, rfl, hi, hN1, ⟨ys, hys, hJ⟩, hS1⟩ := hrel
    clear hS h0 hN
    have hyl : ys.length = i := by have := congrArg List.length hys; simpa using this
    have HYS := Lib.hid hys
    have HYL := Lib.hid hyl
    clear hys hyl
    have c1 := hS1.b1.cell 0 rfl
    have c2 := hS1.b2.cell 0 rfl
    by_cases hlt : i < m
    · have hlt' : (i : Int) < m := by omega
      have hne : ((i : Int) == (m : Int)) = false := beq_eq_false_iff_ne.2 (by omega)
      obtain ⟨g, o, e, hg, hr⟩ := hS1.s.at_ ⟨0, 0⟩ hlt
      subst e
      gi_upto_region 3 with fail
      refine wpIn_wide.2 ?_
      go_quiet (fail)
      have hb2 := below_drewN (Below.refl wr.heap.size wr) nq
      have hS2 := hS1.below hb2
      have hJ2 := abG hAb hJ hb2
      have hN2 := Nat.le_trans hN1 hb2.size
      clear hS1 hJ hN1 c1 c2 hb2 hr
      generalize wr.drewN nq = W1 at *
      have c1 := hS2.b1.cell 0 rfl
      have c2 := hS2.b2.cell 0 rfl
      gi_upto_region 5 with fail
      refine wpIn_wide.2 ?_
      go_quiet (fail)
      have hb2 := below_drewN (Below.refl W1.heap.size W1) nq
      have hS3 := hS2.below hb2
      have hJ3 := abG hAb hJ2 hb2
      have hN3 := Nat.le_trans hN2 hb2.size
      clear hS2 hJ2 hN2 c1 c2 hb2
      generalize W1.drewN nq = W2 at *
      have c2 := hS3.b2.cell 0 rfl
      have hw1 : IntKind.i64.wrap ((i : Int) + 1) = (i : Int) + 1 := IntWalk.i64_in _ (by omega)
      have hY2 := hY ys ⟨i, hlt⟩ W2 hJ3 (by rw [HYL.out]; exact hlt)
      rw [show ptK (some ⟨g, o, none⟩) (⟨i, hlt⟩ : Fin m).val = .pointer (some ⟨g, o + i * 2, none⟩) from rfl] at hY2
      obtain ⟨fn, tmps, assign, body, hy, hR⟩ := hY2
      clear hY hJ3
      gi_wp2
      refine ⟨fun hh => by simp [Fence.wide] at hh, hR.mono ?_⟩
      rintro e W3 (⟨rfl, hJ4, hk4⟩ | ⟨rfl, hJx4⟩)
      · have hN4 := Nat.le_trans hN3 hk4.sz
        have hS4 := hS3.kp hN4 hk4
        gi_wp2
        go_roundw
        case rel => exact ⟨i + 1, by simp, by simp, by omega, hN4, ⟨_, by rw [List.map_append, HYS.out, List.range_succ]; rfl, hJ4⟩, hS4⟩
        case measure => rw [intOf, intOf]; omega
      · gi_wp2
        refine bodyPost_ret (results_none rfl _ _ _) rfl ?_
        exact ⟨⟨_, rfl⟩, .inr ⟨_, ⟨i, hlt, by rw [List.map_append, HYS.out, List.range_succ]; rfl⟩, hJx4⟩⟩
    · have : i = m := by omega
      subst this
      gi_wp2
      go_end0
      exact ⟨⟨_, rfl⟩, .inl ⟨_, HYS.out, hJ⟩⟩
end Go.Proofs.YthbodpjkckminaaGreatDoor

namespace Go.Proofs.YthbodpjkckminaaGreatDoor
open Go.RowKit
attribute [local go_sem] Oper.semAt_some

def MgPost (w : World) (ps : List Pr) (e : Ending) (w' : World) : Prop := ∃ (A' : Option Addr) (c' : Nat), e = .returned (.slice A' ps.length c') ∧ Own w' w.heap.size 91 2 prC A' ps.length c' ps ∧ Below w.heap.size w w'
def MgI (w : World) (B p5 : Nat) (ps : List Pr) (m : Nat) (pre : List (Fin m)) (W : World) : Prop :=
  ∃ (A1 : Option Addr) (c1 : Nat), Blk W p5 47 #[.slice A1 pre.length c1] ∧ Own W B 91 2 prC A1 pre.length c1 (pre.map fun x => gP2 ps x.val) ∧ Below w.heap.size w W ∧ (pre.length = 0 → A1 = none) ∧ B ≤ W.heap.size
theorem MgI.own {w : World} {B p5 m : Nat} {ps : List Pr} (hB : w.heap.size ≤ B) : OwnFrom B (MgI w B p5 ps m) := fun s X Y row h hg hr => by
  obtain ⟨A1, c1, h1, h2, h3, h4, h5⟩ := h
  exact ⟨A1, c1, ownFrom_blk B p5 _ (fun _ : Unit => _) () X Y row h1 hg hr, h2.others_ hg (fun r e => (hr r e).2), h3.grown hg h3.size (fun k e => Nat.le_trans hB (hr k e).1), h4, Nat.le_trans h5 hg.size⟩
theorem size_pr : (Tryz.prog.info? 91).map (·.size) = some 2 := by kernel_rfl
theorem pairs_stops (n q1 q2 N0 p : Nat) (A : Option Addr) (m c : Nat) (ps : List Pr) (w : World) (hm : m ≤ 1000000) (hN : N0 ≤ w.heap.size) (hS : PzS N0 p q1 q2 A m c ps w) :
    SeqStopsK Fence.wide n Tryz.prog 184 #[.pointer (some ⟨q1, 0, none⟩), .pointer (some ⟨q2, 0, none⟩)] (fun x : Fin m => #[Value.pointer none, ptK A x.val]) (KpP N0 p) (fun ys => ys.map (·.val) = List.range m) (fun pre => ∃ k, k < m ∧ pre.map (·.val) = List.range (k + 1)) m w := fun l J Jx W hW hJ _ hY h0 =>
  pairs1_in n l q1 q2 N0 p A m c ps hm J Jx hY W hJ (Nat.le_trans hN hW.size) (hS.below hW) h0
set_option maxRecDepth 100000 in
set_option maxHeartbeats 8000000 in
theorem merge_any (A : Option Addr) (m c : Nat) (ps : List Pr) (w : World) (ha : Slb w 2 prC A m ps) (hm : m ≤ 1000000) :
    Calls Tryz.prog 128 #[.slice none 0 0, .slice A m c] w (MgPost w ps) := by
  have hln := ha.len
  have hLow := ha.lowW
  have cP := Lib.hid (fun W => pairs_any none 0 0 A m c W)
  have HP := Lib.hid (show ∀ e w', (∃ (A' : Option Addr) (c' : Nat), e = .returned (.slice A' ps.length c') ∧ Own w' w.heap.size 91 2 prC A' ps.length c' ps ∧ Below w.heap.size w w') → MgPost w ps e w' from fun _ _ h => h)
  have N5 := Blk.new w 47 #[.slice none 0 0]
  have hb5 := alloc1 w (.cells #[.slice none 0 0] 47)
  refine (callsIn_wide (n := 8)).1 ?_
  refine callsIn_of_wp_marks Tryz.func128 rfl trivial ?_ rfl
  simp only [Tryz.ntmps128, List.size_toArray, List.length_cons, List.length_nil, Nat.reduceAdd, Nat.reduceSub, Array.replicate_succ, Array.replicate_zero, List.push_toArray, List.append_toArray, List.nil_append, List.cons_append]
  gi_upto_region 2 with fail
  generalize w.alloc (.cells #[.slice none 0 0] 47) = w1 at *
  obtain ⟨p5, hp5⟩ : ∃ p, p = w.heap.size := ⟨_, rfl⟩
  rw [← hp5] at N5 ⊢
  have hlo5 : w.heap.size ≤ p5 := by omega
  have hLA := Lib.hid (show ∀ ad, 0 < m → A = some ad → ad.block < p5 from fun ad h0 e => by rw [hp5]; exact hLow h0 ad e)
  clear hLow hp5
  gi_wp2_with (refine ⟨trivial, ?_⟩; gi_at_call 161; refine (callsIn_wide.2 (cP.out _)).mono ?_; rintro e w4 HQ; obtain ⟨u1, u2, rfl, N1, N2, hu1, hu2, hb4⟩ := HQ)
  have hbw := below_trans' hb5 hb5.size hb4
  have hp5l := N5.lt
  have N5 := N5.below hb4
  have hz4 := hb4.size
  have ha4 := ha.below hbw
  have hne1 : u1 ≠ p5 := by omega
  have hne2 : u2 ≠ p5 := by omega
  have HPZ := Lib.hid (show PzS w4.heap.size p5 u1 u2 A m c ps w4 from ⟨N1, N2, ha4, ⟨N1.lt, hne1⟩, ⟨N2.lt, hne2⟩, fun h0 ad e => by have := hLA.out ad h0 e; omega⟩)
  clear cP hb5 hb4 hu1 hu2 N1 N2 ha4
  refine wpIn_rangeFunc_ownH rfl (by omega) (gf := 184) (lb := #[.pointer (some ⟨u1, 0, none⟩), .pointer (some ⟨u2, 0, none⟩)]) rfl trivial (enters_of Tryz.func184 (by kernel_rfl) rfl)
    (pairs_stops _ u1 u2 w4.heap.size p5 A m c ps w4 hm (Nat.le_refl _) HPZ.out) KpP.trans_ (KpP.put_ (Nat.le_refl _)) (Below.refl _ _) (fun _ => rfl)
    (MgI w w4.heap.size p5 ps m) (fun _ _ _ => False) (MgI.own hbw.size) (fun _ _ _ _ _ h _ _ => h.elim)
    ⟨none, 0, N5, Own.nil_ _ _ _ _ _, hbw, fun _ => rfl, Nat.le_refl _⟩
    (fun x a' _ => a' = { tmps := #[.slice none 0 0, .slice A m c, undef, undef, .slice none 0 0, .pointer (some ⟨p5, 0, none⟩), .pointer none, ptK A x.val, .slice none 0 0, .slice A m c, .func (.func 184) #[] #[.pointer (some ⟨u1, 0, none⟩), .pointer (some ⟨u2, 0, none⟩)], .pointer none, ptK A x.val, undef, undef, undef, undef, undef, undef, undef, undef, undef, undef, undef, undef, undef, undef, undef], defers := [] })
    (fun x a' => fun _ X Y row h hg hr => h) ?assign ?body ?done ?stop
  case assign =>
    intro l pre x W K hI hK
    have HK := Lib.hid (fun a' => hK a' W ((KeepsOthers.refl W).from _) ⟨fun _ _ _ => rfl, Nat.le_refl _⟩ hI)
    clear hK
    gi_wp2
    exact HK.out _ rfl
  case body =>
    rintro l pre ⟨x, hx⟩ a' W hl _ ⟨A1, c1, h1, h2, h3, h4, h5⟩ rfl hlt
    obtain ⟨g, o, e, hg, hr⟩ := (ha.below h3).at_ ⟨0, 0⟩ hx
    rw [show ps.getD x ⟨0, 0⟩ = gP2 ps x from rfl] at hr
    have hgl : g < p5 := hLA.out _ (by omega) e
    subst e
    have FIN := Lib.hid (show ∀ v A3 c3, Blk v p5 47 #[.slice A3 (pre.length + 1) c3] → Own v w4.heap.size 91 2 prC A3 (pre.length + 1) c3 ((pre.map fun x => gP2 ps x.val) ++ [gP2 ps x]) → Below w.heap.size w v → w4.heap.size ≤ v.heap.size → MgI w w4.heap.size p5 ps m (pre ++ [⟨x, hx⟩]) v from fun v A3 c3 b1 b2 b3 b4 => ⟨A3, c3, by rw [List.length_append, List.length_singleton]; exact b1, by rw [List.length_append, List.length_singleton, List.map_append]; exact b2, b3, fun e => by rw [List.length_append, List.length_singleton] at e; omega, b4⟩)
    generalize (pre.map fun x => gP2 ps x.val) = zs at *
    generalize gP2 ps x = y at *
    generalize hk : pre.length = k at *
    rw [show ptK (some ⟨g, o, none⟩) x = .pointer (some ⟨g, o + x * 2, none⟩) from rfl]
    gi_upto_region 6 with fail
    have hgp : g ≠ p5 := by omega
    have D1 := h1.drewN 1
    have D2 := h2.drewN 1
    have D3 := below_drewN h3 1
    have DK : KpP w4.heap.size p5 W (W.drewN 1) := ⟨fun _ _ _ => rfl, Nat.le_refl _⟩
    have DO : KeepsOthers W (W.drewN 1) := others_below (bDrew (Below.refl _ W))
    have D5 : w4.heap.size ≤ (W.drewN 1).heap.size := h5
    refine wpIn_region_hand (S := fun w' => w'.rangeAt g (o + x * 2) (prC y)) l _ (by kernel_rfl) (by kernel_rfl) hr (fun hHeld => ?_)
    change wpAnyH _ _ _ _ _ _ _ _ (W.drewN 1)
    rw [show W.drew = W.drewN 1 from rfl] at hHeld
    generalize W.drewN 1 = wd at *
    clear h1 h2 h3 h5 hr
    have B1 := D1.alloc (.cells (prC y).toArray 91)
    have B2 := D2.alloc (.cells (prC y).toArray 91)
    have hal := alloc1 wd (.cells (prC y).toArray 91)
    have BH : (wd.alloc (.cells (prC y).toArray 91)).rangeAt g (o + x * 2) (prC y) := fun j u hu => keepC hal (hHeld j u hu)
    have q5 := D1.cell 0 rfl
    have q5' := B1.cell 0 rfl
    refine hx_take 1 (some 16) _ rfl (by kernel_rfl) (by kernel_rfl) (by kernel_rfl) (fun _ _ _ h => by cases h.1) rfl (Or.inl ⟨by rfl, fun w hSw => by first | (go_simp; done) | (go_simp; with_reducible rfl) | (go_simp; rfl)⟩) (by assumption) ?_
    try simp only [Act.put, List.setIfInBounds_toArray, List.set_cons_zero, List.set_cons_succ]
    refine hx_take 2 (some 17) _ rfl (by kernel_rfl) (by kernel_rfl) (by kernel_rfl) (fun _ _ _ h => by cases h.1) rfl (Or.inl ⟨by rfl, fun w hSw => by first | (go_simp; done) | (go_simp; with_reducible rfl) | (go_simp; rfl)⟩) (by assumption) ?_
    try simp only [Act.put, List.setIfInBounds_toArray, List.set_cons_zero, List.set_cons_succ]
    refine hx_take 3 (some 18) (.agg (prC y).toArray) rfl (by kernel_rfl) (by kernel_rfl) (by kernel_rfl) (fun _ _ _ h => by cases h.1) rfl (yieldsIf_load_mid (by rfl) _ _ rfl g (o + x * 2) rfl (prC y) _ (fun w hSw => hSw) Tryz.underlying91 rfl size_pr) (by assumption) ?_
    try simp only [Act.put, List.setIfInBounds_toArray, List.set_cons_zero, List.set_cons_succ]
    refine hx2 0 4 (by kernel_rfl) ?_ ?_
    · refine hx_val 0 (some 15) (.slice A1 k c1) wd rfl (by rfl) rfl (by go_simp) hHeld ?_
      try simp only [Act.put, List.setIfInBounds_toArray, List.set_cons_zero, List.set_cons_succ]
      refine hx1 4 (by kernel_rfl) ?_
      refine hx_val 4 (some 19) (.slice (some ⟨wd.heap.size, 0, none⟩) 1 1) (wd.alloc (.cells (prC y).toArray 91)) rfl (by rfl) rfl (by first | (go_simp; done) | (go_simp; rfl)) BH ?_
      try simp only [Act.put, List.setIfInBounds_toArray, List.set_cons_zero, List.set_cons_succ]
      refine hx1 5 (by kernel_rfl) ?_
      refine hx_pushS 5 (some 20) elemPr (.tmp 15) (.tmp 19) rfl (by rfl) rfl rfl rfl wd.heap.size rfl B2 h4 y (Blk.new _ _ _) (prC_one _) rfl ⟨by omega, by unfold maxLen; omega⟩ (Nat.le_trans D5 hal.size) ?_
      rintro A3 c3 w5 row hO hgr hc
      have hrow : ∀ j, row = some j → w4.heap.size ≤ j := fun j e => by
        rcases hc with ⟨rfl, _⟩ | ⟨g', eA, _, rfl, _⟩
        · cases e
        · cases e; exact (B2.lt _ (by rw [eA]; rfl)).1
      have hb6 : Below w.heap.size w w5 := (D3.alloc D3.size _).grown hgr (Nat.le_trans D3.size hal.size) (fun j e => Nat.le_trans hbw.size (hrow j e))
      have hne : row ≠ some p5 := fun e => by have := hrow p5 e; omega
      have H5 : w5.rangeAt g (o + x * 2) (prC y) := fun j u hu => (World.cell?_of_block (a := ⟨g, _, none⟩) (hgr.block g (by simp; omega) (fun e => by have := hrow g e.symm; omega))).trans (BH j u hu)
      have E1 := B1.keep hgr hne
      have f5 := E1.frozen 0
      have e5 := E1.cell 0 rfl
      have K5 := ((KpP.trans_ DK (KpP.of_below hal D5)).grow hgr (fun j e => .inl (hrow j e)) (Nat.le_trans D5 hal.size))
      have O5 : KeepsOthers W w5 := (DO.trans (others_below hal)).trans (KeepsOthers.of_grownBy hgr fun j o ej hj => by
        rcases hc with ⟨rfl, _⟩ | ⟨g', eA, _, rfl, _⟩
        · cases ej
        · cases ej
          obtain ⟨cur, hcu⟩ := B2.heap_at (g := j) (by rw [eA]; rfl)
          rw [hcu] at hj; cases hj; rfl)
      have hG := gset w5 p5 0 (.slice A3 (k + 1) c3)
      have KF := K5.grow hG (fun j e => .inr (by cases e; rfl)) (Nat.le_trans D5 (Nat.le_trans hal.size hgr.size))
      have FF := FIN.out _ A3 c3 (E1.set_ 0 _) (hO.keep hG (fun j e ej => by cases e; exact hO.ne_blk E1 (by decide) ej)) (hb6.setCell (p := ⟨p5, 0, none⟩) hlo5 _) (Nat.le_trans D5 (Nat.le_trans hal.size (Nat.le_trans hgr.size hG.size)))
      have H6 : (w5.setCell ⟨p5, 0, none⟩ (.slice A3 (k + 1) c3)).rangeAt g (o + x * 2) (prC y) := fun j u hu => (World.cell?_of_block (a := ⟨g, _, none⟩) (hG.block g (by have := hgr.size; simp at this; omega) (by simp; exact hgp))).trans (H5 j u hu)
      refine ⟨H5, ?_⟩
      try simp only [Act.put, List.setIfInBounds_toArray, List.set_cons_zero, List.set_cons_succ]
      refine hx1 6 (by kernel_rfl) ?_
      refine hx_store1 6 p5 (.slice A3 (k + 1) c3) rfl (by rfl) rfl (by go_simp) H6 ?_
      refine wpAnyH_done (by kernel_rfl) ?_ _
      refine ⟨rfl, ?_⟩
      have FIN2 := Lib.hid (And.intro ((O5.trans (KeepsOthers.setCell w5 ⟨p5, 0, none⟩ (.slice A3 (k + 1) c3))).from w4.heap.size) (And.intro KF FF))
      clear KF FF H6 H5 K5 O5 E1 hO hgr hc
      gi_wp2
      exact FIN2.out
    · refine hx_val 4 (some 19) (.slice (some ⟨wd.heap.size, 0, none⟩) 1 1) (wd.alloc (.cells (prC y).toArray 91)) rfl (by rfl) rfl (by first | (go_simp; done) | (go_simp; rfl)) BH ?_
      try simp only [Act.put, List.setIfInBounds_toArray, List.set_cons_zero, List.set_cons_succ]
      refine hx1 0 (by kernel_rfl) ?_
      refine hx_val 0 (some 15) (.slice A1 k c1) _ rfl (by rfl) rfl (by go_simp) BH ?_
      try simp only [Act.put, List.setIfInBounds_toArray, List.set_cons_zero, List.set_cons_succ]
      refine hx1 5 (by kernel_rfl) ?_
      refine hx_pushS 5 (some 20) elemPr (.tmp 15) (.tmp 19) rfl (by rfl) rfl rfl rfl wd.heap.size rfl B2 h4 y (Blk.new _ _ _) (prC_one _) rfl ⟨by omega, by unfold maxLen; omega⟩ (Nat.le_trans D5 hal.size) ?_
      rintro A3 c3 w5 row hO hgr hc
      have hrow : ∀ j, row = some j → w4.heap.size ≤ j := fun j e => by
        rcases hc with ⟨rfl, _⟩ | ⟨g', eA, _, rfl, _⟩
        · cases e
        · cases e; exact (B2.lt _ (by rw [eA]; rfl)).1
      have hb6 : Below w.heap.size w w5 := (D3.alloc D3.size _).grown hgr (Nat.le_trans D3.size hal.size) (fun j e => Nat.le_trans hbw.size (hrow j e))
      have hne : row ≠ some p5 := fun e => by have := hrow p5 e; omega
      have H5 : w5.rangeAt g (o + x * 2) (prC y) := fun j u hu => (World.cell?_of_block (a := ⟨g, _, none⟩) (hgr.block g (by simp; omega) (fun e => by have := hrow g e.symm; omega))).trans (BH j u hu)
      have E1 := B1.keep hgr hne
      have f5 := E1.frozen 0
      have e5 := E1.cell 0 rfl
      have K5 := ((KpP.trans_ DK (KpP.of_below hal D5)).grow hgr (fun j e => .inl (hrow j e)) (Nat.le_trans D5 hal.size))
      have O5 : KeepsOthers W w5 := (DO.trans (others_below hal)).trans (KeepsOthers.of_grownBy hgr fun j o ej hj => by
        rcases hc with ⟨rfl, _⟩ | ⟨g', eA, _, rfl, _⟩
        · cases ej
        · cases ej
          obtain ⟨cur, hcu⟩ := B2.heap_at (g := j) (by rw [eA]; rfl)
          rw [hcu] at hj; cases hj; rfl)
      have hG := gset w5 p5 0 (.slice A3 (k + 1) c3)
      have KF := K5.grow hG (fun j e => .inr (by cases e; rfl)) (Nat.le_trans D5 (Nat.le_trans hal.size hgr.size))
      have FF := FIN.out _ A3 c3 (E1.set_ 0 _) (hO.keep hG (fun j e ej => by cases e; exact hO.ne_blk E1 (by decide) ej)) (hb6.setCell (p := ⟨p5, 0, none⟩) hlo5 _) (Nat.le_trans D5 (Nat.le_trans hal.size (Nat.le_trans hgr.size hG.size)))
      have H6 : (w5.setCell ⟨p5, 0, none⟩ (.slice A3 (k + 1) c3)).rangeAt g (o + x * 2) (prC y) := fun j u hu => (World.cell?_of_block (a := ⟨g, _, none⟩) (hG.block g (by have := hgr.size; simp at this; omega) (by simp; exact hgp))).trans (H5 j u hu)
      refine ⟨H5, ?_⟩
      try simp only [Act.put, List.setIfInBounds_toArray, List.set_cons_zero, List.set_cons_succ]
      refine hx1 6 (by kernel_rfl) ?_
      refine hx_store1 6 p5 (.slice A3 (k + 1) c3) rfl (by rfl) rfl (by go_simp) H6 ?_
      refine wpAnyH_done (by kernel_rfl) ?_ _
      refine ⟨rfl, ?_⟩
      have FIN2 := Lib.hid (And.intro ((O5.trans (KeepsOthers.setCell w5 ⟨p5, 0, none⟩ (.slice A3 (k + 1) c3))).from w4.heap.size) (And.intro KF FF))
      clear KF FF H6 H5 K5 O5 E1 hO hgr hc
      gi_wp2
      exact FIN2.out
  case done =>
    rintro D zs W hD hzs ⟨A1, c1, h1, h2, h3, h4, h5⟩ hK
    have hzl : zs.length = ps.length := by have := congrArg List.length hzs; rw [List.length_map, List.length_range] at this; omega
    have hzm : (zs.map fun x => gP2 ps x.val) = ps := by
      rw [show (fun x : Fin m => gP2 ps x.val) = (gP2 ps) ∘ (·.val) from rfl, ← List.map_map, hzs]
      refine List.ext_getElem (by simp [hln]) fun i h1 h2 => ?_
      simp [gP2, h2]
    rw [hzm, hzl] at h2
    rw [hzl] at h1
    have cx := h1.cell 0 rfl
    have hg := grownBy_putObj' W D (.deferred none)
    have hr : ∀ r, some D = some r → ∃ o : Obj, W.heap[r]? = some o ∧ o.isCells = false := fun r e => by cases e; exact ⟨_, hK, rfl⟩
    have hBD := h3.grown hg h3.size (fun k e => by cases e; exact Nat.le_trans hbw.size hD)
    gi_wp2
    refine ⟨by simp, .inl ⟨_, _, rfl, run_takeDeferred hK, ?_⟩⟩
    exact ⟨_, results_tmp rfl _ _ _, HP.out _ _ ⟨A1, c1, (by rw [hln]; rfl), (h2.others_ hg hr).base hbw.size, hBD⟩⟩
  case stop =>
    rintro D c pre W _ _ h _
    exact h.elim
end Go.Proofs.YthbodpjkckminaaGreatDoor

namespace Go.Proofs.YthbodpjkckminaaGreatDoor
open Go.RowKit

set_option maxRecDepth 100000 in
theorem only1_any (q : Nat) (key val gr : Int) (w : World) (hq : Blk w q 3 #[.int .i64 gr]) (hg : (kyF key).grp = gr) :
    Calls Tryz.prog 159 #[.agg #[.int .i64 key, .int .i64 val], .pointer (some ⟨q, 0, none⟩)] w fun e w' => e = .returned (.bool false) ∧ Below w.heap.size w w' := by
  have cG := Lib.hid (fun W => group_any key W)
  rw [hg] at cG
  generalize kyE key = ke at *
  have hb := alloc1 w (.cells #[.int .i64 key, .int .i64 val] 91)
  have Q1 := hq.below hb
  have HG := Lib.hid hg
  clear hg hq
  go_enter Tryz.func159, Tryz.ntmps159
  go_upto_region 2 with (go_at_call 160; refine (cG.out _).mono ?_; rintro e w2 ⟨rfl, hb2⟩)
  have q2 := (Q1.below hb2).cell 0 rfl
  go_wp2_with fail
  go_ret
  exact ⟨by first | rfl | simp, below_trans' hb hb.size hb2⟩
set_option maxRecDepth 100000 in
set_option maxHeartbeats 4000000 in
theorem indexFP_any (A : Option Addr) (n c q : Nat) (ps : List Pr) (gr : Int) (w : World) (ha : Slb w 2 prC A n ps) (hn : n ≤ 1000000) (hq : Blk w q 3 #[.int .i64 gr]) (hg : ∀ k, k < n → (kyF (gP2 ps k).key).grp = gr) :
    Calls Tryz.prog 183 #[.slice A n c, .func (.func 159) #[] #[.pointer (some ⟨q, 0, none⟩)]] w fun e w' => e = .returned (.int .i64 (-1)) ∧ Below w.heap.size w w' := by
  have HG := Lib.hid hg
  clear hg
  go_enter Tryz.func183, Tryz.ntmps183
  go_wp2_with fail
  go_loopw [8] (fun vi wr => ∃ i : Nat, vi = .int .i64 i ∧ i ≤ n ∧ Below w.heap.size w wr) (fun vi _ => n - (intOf vi).toNat)
  case atStart => exact ⟨0, rfl, Nat.zero_le _, Below.refl _ _⟩
  case round =>
    obtain ⟨i, rfl, hi, hb⟩ := hrel
    by_cases hlt : i < n
    · obtain ⟨g, o, e, hgl, hr⟩ := (ha.below hb).at_ ⟨0, 0⟩ hlt
      rw [show ps.getD i ⟨0, 0⟩ = gP2 ps i from rfl] at hr
      subst e
      have c1 := only1_any q (gP2 ps i).key (gP2 ps i).val gr wr (hq.below hb) (HG.out i hlt)
      have hsz := size_pr
      generalize gP2 ps i = y at *
      go_wp2_with (first | (go_at_call 159; refine c1.mono ?_; rintro e w2 ⟨rfl, hb2⟩) | (refine wpList_load_mid rfl 91 _ rfl g (o + i * 2) rfl (prC y) _ hr Tryz.underlying91 rfl hsz ?_; rw [show (prC y).toArray = #[.int .i64 y.key, .int .i64 y.val] from rfl]))
      go_roundw
      case rel => exact ⟨i + 1, by simp, by omega, below_trans' hb hb.size hb2⟩
      case measure => rw [intOf, intOf]; omega
    · have : i = n := by omega
      subst this
      go_wp2_with fail
      go_ret
      exact ⟨rfl, hb⟩
theorem deleteFP_any (A : Option Addr) (n c q : Nat) (ps : List Pr) (gr : Int) (w : World) (ha : Slb w 2 prC A n ps) (hn : n ≤ 1000000) (hq : Blk w q 3 #[.int .i64 gr]) (hg : ∀ k, k < n → (kyF (gP2 ps k).key).grp = gr) :
    Calls Tryz.prog 157 #[.slice A n c, .func (.func 159) #[] #[.pointer (some ⟨q, 0, none⟩)]] w fun e w' => e = .returned (.slice A n c) ∧ Below w.heap.size w w' := by
  have cI := indexFP_any A n c q ps gr w ha hn hq hg
  clear hg
  go_enter Tryz.func157, Tryz.ntmps157
  go_wp2_with (go_at_call 183; refine cI.mono ?_; rintro e w2 ⟨rfl, hb2⟩)
  go_ret
  exact ⟨rfl, hb2⟩
theorem only_any (A : Option Addr) (n c : Nat) (ps : List Pr) (gr : Int) (w : World) (ha : Sl w 2 prC A n ps) (hn : n ≤ 1000000) (hg : ∀ k, k < n → (kyF (gP2 ps k).key).grp = gr) :
    Calls Tryz.prog 127 #[.slice A n c, .int .i64 gr] w (MgPost w ps) := by
  have hln := ha.len
  have Q := Blk.new w 3 #[.int .i64 gr]
  have hb := alloc1 w (.cells #[.int .i64 gr] 3)
  have cC := pclone_any A n c ps _ (ha.below hb) hn
  have cD := Lib.hid (fun W A' c' h1 h2 => deleteFP_any A' n c' w.heap.size ps gr W h1 hn h2 hg)
  clear hg
  have HP := Lib.hid (show ∀ e w', (∃ (A' : Option Addr) (c' : Nat), e = .returned (.slice A' ps.length c') ∧ Own w' w.heap.size 91 2 prC A' ps.length c' ps ∧ Below w.heap.size w w') → MgPost w ps e w' from fun _ _ h => h)
  go_enter Tryz.func127, Tryz.ntmps127
  go_wp2_with (first | (go_at_call 158; refine cC.mono ?_; rintro e w2 ⟨A', c', rfl, ho, _, hb2⟩; have cD2 := cD.out w2 A' c' (ho.slb prC_len) (Q.below hb2)) | (go_at_call 157; refine cD2.mono ?_; rintro e w3 ⟨rfl, hb3⟩))
  go_ret
  have hbw := below_trans' hb hb.size hb2
  exact HP.out _ _ ⟨A', c', by rw [hln]; rfl, by rw [hln]; exact (ho.below hb3).base hb.size, below_trans' hbw hbw.size hb3⟩
end Go.Proofs.YthbodpjkckminaaGreatDoor

namespace Go.Proofs.YthbodpjkckminaaGreatDoor
open Go.RowKit

def SpPost (w : World) (ps : List Pr) (e : Ending) (w' : World) : Prop := ∃ (A' : Option Addr) (c' : Nat), e = .returned (.tuple #[.slice A' ps.length c', .int .i64 0]) ∧ Own w' w.heap.size 91 2 prC A' ps.length c' ps ∧ Below w.heap.size w w'
/-- properties of a paragraph, of the paragraph's group, without a style. -/
structure PrOk (ps : List Pr) : Prop where
  ck : pckE 2 ps = 0
  ns : getV ps 20 = 0
  gr : ∀ k, k < ps.length → (kyF (gP2 ps k).key).grp = 2
  ln : ps.length ≤ 1000000
set_option maxRecDepth 100000 in
set_option maxHeartbeats 4000000 in
theorem spara_any (A : Option Addr) (n c : Nat) (ps : List Pr) (w : World) (ha : Slb w 2 prC A n ps) (hp : PrOk ps) :
    Calls Tryz.prog 91 #[.slice none 0 0, .slice A n c] w (SpPost w ps) := by
  have hln := ha.len
  have hn : n ≤ 1000000 := by have := hp.ln; omega
  have cS := stCheck_any w
  have cP := Lib.hid (fun W (hb : Below w.heap.size w W) => pcheck_any 2 A n c ps W (ha.below hb).sl (by omega))
  rw [hp.ck] at cP
  have cN := Lib.hid (fun W (hb : Below w.heap.size w W) => named_any A n c ps 20 1 W (ha.below hb).sl hn (pckE_sorted hp.ck) hp.ns)
  have cM := Lib.hid (fun W (hb : Below w.heap.size w W) => merge_any A n c ps W (ha.below hb) hn)
  have cO := Lib.hid (fun W A' c' (h : Sl W 2 prC A' ps.length ps) => only_any A' ps.length c' ps 2 W h hp.ln hp.gr)
  have HP := Lib.hid (show ∀ e w', (∃ (A' : Option Addr) (c' : Nat), e = .returned (.tuple #[.slice A' ps.length c', .int .i64 0]) ∧ Own w' w.heap.size 91 2 prC A' ps.length c' ps ∧ Below w.heap.size w w') → SpPost w ps e w' from fun _ _ h => h)
  clear hp ha
  have HL := Lib.hid hln
  clear hln
  go_enter Tryz.func91, Tryz.ntmps91
  go_upto_region 4 with (go_at_call 32; refine cS.mono ?_; rintro e w2 ⟨rfl, hb2⟩)
  have c2 := cP.out w2 hb2
  go_upto_region 7 with (go_at_call 15; refine c2.mono ?_; rintro e w3 ⟨rfl, hb3⟩)
  have hb3 := below_trans' hb2 hb2.size hb3
  have c3 := cN.out w3 hb3
  go_upto_region 10 with (go_at_call 126; refine c3.mono ?_; rintro e w4 ⟨rfl, hb4⟩)
  have hb4 := below_trans' hb3 hb3.size hb4
  have c4 := cM.out w4 hb4
  go_wp2_with (first | (go_at_call 128; refine c4.mono ?_; rintro e w5 ⟨A5, c5, rfl, o5, hb5⟩; have hb5 := below_trans' hb4 hb4.size hb5; have c6 := cO.out w5 A5 c5 (o5.sl prC_len)) | (go_at_call 127; refine c6.mono ?_; rintro e w6 ⟨A6, c6', rfl, o6, hb6⟩))
  go_ret2
  exact HP.out _ _ ⟨A6, c6', rfl, o6.base hb5.size, below_trans' hb5 hb5.size hb6⟩
end Go.Proofs.YthbodpjkckminaaGreatDoor
