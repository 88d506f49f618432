/- the iterator over the blocks of a flat flow: its contract. slices.Collect of the blocks of a flat flow; paragraph.Blocks. paragraph.Blocks, At; whether a block is among blocks. -/
import Derived.Test.YthbodpjkckminaaGreatDoorm14
import Derived.Test.YthbodpjkckminaaGreatDoorm5
namespace Go.Proofs.YthbodpjkckminaaGreatDoor
open Go.RowKit
attribute [local go_sem] Oper.semAt_some

theorem Slb.setc {α : Type} {w : World} {s : Nat} {enc : α → List Value} {A : Option Addr} {n N0 p : Nat} {xs : List α} (h : Slb w s enc A n xs) (hl : 0 < n → Low N0 A) (hp : N0 ≤ p) (v : Value) : Slb (w.setCell ⟨p, 0, none⟩ v) s enc A n xs :=
  ⟨h.len, fun hn => by
    obtain ⟨g, o, e, hg, hc⟩ := h.rd hn
    have hlt := hl hn _ e
    have hb := (gset w p 0 v).block g hg (by simp; show g ≠ p; have : g < N0 := hlt; omega)
    exact ⟨g, o, e, Nat.lt_of_lt_of_le hg (gset w p 0 v).size, fun i x hx j u hu => (World.cell?_of_block (a := ⟨g, o + i * s + j, none⟩) hb).trans (hc i x hx j u hu)⟩⟩
theorem bkV_new (W : World) (l : Nat) : BkV W.heap.size ((((W.alloc (.cells #[.func (.yield l) #[] #[]] 254)).alloc (.cells #[.int .i64 0] 3)).alloc (.cells #[.int .i64 0] 3)).alloc (.cells #[.bool true] 4)) W.heap.size (W.heap.size + 1) (W.heap.size + 1 + 1) (W.heap.size + 1 + 1 + 1) l 0 0 true
    ∧ Below W.heap.size W ((((W.alloc (.cells #[.func (.yield l) #[] #[]] 254)).alloc (.cells #[.int .i64 0] 3)).alloc (.cells #[.int .i64 0] 3)).alloc (.cells #[.bool true] 4)) := by
  have B2 := Blk.new W 254 #[.func (.yield l) #[] #[]]
  have B3 := Blk.new (W.alloc (.cells #[.func (.yield l) #[] #[]] 254)) 3 #[.int .i64 0]
  have B4 := Blk.new ((W.alloc (.cells #[.func (.yield l) #[] #[]] 254)).alloc (.cells #[.int .i64 0] 3)) 3 #[.int .i64 0]
  have B5 := Blk.new (((W.alloc (.cells #[.func (.yield l) #[] #[]] 254)).alloc (.cells #[.int .i64 0] 3)).alloc (.cells #[.int .i64 0] 3)) 4 #[.bool true]
  simp only [World.size_alloc] at B3 B4 B5
  exact ⟨⟨((B2.alloc _).alloc _).alloc _, (B3.alloc _).alloc _, B4.alloc _, B5, by omega, by omega, by omega, by omega⟩, (((alloc1 W _).alloc (by simp) _).alloc (by simp; omega) _).alloc (by simp; omega) _⟩
set_option maxRecDepth 100000 in
set_option maxHeartbeats 8000000 in
theorem blocks1_in (n : Nat) (l p N0 : Nat) (A : Option Addr) (m c : Nat) (xs : List It) (ys : List Fi) (hm : m ≤ 1000000) (hone : ∀ k, k < m → OneF (gFi ys k)) (hkd : ∀ k, k < m → (gFi ys k).kind = 1 ∨ (gFi ys k).kind = 2) (hf : ∀ k, k < m → ∃ s : SV, gIt xs k = itF (gFi ys k) s) (hly : ys.length = m) (hlast : LastP ys) (J Jx : List Nat → World → Prop)
    (hY : ∀ pre x W, J pre W → pre.length < (bkL ys m).length → YieldAt Fence.wide (n - 1) Tryz.prog l #[.agg (bkC4 (gBk (bkL ys m) x)).toArray] W fun e W' =>
      (e = .returned (.bool true) ∧ J (pre ++ [x]) W' ∧ KpB N0 W W') ∨ (e = .returned (.bool false) ∧ Jx (pre ++ [x]) W'))
    (W : World) (hAb : AbidesT W.heap.size TB J) (hA : Its W A m xs) (hLow : 0 < m → Low N0 A) (hN : N0 ≤ W.heap.size) (h2 : W.cell? ⟨p, 0, none⟩ = some (.slice A m c)) (h0 : J [] W) :
    CallsIn Fence.wide n Tryz.prog 140 #[.func (.yield l) #[] #[], .pointer (some ⟨p, 0, none⟩)] W fun e W' => (∃ v, e = .returned v) ∧
      ((∃ zs, zs = List.range (bkL ys m).length ∧ J zs W') ∨ (∃ pre, (∃ k, k < (bkL ys m).length ∧ pre = List.range (k + 1)) ∧ Jx pre W')) := by
  have hlen := hA.len
  refine callsIn_of_wp Tryz.func140 rfl trivial ?_ rfl
  simp only [Tryz.ntmps140, List.size_toArray, List.length_cons, List.length_nil, Nat.reduceAdd, Nat.reduceSub, Array.replicate_succ, Array.replicate_zero, List.push_toArray, List.append_toArray, List.nil_append, List.cons_append]
  gi_upto_region 1 with fail
  gi_cut [3, 4, 5] from 70 (fun v3 v4 v5 wx => ∃ p2 p3 p4 p5, W.heap.size = p2 ∧ v3 = .pointer (some ⟨p3, 0, none⟩) ∧ v4 = .pointer (some ⟨p4, 0, none⟩) ∧ v5 = .pointer (some ⟨p5, 0, none⟩) ∧ BkV W.heap.size wx p2 p3 p4 p5 l 0 0 true ∧ Below W.heap.size W wx)
  case first =>
    have HX := Lib.hid (bkV_new W l)
    gi_wp2
    gi_meet
    case rel => exact ⟨_, _, _, _, rfl, rfl, rfl, rfl, HX.out.1, HX.out.2⟩
  case rest =>
  obtain ⟨p2, p3, p4, p5, hp2, rfl, rfl, rfl, V0, hb0⟩ := hcut
  have A0 := hA.below hb0
  have J0 := belowJ hAb h0 hb0
  have h2 := keepC hb0 h2
  rw [hp2]
  clear hA h0
  gi_wp2
  gi_loopw [14] (fun vi wr => ∃ k : Nat, vi = .int .i64 k ∧ k ≤ m ∧ J (List.range (bkL ys k).length) wr ∧ (∃ b, BkV W.heap.size wr p2 p3 p4 p5 l (frK ys k) k b) ∧ Its wr A m xs) (fun vi _ => m - (intOf vi).toNat)
  case atStart => exact ⟨0, rfl, Nat.zero_le _, J0, ⟨true, V0⟩, A0⟩
  case round =>
    obtain ⟨k, rfl, hk, hJ, ⟨b, V1⟩, hA1⟩ := hrel
    clear A0 J0 V0 h2 hb0
    by_cases hlt : k < m
    · obtain ⟨g, o, e, hg, hr⟩ := hA1.at_ itZ hlt
      obtain ⟨s, e2⟩ := hf k hlt
      have hkk := hkd k hlt
      have hon := hone k hlt
      rw [show xs.getD k itZ = gIt xs k from rfl, e2, fiL_it] at hr
      subst e
      obtain ⟨BX, hBx⟩ := boxed_it wr (itF (gFi ys k) s)
      have NZ := newZ wr
      have hone1 : (fiL (gFi ys k) s).toArray.all (·.oneCell') = true := itA_one (itF (gFi ys k) s)
      rw [fiA_it] at BX hBx
      have HYK := Lib.hid (fun h => bkL_at ys (k := k) (n := m) hlt h)
      have hsz0 : (Tryz.prog.info? 102).map (·.size) = some (fiL (gFi ys k) s).length := size_it
      have HN := Lib.hid (show bkL ys (k + 1) = if (gFi ys k).kind = 2 then bkL ys k ++ [⟨1, frK ys k, (k : Int) + 1, true⟩] else bkL ys k from rfl)
      have HR := Lib.hid (show frK ys (k + 1) = if (gFi ys k).kind = 2 then k + 1 else frK ys k from rfl)
      have cS := Lib.hid (fun W => size_any (gFi ys k) s W hon)
      have hfr := frK_le ys k
      generalize hyk : gFi ys k = y at *
      generalize frK ys k = lo at *
      have A2 := hA1.below hBx
      have J2 := belowJ hAb hJ hBx
      have V2 := V1.below hBx
      clear hA1 hJ V1 e2
      gi_upto_region 6 with (first | (refine wlW_load rfl 102 _ rfl g (o + k * 11) rfl (fiL y s) _ hr Tryz.underlying102 rfl hsz0 ?_) | (refine wlW_store rfl 102 _ _ rfl wr.heap.size (fiL y s).toArray rfl rfl 102 _ NZ (by kernel_rfl) rfl hone1 ?_))
      show Code.wpIn Fence.wide n _ _ _ _ ((wr.alloc (.cells itZA 102)).setRow wr.heap.size (fiL y s).toArray)
      generalize (wr.alloc (.cells itZA 102)).setRow wr.heap.size (fiL y s).toArray = W2 at *
      generalize wr.heap.size = p8 at *
      have r8 : W2.rangeAt p8 0 (fiL y s) := Blk.rng BX
      clear hr NZ hone1
      gi_upto_region 7 with (first | (refine ⟨trivial, ?_⟩; refine ⟨fun hh => by simp [Fence.wide] at hh, ?_⟩; refine (callsIn_wide.2 (cS.out _)).mono ?_; rintro e W3 ⟨rfl, hb3⟩) | (refine wlW_load rfl 102 _ rfl p8 0 rfl (fiL y s) _ r8 Tryz.underlying102 rfl hsz0 ?_))
      have B3 := BX.below hb3
      have A3 := A2.below hb3
      have J3 := belowJ hAb J2 hb3
      have V3 := V2.below hb3
      have q0 : W3.cell? ⟨p8, 0, none⟩ = some (.int .i64 y.kind) := B3.cell 0 rfl
      clear BX A2 J2 V2 r8 hb3 cS hBx
      have q2 := V3.b2.cell 0 rfl
      have q3 := V3.b3.cell 0 rfl
      have q4 := V3.b4.cell 0 rfl
      have q5 := V3.b5.cell 0 rfl
      have hw1 : IntKind.i64.wrap ((k : Int) + 1) = (k : Int) + 1 := IntWalk.i64_in _ (by omega)
      by_cases h2k : y.kind = 2
      · rw [h2k] at q0
        obtain ⟨hg1, hg2⟩ := HYK.out h2k
        have HN2 := Lib.hid (HN.out.trans (if_pos h2k))
        have HR2 := Lib.hid (HR.out.trans (if_pos h2k))
        have hY2 := hY _ (bkL ys k).length W3 J3 (by simpa using hg2)
        rw [hg1] at hY2
        clear HN HR HYK hg1 hY
        obtain ⟨fn, tmps, assign, body, hy, hRd⟩ := hY2
        rw [show (bkC4 ⟨1, (lo : Nat), (k : Int) + 1, true⟩).toArray = #[.int .i64 1, .int .i64 (lo : Nat), .int .i64 ((k : Int) + 1), .bool true] from rfl] at hy
        gi_wp2
        refine ⟨fun hh => by simp [Fence.wide] at hh, hRd.mono ?_⟩
        rintro e W4 (⟨rfl, hJ4, hk4⟩ | ⟨rfl, hJx4⟩)
        · have V4 := V3.kp hk4
          have A4 := A3.low hLow hk4.low
          have q3 := V4.b3.cell 0 rfl
          have q4 := V4.b4.cell 0 rfl
          have q5 := V4.b5.cell 0 rfl
          have f3 := V4.b3.frozen 0
          have f4 := V4.b4.frozen 0
          have f5 := V4.b5.frozen 0
          have n53 : p5 ≠ p3 := fun e => V4.b5.ne_ty V4.b3 (by decide) (by rw [e])
          have f5' : (W4.setCell ⟨p3, 0, none⟩ (.int .i64 ((k : Int) + 1))).frozen? ⟨p5, 0, none⟩ = false := (V4.s3 (k + 1)).b5.frozen 0
          have q5' : (W4.setCell ⟨p3, 0, none⟩ (.int .i64 ((k : Int) + 1))).cell? ⟨p5, 0, none⟩ = some (.bool b) := (V4.s3 (k + 1)).b5.cell 0 rfl
          gi_upto_region 19 with fail
          have V5 : BkV W.heap.size ((W4.setCell ⟨p3, 0, none⟩ (.int .i64 ((k : Int) + 1))).setCell ⟨p5, 0, none⟩ (.bool true)) p2 p3 p4 p5 l (k + 1) k true := (V4.s3 (k + 1)).s5 true
          have J5 := setJ hAb (setJ hAb hJ4 V4.b3 rfl V4.lo_.1 (.int .i64 ((k : Int) + 1))) (V4.s3 (k + 1)).b5 rfl V4.lo_.2.2 (.bool true)
          have A5 := (A4.setc hLow (Nat.le_trans hN V4.lo_.1) (.int .i64 ((k : Int) + 1))).setc hLow (Nat.le_trans hN V4.lo_.2.2) (.bool true)
          generalize (W4.setCell ⟨p3, 0, none⟩ (.int .i64 ((k : Int) + 1))).setCell ⟨p5, 0, none⟩ (.bool true) = W5 at *
          clear q3 q4 q5 f3 f4 f5 f5' q5' V4 A4 hJ4 hk4
          have q4 := V5.b4.cell 0 rfl
          have f4 := V5.b4.frozen 0
          have V6 : BkV W.heap.size (W5.setCell ⟨p4, 0, none⟩ (.int .i64 ((k : Int) + 1))) p2 p3 p4 p5 l (k + 1) (k + 1) true := V5.s4 (k + 1)
          have J6 := setJ hAb J5 V5.b4 rfl V5.lo_.2.1 (.int .i64 ((k : Int) + 1))
          have A6 := A5.setc hLow (Nat.le_trans hN V5.lo_.2.1) (.int .i64 ((k : Int) + 1))
          have FIN := Lib.hid (And.intro J6 (And.intro V6 A6))
          clear J6 V6 A6 J5 V5 A5
          gi_wp2
          go_roundw
          case rel => exact ⟨k + 1, by simp, by omega, by rw [HN2.out, List.length_append, List.length_singleton, List.range_succ]; exact FIN.out.1, ⟨true, by rw [HR2.out]; exact FIN.out.2.1⟩, FIN.out.2.2⟩
          case measure => rw [intOf, intOf]; omega
        · gi_wp2
          refine bodyPost_ret (results_none rfl _ _ _) rfl ?_
          exact ⟨⟨_, rfl⟩, .inr ⟨_, ⟨_, hg2, rfl⟩, by rw [List.range_succ]; exact hJx4⟩⟩
      · have h1k : y.kind = 1 := by rcases hkk with h | h; exact h; exact absurd h h2k
        rw [h1k] at q0
        have HN2 := Lib.hid (HN.out.trans (if_neg h2k))
        have HR2 := Lib.hid (HR.out.trans (if_neg h2k))
        have f5 := V3.b5.frozen 0
        have f4 := V3.b4.frozen 0
        clear HN HR HYK
        have V5 := V3.s5 false
        have J5 := setJ hAb J3 V3.b5 rfl V3.lo_.2.2 (.bool false)
        have A5 := A3.setc hLow (Nat.le_trans hN V3.lo_.2.2) (.bool false)
        have FN := Lib.hid (And.intro J5 (And.intro V5 A5))
        clear J5 V5 A5
        have n54 : p5 ≠ p4 := fun e => V3.b5.ne_ty V3.b4 (by decide) (by rw [e])
        cases b
        all_goals
          gi_upto_region 19 with fail
          obtain ⟨J5, V5, A5⟩ := FN.out
          generalize W3.setCell ⟨p5, 0, none⟩ (.bool false) = W5 at *
          clear q2 q3 q4 q5 f5 f4 V3 A3 J3
          have q4 := V5.b4.cell 0 rfl
          have f4 := V5.b4.frozen 0
          have V6 : BkV W.heap.size (W5.setCell ⟨p4, 0, none⟩ (.int .i64 ((k : Int) + 1))) p2 p3 p4 p5 l lo (k + 1) false := V5.s4 (k + 1)
          have J6 := setJ hAb J5 V5.b4 rfl V5.lo_.2.1 (.int .i64 ((k : Int) + 1))
          have A6 := A5.setc hLow (Nat.le_trans hN V5.lo_.2.1) (.int .i64 ((k : Int) + 1))
          have FIN := Lib.hid (And.intro J6 (And.intro V6 A6))
          clear J6 V6 A6 J5 V5 A5
          gi_wp2
          go_roundw
          case rel => exact ⟨k + 1, by simp, by omega, by rw [HN2.out]; exact FIN.out.1, ⟨false, by rw [HR2.out]; exact FIN.out.2.1⟩, FIN.out.2.2⟩
          case measure => rw [intOf, intOf]; omega
    · have : k = m := by omega
      subst this
      have hfl : frK ys k = k := by have := frK_last hlast; rwa [hly] at this
      rw [hfl] at V1
      have cR := rest_any p3 p4 p5 p2 k wr (V1.b3.cell 0 rfl) (V1.b4.cell 0 rfl)
      have HJ := Lib.hid hJ
      clear hY hAb hA1 hJ
      gi_wp2_with (refine ⟨trivial, ?_⟩; refine ⟨fun hh => by simp [Fence.wide] at hh, ?_⟩; refine (callsIn_wide.2 cR).mono ?_; rintro e W4 ⟨rfl, rfl⟩)
      go_end0
      exact ⟨⟨_, rfl⟩, .inl ⟨_, rfl, HJ.out⟩⟩
theorem blocks_stops (n p N0 : Nat) (A : Option Addr) (m c : Nat) (xs : List It) (ys : List Fi) (w : World) (hm : m ≤ 1000000) (hone : ∀ k, k < m → OneF (gFi ys k)) (hkd : ∀ k, k < m → (gFi ys k).kind = 1 ∨ (gFi ys k).kind = 2) (hf : ∀ k, k < m → ∃ s : SV, gIt xs k = itF (gFi ys k) s) (hly : ys.length = m) (hlast : LastP ys) (hA : Its w A m xs) (hLow : 0 < m → Low N0 A) (hN : N0 ≤ w.heap.size) (h2 : w.cell? ⟨p, 0, none⟩ = some (.slice A m c)) :
    SeqStopsT Fence.wide n Tryz.prog 140 #[.pointer (some ⟨p, 0, none⟩)] (fun x : Nat => #[Value.agg (bkC4 (gBk (bkL ys m) x)).toArray]) (KpB N0) (fun zs => zs = List.range (bkL ys m).length) (fun pre => ∃ k, k < (bkL ys m).length ∧ pre = List.range (k + 1)) (bkL ys m).length TB w := fun l J Jx W hW hJ _ hY h0 =>
  blocks1_in n l p N0 A m c xs ys hm hone hkd hf hly hlast J Jx hY W hJ (hA.below hW) hLow (Nat.le_trans hN hW.size) (keepC hW h2) h0
theorem blocks_any (A : Option Addr) (m c : Nat) (w : World) :
    Calls Tryz.prog 114 #[.slice A m c] w fun e w' => ∃ q, e = .returned (.func (.func 140) #[] #[.pointer (some ⟨q, 0, none⟩)]) ∧ Blk w' q 54 #[.slice A m c] ∧ w.heap.size ≤ q ∧ Below w.heap.size w w' := by
  have N1 := Blk.new w 54 #[.slice A m c]
  have hb := alloc1 w (.cells #[.slice A m c] 54)
  go_enter Tryz.func114, Tryz.ntmps114
  go_wp2_with fail
  go_ret
  exact ⟨_, rfl, N1, Nat.le_refl _, hb⟩
end Go.Proofs.YthbodpjkckminaaGreatDoor

namespace Go.Proofs.YthbodpjkckminaaGreatDoor
open Go.RowKit
attribute [local go_sem] Oper.semAt_some

theorem bkC4_len (b : Bk) : (bkC4 b).length = 4 := rfl
theorem bkC4_one (b : Bk) : ∀ u ∈ bkC4 b, u.oneCell' = true := by intro u hu; simp [bkC4] at hu; rcases hu with rfl | rfl | rfl | rfl <;> rfl
theorem elemBk : Elem Tryz.prog 262 126 4 32 := Elem.mk Tryz.underlying262 (z := .agg #[.int .i64 0, .int .i64 0, .int .i64 0, .bool false]) (by kernel_rfl) rfl (by omega)
theorem rowT {D : Nat} {T : TypeId → Bool} {X : World} {row : Option Nat} (hr : ∀ r, row = some r → D ≤ r ∧ ((∃ o : Obj, X.heap[r]? = some o ∧ o.isCells = false) ∨ ∃ cs t fr, X.heap[r]? = some (.cells cs t fr) ∧ T t = true)) {p : Nat} {cs : Array Value} {t : TypeId} {fr : Nat × Nat} (hB : X.heap[p]? = some (.cells cs t fr)) (ht : T t = false) : row ≠ some p := fun e => by
  rcases (hr p e).2 with ⟨o, ho, hc⟩ | ⟨cs', t', fr', hc, h⟩
  · rw [hB] at ho; cases ho; cases hc
  · rw [hB] at hc; cases hc; rw [ht] at h; cases h
theorem KpB.grow {N0 : Nat} {W v v' : World} {row : Option Nat} (h : KpB N0 W v) (hg : v.grownBy v' row) (hlow : ∀ j, row = some j → N0 ≤ j) (hty : ∀ j, row = some j → ∃ cs t fr, v.heap[j]? = some (.cells cs t fr) ∧ ¬ (t = 3 ∨ t = 4 ∨ t = 102 ∨ t = 254)) (hN : N0 ≤ v.heap.size) : KpB N0 W v' :=
  ⟨fun k hk => (hg.block k (by omega) (fun e => by have := hlow k e.symm; omega)).trans (h.low k hk), fun k cs t fr hk ht => by
    have h1 := h.ty k cs t fr hk ht
    refine (hg.block k (Array.getElem?_eq_some_iff.1 (h1.trans hk)).1 (fun e => ?_)).trans h1
    obtain ⟨cs', t', fr', hc, hn⟩ := hty k e.symm
    rw [h1.trans hk] at hc
    cases hc
    exact hn ht⟩
/-- what Collect has gathered. -/
def ColI (w : World) (p2 : Nat) (bs : List Bk) (pre : List Nat) (W : World) : Prop := ∃ (A : Option Addr) (c : Nat), Blk W p2 262 #[.slice A pre.length c] ∧ Own W w.heap.size 126 4 bkC4 A pre.length c (pre.map (gBk bs)) ∧ Below w.heap.size w W ∧ w.heap.size ≤ p2
theorem ColI_own {w : World} {D p2 : Nat} {bs : List Bk} (hD : w.heap.size ≤ D) : OwnFromT D TB (ColI w p2 bs) := fun pre X Y row h hg hr => by
  obtain ⟨A, c, h1, h2, h3, h4⟩ := h
  refine ⟨A, c, h1.keep hg (rowT hr h1 rfl), h2.keep hg (fun k hk e => ?_), h3.grown hg h3.size (fun k e => Nat.le_trans hD (hr k e).1), h4⟩
  obtain ⟨cur, hc⟩ := h2.heap_at e
  exact rowT hr hc rfl hk
theorem ColI.below {w W W' : World} {p2 : Nat} {bs : List Bk} {pre : List Nat} (h : ColI w p2 bs pre W) (hb : Below W.heap.size W W') : ColI w p2 bs pre W' := by
  obtain ⟨A, c, h1, h2, h3, h4⟩ := h
  exact ⟨A, c, h1.below hb, h2.below hb, below_trans' h3 h3.size hb, h4⟩
def BksPost (w : World) (bs : List Bk) (e : Ending) (w' : World) : Prop := ∃ (A : Option Addr) (c : Nat), e = .returned (.slice A bs.length c) ∧ Own w' w.heap.size 126 4 bkC4 A bs.length c bs ∧ Below w.heap.size w w'
theorem map_range_gBk (bs : List Bk) : (List.range bs.length).map (gBk bs) = bs := by
  apply List.ext_getElem
  · simp
  · intro i h1 h2
    simp only [List.getElem_map, List.getElem_range]
    unfold gBk
    rw [List.getD_eq_getElem?_getD, List.getElem?_eq_getElem h2]; rfl
set_option maxRecDepth 100000 in
set_option maxHeartbeats 8000000 in
theorem appendSeq_any (q : Nat) (A : Option Addr) (m c : Nat) (xs : List It) (ys : List Fi) (w : World) (hm : m ≤ 1000000) (hone : ∀ k, k < m → OneF (gFi ys k)) (hkd : ∀ k, k < m → (gFi ys k).kind = 1 ∨ (gFi ys k).kind = 2) (hf : ∀ k, k < m → ∃ s : SV, gIt xs k = itF (gFi ys k) s) (hly : ys.length = m) (hlast : LastP ys) (hA : Its w A m xs) (hq : Blk w q 54 #[.slice A m c]) :
    Calls Tryz.prog 187 #[.slice none 0 0, .func (.func 140) #[] #[.pointer (some ⟨q, 0, none⟩)]] w (BksPost w (bkL ys m)) := by
  have hbl := bkL_len ys m
  have HST := Lib.hid (fun W (hW : Below w.heap.size w W) => blocks_stops 7 q w.heap.size A m c xs ys W hm hone hkd hf hly hlast (hA.below hW) hA.lowW hW.size (keepC hW (hq.cell 0 rfl)))
  have HMR := Lib.hid (map_range_gBk (bkL ys m))
  generalize bkL ys m = bs at *
  refine (callsIn_wide (n := 8)).1 ?_
  refine callsIn_of_wp_marks Tryz.func187 rfl trivial ?_ rfl
  simp only [Tryz.ntmps187, List.size_toArray, List.length_cons, List.length_nil, Nat.reduceAdd, Nat.reduceSub, Array.replicate_succ, Array.replicate_zero, List.push_toArray, List.append_toArray, List.nil_append, List.cons_append]
  have N2 := Blk.new w 262 #[.slice none 0 0]
  have hb2 := alloc1 w (.cells #[.slice none 0 0] 262)
  gi_upto_region 1 with fail
  generalize w.alloc (.cells #[.slice none 0 0] 262) = w4 at *
  obtain ⟨p2, hp2⟩ : ∃ p, p = w.heap.size := ⟨_, rfl⟩
  rw [← hp2] at N2 ⊢
  have hp2' : w.heap.size ≤ p2 := by omega
  clear hp2
  gi_wp2
  refine wpIn_rangeFunc_T rfl (by omega) (gf := 140) (lb := #[.pointer (some ⟨q, 0, none⟩)]) rfl trivial (enters_of Tryz.func140 (by kernel_rfl) rfl)
    (HST.out w4 hb2) KpB.trans_ (KpB.put_ hb2.size) (Below.refl _ _) (fun _ => rfl)
    (ColI w p2 bs) (fun _ _ _ => False) (ColI_own hb2.size) (fun _ _ _ _ _ h _ _ => h)
    ⟨none, 0, N2, Own.nil_ _ _ _ _ _, hb2, hp2'⟩
    (fun x a' W => ∃ p5, Blk W p5 126 (bkC4 (gBk bs x)).toArray ∧ a' = { tmps := #[.slice none 0 0, .func (.func 140) #[] #[.pointer (some ⟨q, 0, none⟩)], .pointer (some ⟨p2, 0, none⟩), undef, .slice none 0 0, .pointer (some ⟨p5, 0, none⟩), .func (.func 140) #[] #[.pointer (some ⟨q, 0, none⟩)], .agg (bkC4 (gBk bs x)).toArray, undef, undef, undef, undef, undef], defers := [] })
    (fun x a' => fun _ X Y row h hg hr => by
      obtain ⟨p5, h1, h2⟩ := h
      exact ⟨p5, h1.keep hg (rowT hr h1 rfl), h2⟩) ?assign ?body ?done ?stop
  case assign =>
    intro l pre x W K hI hK
    obtain ⟨⟨bk, b1, b2, bm⟩, hbk⟩ : ∃ b, gBk bs x = b := ⟨_, rfl⟩
    rw [hbk] at hK ⊢
    rw [show (bkC4 ⟨bk, b1, b2, bm⟩).toArray = #[.int .i64 bk, .int .i64 b1, .int .i64 b2, .bool bm] from rfl] at hK ⊢
    have B5 := Blk.new W 126 #[.int .i64 bk, .int .i64 b1, .int .i64 b2, .bool bm]
    have hb5 := alloc1 W (.cells #[.int .i64 bk, .int .i64 b1, .int .i64 b2, .bool bm] 126)
    have HK := Lib.hid (fun a' => hK a' _ ((others_below hb5).from w4.heap.size) (KpB.of_below hb5 (by obtain ⟨_, _, _, _, h, _⟩ := hI; exact h.size)) (hI.below hb5))
    clear hK hb5
    gi_wp2
    exact HK.out _ ⟨_, B5, rfl⟩
  case body =>
    rintro l pre x a' W hl _ ⟨A1, c1, h1, h2, h3, h4⟩ ⟨p5, B5, rfl⟩ hlt
    have FIN := Lib.hid (show ∀ v A3 c3, Blk v p2 262 #[.slice A3 (pre.length + 1) c3] → Own v w.heap.size 126 4 bkC4 A3 (pre.length + 1) c3 (pre.map (gBk bs) ++ [gBk bs x]) → Below w.heap.size w v → ColI w p2 bs (pre ++ [x]) v from fun v A3 c3 b1 b2 b3 => ⟨A3, c3, by rw [List.length_append, List.length_singleton]; exact b1, by rw [List.length_append, List.length_singleton, List.map_append]; exact b2, b3, h4⟩)
    generalize pre.map (gBk bs) = zs at *
    generalize gBk bs x = b at *
    obtain ⟨bk, b1, b2, bm⟩ := b
    have B5 : Blk W p5 126 #[.int .i64 bk, .int .i64 b1, .int .i64 b2, .bool bm] := B5
    have k0 := B5.cell 0 rfl
    have k1 := B5.cell 1 rfl
    have k2 := B5.cell 2 rfl
    have k3 := B5.cell 3 rfl
    have c2 := h1.cell 0 rfl
    have hw2 := h3.size
    gi_upto_region 3 with fail
    refine wpIn_region_plain l _ (by kernel_rfl) ?_
    go_wp2_with (at_builtin; refine wpList_push elemBk rfl (.tmp 8) (.tmp 10) rfl rfl _ rfl (h2.alloc _) ⟨bk, b1, b2, bm⟩ _ rfl rfl (bkC4_one _) rfl ⟨by omega, by unfold maxLen; omega⟩ (Nat.le_trans hw2 (by simp)) ?_; intro A3 c3 w5 ho hg ha; have x6 := (h1.alloc (.cells (bkC4 ⟨bk, b1, b2, bm⟩).toArray 126)).keep hg (fun e => h2.ne_blk h1 (by decide) e); have f6 := x6.frozen 0; have c6 := x6.cell 0 rfl)
    obtain ⟨g3, rfl, _, _⟩ := ho.form (by omega)
    have hal := alloc1 W (.cells (bkC4 ⟨bk, b1, b2, bm⟩).toArray 126)
    have hG := gset w5 p2 0 (.slice (some ⟨g3, 0, none⟩) (pre.length + 1) c3)
    have hrow : ∀ j, blk A1 = some j → w.heap.size ≤ j := fun j e => (h2.lt j e).1
    have hb6 : Below w.heap.size w w5 := (h3.alloc h3.size _).grown hg (Nat.le_trans h3.size (by simp)) hrow
    have K5 : KpB w.heap.size W w5 := ((KpB.of_below hal hw2).grow hg hrow (fun j e => by
      obtain ⟨cur, hc⟩ := (h2.alloc (.cells (bkC4 ⟨bk, b1, b2, bm⟩).toArray 126)).heap_at e
      exact ⟨cur, _, _, hc, by decide⟩) (Nat.le_trans hw2 hal.size))
    have O5 : KeepsOthers W w5 := (others_below hal).trans (KeepsOthers.of_grownBy hg fun j o ej hj => by
      obtain ⟨cur, hc⟩ := (h2.alloc (.cells (bkC4 ⟨bk, b1, b2, bm⟩).toArray 126)).heap_at ej
      rw [hc] at hj; cases hj; rfl)
    refine ⟨rfl, ?_⟩
    gi_wp2
    exact ⟨(O5.trans (KeepsOthers.setCell _ _ _)).from _, K5.grow hG (fun j e => by cases e; exact h4) (fun j e => by cases e; exact ⟨_, _, _, x6, by decide⟩) hb6.size, FIN.out _ _ _ (x6.set_ 0 _) (ho.keep hG (fun k hk => by cases hk; exact ho.ne_blk x6 (by decide))) (hb6.setCell (p := ⟨p2, 0, none⟩) h4 _)⟩
  case done =>
    rintro D zs W hD rfl ⟨A1, c1, h1, h2, h3, h4⟩ hK
    rw [HMR.out, List.length_range] at h2
    rw [List.length_range] at h1
    have cx := h1.cell 0 rfl
    have hg := grownBy_putObj' W D (.deferred none)
    have hr : ∀ r, some D = some r → ∃ o : Obj, W.heap[r]? = some o ∧ o.isCells = false := fun r e => by cases e; exact ⟨_, hK, rfl⟩
    have hBD := h3.grown hg h3.size (fun k e => by cases e; exact Nat.le_trans hb2.size hD)
    gi_wp2
    refine ⟨by simp, .inl ⟨_, _, rfl, run_takeDeferred hK, ?_⟩⟩
    exact ⟨_, results_tmp rfl _ _ _, A1, c1, rfl, h2.others_ hg hr, hBD⟩
  case stop =>
    rintro D c pre W _ _ h _
    exact h.elim
end Go.Proofs.YthbodpjkckminaaGreatDoor

namespace Go.Proofs.YthbodpjkckminaaGreatDoor
open Go.RowKit

theorem stoodBk : Tryz.prog.stoodInHeld 126 = false := by kernel_rfl
theorem fieldsBk : Tryz.prog.underlying 126 = some (.struct (Tryz.prog.fieldsOf 126)) := by kernel_rfl
theorem fieldsBkL : (Tryz.prog.fieldsOf 126).toList.map (fun f => (f.name, f.type, f.offset)) = [("Kind", 3, 0), ("From", 3, 1), ("To", 3, 2), ("Mark", 4, 3)] := by kernel_rfl
theorem eqBk (a b : Bk) (w : World) : (Op.equalIn 10000 126 (.agg (bkC4 a).toArray) (.agg (bkC4 b).toArray)).run Tryz.prog w = .ok (decide (a = b)) w := by
  rw [run_equalIn_struct w 9999 126 _ _ fieldsBk stoodBk, eqFields_map _ _ _ _ _ fieldsBkL]
  obtain ⟨a0, a1, a2, a3⟩ := a
  obtain ⟨b0, b1, b2, b3⟩ := b
  have u3 := Tryz.underlying3
  have u4 := Tryz.underlying4
  simp only [bkC4, List.foldr_cons, List.foldr_nil, part, isAgg]
  simp [run_underlying u3, run_underlying u4, run_equalIn_int w 9998 3 .i64 .i64 _ _ u3, run_equalIn_bool' w 9998 4 _ _ u4]
  by_cases h0 : a0 = b0 <;> by_cases h1 : a1 = b1 <;> by_cases h2 : a2 = b2 <;> by_cases h3 : a3 = b3 <;> simp [h0, h1, h2, h3]
theorem collect_any (q : Nat) (A : Option Addr) (m c : Nat) (xs : List It) (ys : List Fi) (w : World) (hm : m ≤ 1000000) (hone : ∀ k, k < m → OneF (gFi ys k)) (hkd : ∀ k, k < m → (gFi ys k).kind = 1 ∨ (gFi ys k).kind = 2) (hf : ∀ k, k < m → ∃ s : SV, gIt xs k = itF (gFi ys k) s) (hly : ys.length = m) (hlast : LastP ys) (hA : Its w A m xs) (hq : Blk w q 54 #[.slice A m c]) :
    Calls Tryz.prog 174 #[.func (.func 140) #[] #[.pointer (some ⟨q, 0, none⟩)]] w (BksPost w (bkL ys m)) := by
  have hc := appendSeq_any q A m c xs ys w hm hone hkd hf hly hlast hA hq
  go_enter Tryz.func174, Tryz.ntmps174
  go_wp2_with (go_at_call 187; refine hc.mono ?_; rintro e w2 ⟨A2, c2, rfl, ho, hb⟩)
  go_ret
  exact ⟨A2, c2, rfl, ho, hb⟩
/-- a flow of the documents that are looked at here. -/
structure DocFl (ys : List Fi) : Prop where
  fw : FwOk ys
  last : LastP ys
theorem DocFl.kd {ys : List Fi} (h : DocFl ys) : ∀ k, k < ys.length → (gFi ys k).kind = 1 ∨ (gFi ys k).kind = 2 := fun k hk => by
  rcases h.fw.nf.k k hk with h | h
  · exact .inr h
  · exact .inl h.1
def BlkPost (w : World) (bs : List Bk) (e : Ending) (w' : World) : Prop := ∃ (A : Option Addr) (c : Nat), e = .returned (.tuple #[.slice A bs.length c, .int .i64 0]) ∧ Own w' w.heap.size 126 4 bkC4 A bs.length c bs ∧ Below w.heap.size w w'
theorem pblocks_any (A : Option Addr) (n c : Nat) (xs : List It) (ys : List Fi) (w : World) (ha : Fl w A n xs ys) (hy : DocFl ys) :
    Calls Tryz.prog 149 #[.slice A n c] w (BlkPost w (bkL ys n)) := by
  have hly := ha.ly
  have hn : n ≤ 1000000 := by have := hy.fw.nf.ok.len; omega
  have cL := len_one A n c xs w ha.i hn (ha.one hy.fw)
  have cB := fun W => blocks_any A n c W
  have cC := Lib.hid (fun q W (hW : Below w.heap.size w W) hq => collect_any q A n c xs ys W hn (fun k hk => hy.fw.one k (by omega)) (fun k hk => hy.kd k (by omega)) (fun k hk => by obtain ⟨s, e, _⟩ := ha.f k hk; exact ⟨s, e⟩) hly hy.last (ha.i.below hW) hq)
  generalize bkL ys n = bs at *
  go_enter Tryz.func149, Tryz.ntmps149
  go_upto_region 4 with (go_at_call 142; refine cL.mono ?_; rintro e w2 ⟨rfl, hb2⟩)
  go_wp2_with (first | (go_at_call 114; refine (cB _).mono ?_; rintro e w3 ⟨q, rfl, hq, _, hb3⟩; have hbx := below_trans' hb2 hb2.size hb3; have cC2 := cC.out q w3 hbx hq) | (go_at_call 174; refine cC2.mono ?_; rintro e w4 ⟨A2, c2, rfl, ho, hb4⟩))
  go_ret2
  exact ⟨A2, c2, rfl, ho.base hbx.size, below_trans' hbx hbx.size hb4⟩
theorem gBk_mem {bs : List Bk} {i : Nat} (h : i < bs.length) : gBk bs i ∈ bs := by
  unfold gBk; rw [List.getD_eq_getElem?_getD, List.getElem?_eq_getElem h]; exact List.getElem_mem h
theorem Sl.bk {w : World} {A : Option Addr} {n : Nat} {bs : List Bk} (h : Sl w 4 bkC4 A n bs) {k : Nat} (hk : k < n) :
    ∃ ad, A = some ad ∧ ad.block < w.heap.size ∧ w.cell? (ad.add (k * 4)) = some (.int .i64 (gBk bs k).kind) ∧ w.cell? ⟨(ad.add (k * 4)).block, (ad.add (k * 4)).off + 1, none⟩ = some (.int .i64 (gBk bs k).lo) ∧ w.cell? ⟨(ad.add (k * 4)).block, (ad.add (k * 4)).off + 2, none⟩ = some (.int .i64 (gBk bs k).hi) ∧ w.cell? ⟨(ad.add (k * 4)).block, (ad.add (k * 4)).off + 3, none⟩ = some (.bool (gBk bs k).mark) := by
  obtain ⟨ad, e, hl, h0, hj⟩ := h.fld bkZ hk
  exact ⟨ad, e, hl, h0 _ rfl, hj 1 _ (by omega) rfl, hj 2 _ (by omega) rfl, hj 3 _ (by omega) rfl⟩
def IxPost (w : World) (e : Ending) (w' : World) : Prop := ∃ r : Nat, e = .returned (.int .i64 (r : Nat)) ∧ Below w.heap.size w w'
set_option maxHeartbeats 4000000 in
set_option maxRecDepth 100000 in
theorem indexBk_any (A : Option Addr) (n c : Nat) (bs : List Bk) (b : Bk) (w : World) (ha : Sl w 4 bkC4 A n bs) (hn : n ≤ 1000000) (hb : b ∈ bs) :
    Calls Tryz.prog 175 #[.slice A n c, .agg (bkC4 b).toArray] w (IxPost w) := by
  have hl := ha.len
  have HM := Lib.hid (show ¬ ∀ t, t < n → gBk bs t ≠ b from fun h => by
    obtain ⟨i, hi, e⟩ := List.mem_iff_getElem.1 hb
    exact h i (by omega) (by unfold gBk; rw [List.getD_eq_getElem?_getD, List.getElem?_eq_getElem hi]; exact e))
  have HEQ := Lib.hid (fun a W => eqBk b a W)
  obtain ⟨b0, b1, b2, b3⟩ := b
  have B3 := Blk.new w 126 #[.int .i64 b0, .int .i64 b1, .int .i64 b2, .bool b3]
  have hbw := alloc1 w (.cells #[.int .i64 b0, .int .i64 b1, .int .i64 b2, .bool b3] 126)
  rw [show (bkC4 ⟨b0, b1, b2, b3⟩).toArray = #[.int .i64 b0, .int .i64 b1, .int .i64 b2, .bool b3] from rfl]
  obtain ⟨p, hp⟩ : ∃ p, p = w.heap.size := ⟨_, rfl⟩
  go_enter Tryz.func175, Tryz.ntmps175
  go_upto_region 1 with fail
  generalize w.alloc (.cells #[.int .i64 b0, .int .i64 b1, .int .i64 b2, .bool b3] 126) = w1 at *
  rw [← hp] at B3 ⊢
  clear hp
  go_wp2_with fail
  go_loopw [8] (fun vi wr => ∃ i : Nat, vi = .int .i64 i ∧ i ≤ n ∧ Below w1.heap.size w1 wr ∧ ∀ t, t < i → gBk bs t ≠ ⟨b0, b1, b2, b3⟩) (fun vi _ => n - (intOf vi).toNat)
  case atStart => exact ⟨0, rfl, Nat.zero_le _, Below.refl _ _, fun t ht => absurd ht (Nat.not_lt_zero _)⟩
  case round =>
    obtain ⟨i, rfl, hi, hbr, hz⟩ := hrel
    have HZ := Lib.hid hz
    clear hz
    by_cases hlt : i < n
    · have hbx := below_trans' hbw hbw.size hbr
      obtain ⟨ad, e, hl2, k0, k1, k2, k3⟩ := (ha.below hbx).bk hlt
      subst e
      have B4 := B3.below hbr
      have q0 := B4.cell 0 rfl
      have q1 := B4.cell 1 rfl
      have q2 := B4.cell 2 rfl
      have q3 := B4.cell 3 rfl
      have hq := HEQ.out (gBk bs i)
      obtain ⟨⟨x0, x1, x2, x3⟩, hx⟩ : ∃ x, gBk bs i = x := ⟨_, rfl⟩
      rw [hx] at k0 k1 k2 k3 hq
      rw [show (bkC4 ⟨b0, b1, b2, b3⟩).toArray = #[.int .i64 b0, .int .i64 b1, .int .i64 b2, .bool b3] from rfl, show (bkC4 ⟨x0, x1, x2, x3⟩).toArray = #[.int .i64 x0, .int .i64 x1, .int .i64 x2, .bool x3] from rfl] at hq
      have HX := Lib.hid hx
      simp only at k0 k1 k2 k3
      clear hx
      obtain ⟨d, hd⟩ : ∃ d, decide ((⟨b0, b1, b2, b3⟩ : Bk) = ⟨x0, x1, x2, x3⟩) = d := ⟨_, rfl⟩
      rw [hd] at hq
      have HD := Lib.hid hd
      clear hd
      cases d
      · go_upto_region 4 with fail
        go_region
        go_wp2_with fail
        go_roundw
        case measure => rw [intOf, intOf]; omega
        case rel => exact ⟨i + 1, by simp, by omega, below_drewN hbr 1, fun t ht => by
          rcases (show t < i ∨ t = i by omega) with h | rfl
          · exact HZ.out t h
          · rw [HX.out]; exact fun e => (of_decide_eq_false HD.out) e.symm⟩
      · go_upto_region 4 with fail
        go_region
        go_wp2_with fail
        go_ret
        exact ⟨i, rfl, below_drewN hbx 1⟩
    · have : i = n := by omega
      subst this
      exact absurd HZ.out HM.out
set_option maxRecDepth 100000 in
theorem containsBk_any (A : Option Addr) (n c : Nat) (bs : List Bk) (b : Bk) (w : World) (ha : Sl w 4 bkC4 A n bs) (hn : n ≤ 1000000) (hb : b ∈ bs) :
    Calls Tryz.prog 150 #[.slice A n c, .agg (bkC4 b).toArray] w fun e w' => e = .returned (.bool true) ∧ Below w.heap.size w w' := by
  have hbw := alloc1 w (.cells (bkC4 b).toArray 126)
  have hi := indexBk_any A n c bs b _ (ha.below hbw) hn hb
  obtain ⟨b0, b1, b2, b3⟩ := b
  rw [show (bkC4 ⟨b0, b1, b2, b3⟩).toArray = #[.int .i64 b0, .int .i64 b1, .int .i64 b2, .bool b3] from rfl] at hi hbw ⊢
  go_enter Tryz.func150, Tryz.ntmps150
  go_wp2_with (go_at_call 175; refine hi.mono ?_; rintro e w3 ⟨r, rfl, hb3⟩)
  have hr : (0 : Int) ≤ (r : Int) := by omega
  go_ret
  exact ⟨by first | rfl | simp [hr], below_trans' hbw hbw.size hb3⟩
end Go.Proofs.YthbodpjkckminaaGreatDoor
