/- the law NumberingSteps, walked. From a walk to a law's row: arguments opened by their types, read again behind the call. What the row's condition gives: the two tables that are read. Lists, levels and marks, opened. -/
import Derived.Test.YthbodpjkckminaaGreatDoorm21
import Derived.Test.YthbodpjkckminaaGreatDoorRows
import Derived.Test.YthbodpjkckminaaGreatDoorm1
import Derived.WalkKit
import Derived.ProofKit
import Derived.OpenShut
import Derived.ShutString
import Derived.Deep.Slices
import Derived.ChangeSame
import Derived.Carry
import Derived.Test.YthbodpjkckminaaGreatDoorm7
import Derived.Test.YthbodpjkckminaaGreatDoorm9
import Derived.Lib.LaidTab
import Derived.LaidMore
import Derived.MakeChecks
namespace Go.Proofs.YthbodpjkckminaaGreatDoor
open Go.RowKit

theorem stoodCn : Tryz.prog.stoodInHeld 26 = false := by kernel_rfl
theorem fieldsCn : Tryz.prog.underlying 26 = some (.struct (Tryz.prog.fieldsOf 26)) := by kernel_rfl
theorem fieldsCnL : (Tryz.prog.fieldsOf 26).toList.map (fun f => (f.name, f.type, f.offset)) = [("Number", 23, 0), ("Started", 24, 9)] := by kernel_rfl
theorem equalN_self (c : Cn) (w : World) : (Op.equalIn 10000 26 (.agg (cnA c)) (.agg (cnA c))).run Tryz.prog w = .ok true w := by
  rw [run_equalIn_struct w 9999 26 _ _ fieldsCn stoodCn, eqFields_map _ _ _ _ _ fieldsCnL]
  have a1 : ∀ w, (isAgg 23).run Tryz.prog w = .ok true w := fun w => by kernel_rfl
  have a2 : ∀ w, (isAgg 24).run Tryz.prog w = .ok true w := fun w => by kernel_rfl
  have s1 : ∀ w, (sizeOf 23).run Tryz.prog w = .ok 9 w := fun w => by kernel_rfl
  have s2 : ∀ w, (sizeOf 24).run Tryz.prog w = .ok 9 w := fun w => by kernel_rfl
  have p1 : ∀ w, (part 23 (cnA c) 0).run Tryz.prog w = .ok (.agg (cnN c).toArray) w := fun w => by
    simp only [part, Sem.run_bind, a1, Result.andThen_ok, if_true, s1, Sem.run_pure]; rfl
  have p2 : ∀ w, (part 24 (cnA c) 9).run Tryz.prog w = .ok (.agg #[.bool (c 0).2, .bool (c 1).2, .bool (c 2).2, .bool (c 3).2, .bool (c 4).2, .bool (c 5).2, .bool (c 6).2, .bool (c 7).2, .bool (c 8).2]) w := fun w => by
    simp only [part, Sem.run_bind, a2, Result.andThen_ok, if_true, s2, Sem.run_pure]; rfl
  have i1 : ∀ w, (isAgg 3).run Tryz.prog w = .ok false w := fun w => by kernel_rfl
  have i2 : ∀ w, (isAgg 4).run Tryz.prog w = .ok false w := fun w => by kernel_rfl
  have e1 : ∀ w, (Op.equalIn 9999 23 (.agg (cnN c).toArray) (.agg (cnN c).toArray)).run Tryz.prog w = .ok true w := fun w => by
    have := run_equalIn_array w 9998 23 3 9 1 Tryz.underlying23 (fun w => by kernel_rfl) (cnN c).toArray (cnN c).toArray (fun _ => true) (lt9 (p := fun i => ∃ a b, (∀ w, (part 3 (cnN c).toArray (i * 1)).run Tryz.prog w = .ok a w) ∧ (∀ w, (part 3 (cnN c).toArray (i * 1)).run Tryz.prog w = .ok b w) ∧ ∀ w, (Op.equalIn 9998 3 a b).run Tryz.prog w = .ok true w) ⟨.int .i64 (c 0).1, .int .i64 (c 0).1, fun w => by simp [part, i1, cnN], fun w => by simp [part, i1, cnN], fun w => by rw [run_equalIn_int w 9997 3 .i64 .i64 _ _ Tryz.underlying3]; simp⟩ ⟨.int .i64 (c 1).1, .int .i64 (c 1).1, fun w => by simp [part, i1, cnN], fun w => by simp [part, i1, cnN], fun w => by rw [run_equalIn_int w 9997 3 .i64 .i64 _ _ Tryz.underlying3]; simp⟩ ⟨.int .i64 (c 2).1, .int .i64 (c 2).1, fun w => by simp [part, i1, cnN], fun w => by simp [part, i1, cnN], fun w => by rw [run_equalIn_int w 9997 3 .i64 .i64 _ _ Tryz.underlying3]; simp⟩ ⟨.int .i64 (c 3).1, .int .i64 (c 3).1, fun w => by simp [part, i1, cnN], fun w => by simp [part, i1, cnN], fun w => by rw [run_equalIn_int w 9997 3 .i64 .i64 _ _ Tryz.underlying3]; simp⟩ ⟨.int .i64 (c 4).1, .int .i64 (c 4).1, fun w => by simp [part, i1, cnN], fun w => by simp [part, i1, cnN], fun w => by rw [run_equalIn_int w 9997 3 .i64 .i64 _ _ Tryz.underlying3]; simp⟩ ⟨.int .i64 (c 5).1, .int .i64 (c 5).1, fun w => by simp [part, i1, cnN], fun w => by simp [part, i1, cnN], fun w => by rw [run_equalIn_int w 9997 3 .i64 .i64 _ _ Tryz.underlying3]; simp⟩ ⟨.int .i64 (c 6).1, .int .i64 (c 6).1, fun w => by simp [part, i1, cnN], fun w => by simp [part, i1, cnN], fun w => by rw [run_equalIn_int w 9997 3 .i64 .i64 _ _ Tryz.underlying3]; simp⟩ ⟨.int .i64 (c 7).1, .int .i64 (c 7).1, fun w => by simp [part, i1, cnN], fun w => by simp [part, i1, cnN], fun w => by rw [run_equalIn_int w 9997 3 .i64 .i64 _ _ Tryz.underlying3]; simp⟩ ⟨.int .i64 (c 8).1, .int .i64 (c 8).1, fun w => by simp [part, i1, cnN], fun w => by simp [part, i1, cnN], fun w => by rw [run_equalIn_int w 9997 3 .i64 .i64 _ _ Tryz.underlying3]; simp⟩)
    rw [show ((List.range 9).all fun _ => true) = true by decide] at this
    exact this
  have e2 : ∀ w, (Op.equalIn 9999 24 (.agg #[.bool (c 0).2, .bool (c 1).2, .bool (c 2).2, .bool (c 3).2, .bool (c 4).2, .bool (c 5).2, .bool (c 6).2, .bool (c 7).2, .bool (c 8).2]) (.agg #[.bool (c 0).2, .bool (c 1).2, .bool (c 2).2, .bool (c 3).2, .bool (c 4).2, .bool (c 5).2, .bool (c 6).2, .bool (c 7).2, .bool (c 8).2])).run Tryz.prog w = .ok true w := fun w => by
    have := run_equalIn_array w 9998 24 4 9 1 Tryz.underlying24 (fun w => by kernel_rfl) #[.bool (c 0).2, .bool (c 1).2, .bool (c 2).2, .bool (c 3).2, .bool (c 4).2, .bool (c 5).2, .bool (c 6).2, .bool (c 7).2, .bool (c 8).2] #[.bool (c 0).2, .bool (c 1).2, .bool (c 2).2, .bool (c 3).2, .bool (c 4).2, .bool (c 5).2, .bool (c 6).2, .bool (c 7).2, .bool (c 8).2] (fun _ => true) (lt9 (p := fun i => ∃ a b, (∀ w, (part 4 #[.bool (c 0).2, .bool (c 1).2, .bool (c 2).2, .bool (c 3).2, .bool (c 4).2, .bool (c 5).2, .bool (c 6).2, .bool (c 7).2, .bool (c 8).2] (i * 1)).run Tryz.prog w = .ok a w) ∧ (∀ w, (part 4 #[.bool (c 0).2, .bool (c 1).2, .bool (c 2).2, .bool (c 3).2, .bool (c 4).2, .bool (c 5).2, .bool (c 6).2, .bool (c 7).2, .bool (c 8).2] (i * 1)).run Tryz.prog w = .ok b w) ∧ ∀ w, (Op.equalIn 9998 4 a b).run Tryz.prog w = .ok true w) ⟨.bool (c 0).2, .bool (c 0).2, fun w => by simp [part, i2], fun w => by simp [part, i2], fun w => by rw [run_equalIn_bool' w 9997 4 _ _ Tryz.underlying4]; simp⟩ ⟨.bool (c 1).2, .bool (c 1).2, fun w => by simp [part, i2], fun w => by simp [part, i2], fun w => by rw [run_equalIn_bool' w 9997 4 _ _ Tryz.underlying4]; simp⟩ ⟨.bool (c 2).2, .bool (c 2).2, fun w => by simp [part, i2], fun w => by simp [part, i2], fun w => by rw [run_equalIn_bool' w 9997 4 _ _ Tryz.underlying4]; simp⟩ ⟨.bool (c 3).2, .bool (c 3).2, fun w => by simp [part, i2], fun w => by simp [part, i2], fun w => by rw [run_equalIn_bool' w 9997 4 _ _ Tryz.underlying4]; simp⟩ ⟨.bool (c 4).2, .bool (c 4).2, fun w => by simp [part, i2], fun w => by simp [part, i2], fun w => by rw [run_equalIn_bool' w 9997 4 _ _ Tryz.underlying4]; simp⟩ ⟨.bool (c 5).2, .bool (c 5).2, fun w => by simp [part, i2], fun w => by simp [part, i2], fun w => by rw [run_equalIn_bool' w 9997 4 _ _ Tryz.underlying4]; simp⟩ ⟨.bool (c 6).2, .bool (c 6).2, fun w => by simp [part, i2], fun w => by simp [part, i2], fun w => by rw [run_equalIn_bool' w 9997 4 _ _ Tryz.underlying4]; simp⟩ ⟨.bool (c 7).2, .bool (c 7).2, fun w => by simp [part, i2], fun w => by simp [part, i2], fun w => by rw [run_equalIn_bool' w 9997 4 _ _ Tryz.underlying4]; simp⟩ ⟨.bool (c 8).2, .bool (c 8).2, fun w => by simp [part, i2], fun w => by simp [part, i2], fun w => by rw [run_equalIn_bool' w 9997 4 _ _ Tryz.underlying4]; simp⟩)
    rw [show ((List.range 9).all fun _ => true) = true by decide] at this
    exact this
  simp only [List.foldr_cons, List.foldr_nil, Sem.run_bind, Sem.run_ite, p1, p2, e1, e2, Result.andThen_ok]
  simp
theorem equalN_list {l l' : List Value} {x : Cn} (h : l = cnL x) (h' : l' = cnL x) (w : World) : (Op.equalIn 10000 26 (.agg l.toArray) (.agg l'.toArray)).run Tryz.prog w = .ok true w := by
  subst h; subst h'; exact equalN_self x w
theorem boxes_st2 (w : World) (D : Array Value) (x y : Value) : Blk ((w.alloc (.cells D 26)).alloc (.cells #[x, y] 27)) w.heap.size 26 D
    ∧ Blk ((w.alloc (.cells D 26)).alloc (.cells #[x, y] 27)) (w.heap.size + 1) 27 #[x, y]
    ∧ Below w.heap.size w ((w.alloc (.cells D 26)).alloc (.cells #[x, y] 27)) := by
  have B2 := (Blk.new w 26 D).alloc (.cells #[x, y] 27)
  have B3 := Blk.new (w.alloc (.cells D 26)) 27 #[x, y]
  simp only [World.size_alloc] at B3
  exact ⟨B2, B3, ((alloc1 w _).alloc (by simp) _)⟩
structure StV (w : World) (p4 p5 : Nat) (c : Cn) (a0 a1 : Int) (v : World) : Prop where
  b4 : Blk v p4 26 (cnA c)
  b5 : Blk v p5 27 #[.int .i64 a0, .int .i64 a1]
  bel : Below w.heap.size w v
theorem StV.below {w v v' : World} {p4 p5 : Nat} {c : Cn} {a0 a1 : Int} (h : StV w p4 p5 c a0 a1 v) (hb : Below v.heap.size v v') : StV w p4 p5 c a0 a1 v' := ⟨h.b4.below hb, h.b5.below hb, below_trans' h.bel h.bel.size hb⟩
def StPost (w : World) (e : Ending) (w' : World) : Prop := e = .returned (.bool true) ∧ Below w.heap.size w w'
set_option maxHeartbeats 16000000 in
set_option maxRecDepth 100000 in
theorem steps_law (A : Option Addr) (n cA : Nat) (ls : List Lv) (c : Cn) (a0 a1 : Int) (w : World) (hg : Gl w) (ha : Sl w 4 lvC A n ls) (hcap : n ≤ cA) (hm : n ≤ 9223372036854775807) :
    Calls Tryz.prog 3 #[.slice A n cA, .agg (cnA c), .agg #[.int .i64 a0, .int .i64 a1]] w (StPost w) := by
  have hln := ha.len
  have cK := Lib.hid (fun W (hb : Below w.heap.size w W) => known_any W (hg.below hb))
  have cN := Lib.hid (fun W (hb : Below w.heap.size w W) => next_any A n cA ls c a0 a1 W (ha.below hb))
  have cS := Lib.hid (fun W (hb : Below w.heap.size w W) => shown_any A n cA ls c a0 W (ha.below hb) hcap)
  have cC := Lib.hid (fun W (hb : Below w.heap.size w W) => checkLevels_any A n cA ls W (ha.below hb))
  have HX := Lib.hid (boxes_st2 w (cnA c) (.int .i64 a0) (.int .i64 a1))
  have HP := Lib.hid (show ∀ e w', (e = .returned (.bool true) ∧ Below w.heap.size w w') → StPost w e w' from fun _ _ h => h)
  have HLN := Lib.hid hln
  clear hln
  go_enter Tryz.func3, Tryz.ntmps3
  go_upto_region 0 with fail
  go_cut [4, 5, 6] (fun v4 v5 v6 wx => ∃ p4 p5, v4 = .pointer (some ⟨p4, 0, none⟩) ∧ v5 = .pointer (some ⟨p5, 0, none⟩) ∧ v6 = .bool false ∧ StV w p4 p5 c a0 a1 wx)
  case first =>
    go_wp2_with fail
    go_meet
    case rel => exact ⟨_, _, rfl, rfl, rfl, HX.out.1, HX.out.2.1, HX.out.2.2⟩
  case rest =>
  obtain ⟨p4, p5, rfl, rfl, rfl, X⟩ := hcut
  clear HX
  generalize wc = w1 at *
  have cK1 := cK.out w1 X.bel
  by_cases h12 : 12 < n
  · have h12' : (12 : Int) < n := by omega
    go_upto_region 2 with (go_at_call 8; refine cK1.mono ?_; rintro e w2 ⟨rfl, hb2⟩)
    have X := X.below hb2
    have cK2 := cK.out w2 X.bel
    go_wp2_with (go_at_call 8; refine cK2.mono ?_; rintro e w3 ⟨rfl, hb3⟩)
    go_ret
    exact HP.out _ _ ⟨rfl, (X.below hb3).bel⟩
  have h12' : ¬ (12 : Int) < n := by omega
  go_upto_region 3 with (go_at_call 8; refine cK1.mono ?_; rintro e w2 ⟨rfl, hb2⟩)
  have X2 := X.below hb2
  clear cK1 X hb2
  go_wp2_with fail
  go_loop [7] (fun vi => ∃ i : Nat, vi = .int .i64 i ∧ i ≤ n) (fun vi => n - (intOf vi).toNat)
  case atStart => exact ⟨0, rfl, Nat.zero_le _⟩
  case round =>
    obtain ⟨i, rfl, hi⟩ := hrel
    by_cases hlt : i < n
    · obtain ⟨ad, e, hl2, _, _, k2, _⟩ := (ha.below X2.bel).lv hlt
      subst e
      have hlt' : (i : Int) < n := by omega
      by_cases h2 : 200 < (gL ls i).text.size
      · have h2' : (200 : Int) < (gL ls i).text.size := by omega
        go_wp2_with fail
        go_ret
        exact HP.out _ _ ⟨rfl, X2.bel⟩
      · have h2' : ¬ (200 : Int) < (gL ls i).text.size := by omega
        go_wp2_with fail
        go_round
        case rel => exact ⟨i + 1, by simp, by omega⟩
        case measure => simp [intOf]; omega
    · have hin : i = n := by omega
      subst hin
      have cN := cN.out w2 X2.bel
      have C4 := X2.b4
      unfold Blk at C4
      have k0 := X2.b5.cell 0 rfl
      have k1 := X2.b5.cell 1 rfl
      go_upto_region 8 with fail
      go_cut [8, 9] (fun v8 v9 wx => ∃ p8, v8 = .pointer (some ⟨p8, 0, none⟩) ∧ v9 = .int .i64 (nxE ls i c a0 a1) ∧ Blk wx p8 26 (cnA (nxF ls i c a0 a1)) ∧ Below w2.heap.size w2 wx)
      case first =>
        go_wp2_with (first | (go_at_call 9; refine cN.mono ?_; rintro e w4 ⟨rfl, hb4⟩; have NZ := Blk.new w4 26 (cnA cnZ); obtain ⟨BX, hBX⟩ := boxed_g w4 26 (cnA cnZ) (cnA (nxF ls i c a0 a1)); have HX := Lib.hid (And.intro BX (below_trans' hb4 hb4.size hBX)); clear BX hBX hb4) | (refine wpList_load_row rfl 26 _ rfl p4 rfl 26 _ (0, 0) _ C4 Tryz.underlying26 rfl (by kernel_rfl) ?_) | (refine wpList_store_row rfl 26 _ _ rfl w4.heap.size (cnA (nxF ls i c a0 a1)) rfl rfl 26 (cnA cnZ) NZ (by kernel_rfl) rfl (cnA_one _) ?_))
        go_meet
        case rel => exact ⟨_, rfl, rfl, HX.out.1, HX.out.2⟩
      case rest =>
      obtain ⟨p8, rfl, rfl, B8, hb8⟩ := hcut
      have X := X2.below hb8
      clear C4 k0 k1 X2 hb8 cN
      generalize wc = w5 at *
      have C4 := X.b4
      unfold Blk at C4
      have k0 := X.b5.cell 0 rfl
      have cS := cS.out w5 X.bel
      unfold ShownPost at cS
      go_upto_region 10 with (first | (go_at_call 10; refine cS.mono ?_; rintro e w6 ⟨B, k, cB, rfl, hOK, hNO, hb6⟩) | (refine wpList_load_row rfl 26 _ rfl p4 rfl 26 _ (0, 0) _ C4 Tryz.underlying26 rfl (by kernel_rfl) ?_))
      have B8 := B8.below hb6
      have X := X.below hb6
      clear C4 k0 cS hb6
      have cC := cC.out w6 X.bel
      go_upto_region 11 with (go_at_call 11; refine cC.mono ?_; rintro e w7 ⟨rfl, hb7⟩)
      have B8 := B8.below hb7
      have X := X.below hb7
      have hgc : Tryz.prog.eqGuardType Tryz.prog.depth 26 = false := by kernel_rfl
      obtain ⟨Z, hZ⟩ : ∃ Z, Z = cnA cnZ := ⟨_, rfl⟩
      have HZ := Lib.hid hZ
      clear hZ
      have qz : ∀ W, (Op.equalIn 10000 26 (.agg Z) (.agg Z)).run Tryz.prog W = .ok true W := fun W => by rw [HZ.out]; exact equalN_self cnZ W
      by_cases hck : ckE ls i a0 = 0
      · obtain ⟨hcl, h1, hai, h9⟩ := ckE_ok HLN.out hck
        obtain ⟨hkL, oB⟩ := hOK hck
        have oB := oB.below hb7
        obtain ⟨L, hL⟩ : ∃ L : Nat, a0 = (L : Int) + 1 := ⟨(a0 - 1).toNat, by omega⟩
        subst hL
        obtain rfl : k = L + 1 := by omega
        have hxe : nxE ls i c ((L : Int) + 1) a1 = if a1 < 0 ∨ 32767 < a1 then 5 else if ovB c = true then 29 else 0 := if_neg (fun h => h hck)
        have hxf : nxF ls i c ((L : Int) + 1) a1 = if nxE ls i c ((L : Int) + 1) a1 = 0 then nextC ls i c ((L : Int) + 1 - 1).toNat a1 else cnZ := rfl
        rw [show ((L : Int) + 1 - 1).toNat = L by omega] at hxf
        have cH := lshown_any A i cA ls c (L + 1) w7 (ha.below X.bel) h9 (by omega)
        rw [show ((L + 1 : Nat) : Int) = (L : Int) + 1 by omega] at cH
        rw [hck, hcl]
        have HXE := Lib.hid hxe
        have HXF := Lib.hid hxf
        clear hOK hNO hb7 cC hkL hck hcl hxe hxf
        generalize nxE ls i c ((L : Int) + 1) a1 = xe at *
        generalize nxF ls i c ((L : Int) + 1) a1 = xf at *
        generalize numsF ls c (L + 1) = ns at *
        have C4 := X.b4
        unfold Blk at C4
        have k0 := X.b5.cell 0 rfl
        go_upto_region 16 with (first | (go_at_call 12; refine cH.mono ?_; rintro e w8 ⟨B2, cB2, rfl, o2, hb8⟩) | (refine wpList_load_row rfl 26 _ rfl p4 rfl 26 _ (0, 0) _ C4 Tryz.underlying26 rfl (by kernel_rfl) ?_))
        have B8 := B8.below hb8
        have X := X.below hb8
        have oB := oB.below hb8
        clear C4 k0 cH hb8
        go_wp2_with fail
        go_loopw [14] (fun vi wr => ∃ j : Nat, vi = .int .i64 j ∧ j ≤ L + 1 ∧ Below w8.heap.size w8 wr) (fun vi _ => L + 1 - (intOf vi).toNat)
        case atStart => exact ⟨0, rfl, Nat.zero_le _, Below.refl _ _⟩
        case round =>
          obtain ⟨j, rfl, hj, hbj⟩ := hrel
          by_cases hjl : j < L + 1
          · obtain ⟨g1, e1, _, _, q1⟩ := (oB.below hbj).int hjl
            obtain ⟨g2, e2, _, _, q2⟩ := (o2.below hbj).int hjl
            subst e1 e2
            have hjl' : (j : Int) < (L : Int) + 1 := by omega
            generalize gI ns j = v at *
            go_upto_region 21 with fail
            go_quiet (fail)
            go_wp2_with fail
            go_roundw
            case rel => exact ⟨j + 1, by simp, by omega, below_drewN hbj _⟩
            case measure => rw [intOf, intOf]; omega
          · have hje : j = L + 1 := by omega
            subst hje
            have X := X.below hbj
            have B8 := B8.below hbj
            clear hbj oB o2
            have k1 := X.b5.cell 1 rfl
            by_cases hr : a1 < 0 ∨ 32767 < a1
            · have hxe := HXE.out.trans (if_pos hr)
              have hxf := HXF.out
              rw [hxe, if_neg (by decide)] at hxf
              rw [hxf, ← HZ.out] at B8
              have C8 := B8
              unfold Blk at C8
              subst hxe
              clear HXE HXF hxf
              rcases (show a1 < 0 ∨ (¬ a1 < 0 ∧ 32767 < a1) by omega) with h | ⟨h, h'⟩
              all_goals
                clear hr
                go_upto_region 24 with fail
                refine wp_region_lit ?_
                refine wpList_load_row rfl 26 _ rfl p8 rfl 26 _ (0, 0) _ C8 Tryz.underlying26 rfl (by rw [HZ.out]; kernel_rfl) ?_
                try simp only [Act.put, List.setIfInBounds_toArray, List.set_cons_zero, List.set_cons_succ]
                refine wpl_val (.agg Z) wr (by rfl) (by rw [HZ.out]; kernel_rfl) ?_
                try simp only [Act.put, List.setIfInBounds_toArray, List.set_cons_zero, List.set_cons_succ]
                refine wpl_val (.bool true) wr (by rfl) (by go_simp) ?_
                try simp only [Act.put, List.setIfInBounds_toArray, List.set_cons_zero, List.set_cons_succ]
                go_wp2_with fail
                go_ret
                exact HP.out _ _ ⟨rfl, X.bel⟩
            · have hr1 : ¬ a1 < 0 := fun h => hr (.inl h)
              have hr2 : ¬ 32767 < a1 := fun h => hr (.inr h)
              have HXE := Lib.hid (HXE.out.trans (if_neg hr))
              clear hr
              go_wp2_with fail
              go_loop [15] (fun vi => ∃ j : Nat, vi = .int .i64 j ∧ j ≤ 9 ∧ ∀ t, t < j → ¬ ((c t).1 < 0 ∨ 1099511627776 < (c t).1)) (fun vi => 9 - (intOf vi).toNat)
              case atStart => exact ⟨0, rfl, Nat.zero_le _, fun t ht => absurd ht (Nat.not_lt_zero _)⟩
              case round =>
                obtain ⟨j, rfl, hj9, hall⟩ := hrel
                have HA := Lib.hid hall
                clear hall
                by_cases hj : j < 9
                · obtain ⟨z0, _⟩ := X.b4.cn hj
                  have hj' : (j : Int) < 9 := by omega
                  by_cases hb : (c j).1 < 0 ∨ 1099511627776 < (c j).1
                  · have hxe := HXE.out.trans (if_pos (ovB_at hj hb))
                    have hxf := HXF.out
                    rw [hxe, if_neg (by decide)] at hxf
                    rw [hxf, ← HZ.out] at B8
                    have C8 := B8
                    unfold Blk at C8
                    subst hxe
                    clear HXE HXF hxf
                    generalize (c j).1 = cj at *
                    rcases (show cj < 0 ∨ (¬ cj < 0 ∧ 1099511627776 < cj) by omega) with h | ⟨h, h'⟩
                    all_goals
                      clear hb
                      go_upto_region 29 with fail
                      refine wp_region_lit ?_
                      refine wpList_load_row rfl 26 _ rfl p8 rfl 26 _ (0, 0) _ C8 Tryz.underlying26 rfl (by rw [HZ.out]; kernel_rfl) ?_
                      try simp only [Act.put, List.setIfInBounds_toArray, List.set_cons_zero, List.set_cons_succ]
                      refine wpl_val (.agg Z) wr (by rfl) (by rw [HZ.out]; kernel_rfl) ?_
                      try simp only [Act.put, List.setIfInBounds_toArray, List.set_cons_zero, List.set_cons_succ]
                      refine wpl_val (.bool true) wr (by rfl) (by go_simp) ?_
                      try simp only [Act.put, List.setIfInBounds_toArray, List.set_cons_zero, List.set_cons_succ]
                      go_wp2_with fail
                      go_ret
                      exact HP.out _ _ ⟨rfl, X.bel⟩
                  · have hn1 : ¬ (c j).1 < 0 := fun h => hb (.inl h)
                    have hn2 : ¬ 1099511627776 < (c j).1 := fun h => hb (.inr h)
                    have HBJ := Lib.hid hb
                    clear hb
                    go_wp2_with fail
                    go_round
                    case rel => exact ⟨j + 1, by simp, by omega, fun t ht => by
                      rcases (show t < j ∨ t = j by omega) with h | rfl
                      · exact HA.out t h
                      · exact HBJ.out⟩
                    case measure => simp [intOf]; omega
                · have hj9 : j = 9 := by omega
                  subst hj9
                  have hov := ovB_no HA.out
                  have hxe := HXE.out.trans (if_neg (by rw [hov]; simp))
                  have hxf := HXF.out.trans (if_pos hxe)
                  have hcL := HA.out L (by omega)
                  rw [hxf] at B8
                  subst hxe
                  clear HXE HXF hov hj hxf qz
                  have cX := lnext_any A i cA ls c 1099511627776 L a1 wr.drew (ha.below (bDrew X.bel)) h9 (by omega) (by omega) (Int.le_refl _)
                  obtain ⟨ly, hly⟩ : ∃ ly, ly = cnL (nextC ls i c L a1) := ⟨_, rfl⟩
                  obtain ⟨lc, hlc⟩ : ∃ lc, lc = cnL c := ⟨_, rfl⟩
                  have B4 := X.b4
                  rw [cnA_L (nextC ls i c L a1), ← hly] at cX B8
                  rw [cnA_L c, ← hlc] at cX B4
                  have qy : ∀ W, (Op.equalIn 10000 26 (.agg ly.toArray) (.agg ly.toArray)).run Tryz.prog W = .ok true W := fun W => equalN_list hly hly W
                  have sy : (Tryz.prog.info? 26).map (·.size) = some ly.length := by rw [hly]; exact size48
                  have sc : (Tryz.prog.info? 26).map (·.size) = some lc.length := by rw [hlc]; exact size48
                  have HLY := Lib.hid hly
                  have HLC := Lib.hid hlc
                  clear hly hlc
                  have r8 := Blk.rng B8
                  have r4 := Blk.rng B4
                  have k0 := X.b5.cell 0 rfl
                  have k1 := X.b5.cell 1 rfl
                  clear hcL
                  go_upto_region 30 with fail
                  refine wp_region_held_drew (S := fun w' => w'.rangeAt p8 0 ly ∧ w'.rangeAt p4 0 lc ∧ w'.cell? ⟨p5, 0, none⟩ = some (.int .i64 ((L : Int) + 1)) ∧ w'.cell? ⟨p5, 1, none⟩ = some (.int .i64 a1)) (by kernel_rfl) ⟨r8, r4, k0, k1⟩ (fun hHeld => ?_)
                  refine hx_take 0 (some 158) (.agg ly.toArray) rfl (by kernel_rfl) (by kernel_rfl) (by kernel_rfl) (fun _ _ _ h => h) rfl (yieldsIf_load_mid (by rfl) _ _ rfl p8 0 rfl ly _ (fun w hSw => hSw.1) Tryz.underlying26 rfl sy) (by assumption) ?_
                  try simp only [Act.put, List.setIfInBounds_toArray, List.set_cons_zero, List.set_cons_succ]
                  refine hx_take 1 (some 159) _ rfl (by kernel_rfl) (by kernel_rfl) (by kernel_rfl) (fun _ _ _ h => h) rfl (Or.inl ⟨by rfl, fun w hSw => by first | (go_simp; done) | (go_simp; with_reducible rfl) | (go_simp; rfl)⟩) (by assumption) ?_
                  try simp only [Act.put, List.setIfInBounds_toArray, List.set_cons_zero, List.set_cons_succ]
                  refine hx_take 2 (some 160) (.agg lc.toArray) rfl (by kernel_rfl) (by kernel_rfl) (by kernel_rfl) (fun _ _ _ h => h) rfl (yieldsIf_load_mid (by rfl) _ _ rfl p4 0 rfl lc _ (fun w hSw => hSw.2.1) Tryz.underlying26 rfl sc) (by assumption) ?_
                  try simp only [Act.put, List.setIfInBounds_toArray, List.set_cons_zero, List.set_cons_succ]
                  refine hx_take 3 (some 161) _ rfl (by kernel_rfl) (by kernel_rfl) (by kernel_rfl) (fun _ _ _ h => h) rfl (Or.inl ⟨by rfl, fun w hSw => by first | (go_simp; done) | (go_simp; with_reducible rfl) | (go_simp; rfl)⟩) (by assumption) ?_
                  try simp only [Act.put, List.setIfInBounds_toArray, List.set_cons_zero, List.set_cons_succ]
                  refine hx_take 5 (some 163) _ rfl (by kernel_rfl) (by kernel_rfl) (by kernel_rfl) (fun _ _ _ h => h) rfl (Or.inl ⟨by rfl, fun w hSw => by first | (go_simp; done) | (go_simp; with_reducible rfl) | (go_simp; rfl)⟩) (by assumption) ?_
                  try simp only [Act.put, List.setIfInBounds_toArray, List.set_cons_zero, List.set_cons_succ]
                  refine hx_take 4 (some 162) _ rfl (by kernel_rfl) (by kernel_rfl) (by kernel_rfl) (fun _ _ _ h => h) rfl (Or.inl ⟨by rfl, fun w hSw => by first | (go_simp; done) | (go_simp; with_reducible rfl) | (go_simp; rfl)⟩) (by assumption) ?_
                  try simp only [Act.put, List.setIfInBounds_toArray, List.set_cons_zero, List.set_cons_succ]
                  refine hx_take 6 (some 164) _ rfl (by kernel_rfl) (by kernel_rfl) (by kernel_rfl) (fun _ _ _ h => h) rfl (Or.inl ⟨by rfl, fun w hSw => by first | (go_simp; done) | (go_simp; with_reducible rfl) | (go_simp; rfl)⟩) (by assumption) ?_
                  try simp only [Act.put, List.setIfInBounds_toArray, List.set_cons_zero, List.set_cons_succ]
                  refine hx1 7 (by kernel_rfl) ?_
                  refine hx_call 7 (some 165) _ _ (.agg ly.toArray) _ rfl (by rfl) rfl (by first | (go_simp; done) | (go_simp; rfl)) cX ?_
                  rintro w9 hb9
                  have hS9 : w9.rangeAt p8 0 ly ∧ w9.rangeAt p4 0 lc ∧ w9.cell? ⟨p5, 0, none⟩ = some (.int .i64 ((L : Int) + 1)) ∧ w9.cell? ⟨p5, 1, none⟩ = some (.int .i64 a1) := ⟨fun j u hu => keepC hb9 (r8 j u hu), fun j u hu => keepC hb9 (r4 j u hu), keepC hb9 k0, keepC hb9 k1⟩
                  refine ⟨hS9, ?_⟩
                  try simp only [Act.put, List.setIfInBounds_toArray, List.set_cons_zero, List.set_cons_succ]
                  refine hx_take 8 (some 166) _ rfl (by kernel_rfl) (by kernel_rfl) (by kernel_rfl) (fun _ _ _ h => h) rfl (Or.inl ⟨by rfl, fun w hSw => by first | (go_simp; done) | (go_simp; with_reducible rfl) | (go_simp; rfl)⟩) (by assumption) ?_
                  try simp only [Act.put, List.setIfInBounds_toArray, List.set_cons_zero, List.set_cons_succ]
                  refine hx_take 9 (some 167) _ rfl (by kernel_rfl) (by kernel_rfl) (by kernel_rfl) (fun _ _ _ h => h) rfl (Or.inl ⟨by rfl, fun w hSw => by first | (go_simp; done) | (go_simp; with_reducible rfl) | (go_simp; rfl)⟩) (by assumption) ?_
                  try simp only [Act.put, List.setIfInBounds_toArray, List.set_cons_zero, List.set_cons_succ]
                  refine hx_take 10 (some 168) _ rfl (by kernel_rfl) (by kernel_rfl) (by kernel_rfl) (fun _ _ _ h => h) rfl (Or.inl ⟨by rfl, fun w hSw => by first | (go_simp; done) | (go_simp; with_reducible rfl) | (go_simp; rfl)⟩) (by assumption) ?_
                  try simp only [Act.put, List.setIfInBounds_toArray, List.set_cons_zero, List.set_cons_succ]
                  refine hx_take 11 (some 169) _ rfl (by kernel_rfl) (by kernel_rfl) (by kernel_rfl) (fun _ _ _ h => h) rfl (Or.inl ⟨by rfl, fun w hSw => by first | (go_simp; done) | (go_simp; with_reducible rfl) | (go_simp; rfl)⟩) (by assumption) ?_
                  try simp only [Act.put, List.setIfInBounds_toArray, List.set_cons_zero, List.set_cons_succ]
                  refine hx_take 12 (some 170) _ rfl (by kernel_rfl) (by kernel_rfl) (by kernel_rfl) (fun _ _ _ h => h) rfl (Or.inl ⟨by rfl, fun w hSw => by first | (go_simp; done) | (go_simp; with_reducible rfl) | (go_simp; rfl)⟩) (by assumption) ?_
                  try simp only [Act.put, List.setIfInBounds_toArray, List.set_cons_zero, List.set_cons_succ]
                  refine hx_take 13 (some 6) _ rfl (by kernel_rfl) (by kernel_rfl) (by kernel_rfl) (fun _ _ _ h => h) rfl (Or.inl ⟨by rfl, fun w hSw => by first | (go_simp; done) | (go_simp; with_reducible rfl) | (go_simp; rfl)⟩) (by assumption) ?_
                  try simp only [Act.put, List.setIfInBounds_toArray, List.set_cons_zero, List.set_cons_succ]
                  refine wpAnyH_done (by kernel_rfl) ?_ _
                  have HB := Lib.hid (below_trans' (bDrew X.bel) (bDrew X.bel).size hb9)
                  clear hS9 hb9
                  go_wp2_with fail
                  go_ret
                  exact HP.out _ _ ⟨rfl, HB.out⟩
      · obtain ⟨rfl, rfl, rfl⟩ := hNO hck
        have hxe : nxE ls i c a0 a1 = ckE ls i a0 := if_pos hck
        have hxf : nxF ls i c a0 a1 = cnZ := if_neg (by rw [hxe]; exact hck)
        rw [hxf, ← HZ.out] at B8
        rw [hxe]
        have C8 := B8
        unfold Blk at C8
        have k0 := X.b5.cell 0 rfl
        have hce : ckE ls i a0 = if clE ls ≠ 0 then clE ls else if a0 < 1 ∨ (i : Int) < a0 then 2 else 0 := rfl
        clear hOK hNO hb7 cC hxe hxf
        by_cases hcl : clE ls = 0
        · have hr : a0 < 1 ∨ (i : Int) < a0 := by
            rcases Classical.em (a0 < 1 ∨ (i : Int) < a0) with h | h
            · exact h
            · rw [if_neg (by simpa using hcl), if_neg h] at hce; exact absurd hce hck
          rw [if_neg (by simpa using hcl), if_pos hr] at hce
          rw [hce, hcl]
          clear hce hck hcl
          rcases (show a0 < 1 ∨ (1 ≤ a0 ∧ (i : Int) < a0) by omega) with h | ⟨h, h'⟩
          all_goals
            go_upto_region 14 with fail
            refine wp_region_lit ?_
            refine wpList_load_row rfl 26 _ rfl p8 rfl 26 _ (0, 0) _ C8 Tryz.underlying26 rfl (by rw [HZ.out]; kernel_rfl) ?_
            try simp only [Act.put, List.setIfInBounds_toArray, List.set_cons_zero, List.set_cons_succ]
            refine wpl_val (.agg Z) w7 (by rfl) (by rw [HZ.out]; kernel_rfl) ?_
            try simp only [Act.put, List.setIfInBounds_toArray, List.set_cons_zero, List.set_cons_succ]
            refine wpl_val (.bool true) w7 (by rfl) (by go_simp) ?_
            try simp only [Act.put, List.setIfInBounds_toArray, List.set_cons_zero, List.set_cons_succ]
            go_wp2_with fail
            go_ret
            exact HP.out _ _ ⟨rfl, X.bel⟩
        · rw [if_pos (by simpa using hcl)] at hce
          rw [hce]
          clear hce hck
          have e1 : (clE ls == 0) = false := beq_eq_false_iff_ne.2 hcl
          have e2 : (clE ls != 0) = true := bne_iff_ne.2 hcl
          clear hcl
          generalize clE ls = ce at *
          go_upto_region 14 with fail
          refine wp_region_lit ?_
          refine wpList_load_row rfl 26 _ rfl p8 rfl 26 _ (0, 0) _ C8 Tryz.underlying26 rfl (by rw [HZ.out]; kernel_rfl) ?_
          try simp only [Act.put, List.setIfInBounds_toArray, List.set_cons_zero, List.set_cons_succ]
          refine wpl_val (.agg Z) w7 (by rfl) (by rw [HZ.out]; kernel_rfl) ?_
          try simp only [Act.put, List.setIfInBounds_toArray, List.set_cons_zero, List.set_cons_succ]
          refine wpl_val (.bool true) w7 (by rfl) (by go_simp) ?_
          try simp only [Act.put, List.setIfInBounds_toArray, List.set_cons_zero, List.set_cons_succ]
          go_wp2_with fail
          go_ret
          exact HP.out _ _ ⟨rfl, X.bel⟩
end Go.Proofs.YthbodpjkckminaaGreatDoor

namespace Go.Proofs.YthbodpjkckminaaGreatDoor
open Go.ChangeShapes Go.WideShapes Go.ChangeAt Go.RowKit Go.Deep
open Go.ChangeMaps (open_string shut_string)

theorem own_knob : ownKnob Tryz.prog.godebug = none := by kernel_rfl
theorem laid_out : laidOutB Tryz.prog = true := by kernel_rfl

section
variable {H : Type} {enc : TypeId × Value → H} {P : Program}
theorem trodAll_stays {W W' : World} (hl : laidOutB P = true) (hb : Below W.heap.size W W') : ∀ (ts : List TypeId) (vs : List Value) (ds : List (DataW H)) (ps : List MemPlace), (∀ t ∈ ts, P.readableRec t = true ∧ t < P.types.size) →
    DataW.TrodAll enc P W 0 (fun _ => true) true ts vs ds ps → (∀ p ∈ ps, p.block < W.heap.size) → ∀ sp : Nat → Bool, (∀ p ∈ ps, sp p.block = true) → DataW.TrodAll enc P W' 0 sp true ts vs ds ps
  | [], vs, ds, ps, _, h, _, sp, _ => by
    obtain ⟨rfl, rfl, rfl⟩ := trodAll_nil h
    exact trodAll_mk0
  | t :: ts, vs, ds, ps, hr, h, hlt, sp, hsp => by
    obtain ⟨v, vs', d, ds', p, q, rfl, rfl, rfl, h0, r0⟩ := trodAll_cons h
    have ht := hr t (List.mem_cons_self ..)
    refine trodAll_cons_mk (WideElems.Trod_stays hl ht.1 ht.2 h0 (fun x hx => hb.same (hlt x (List.mem_append_left _ hx))) (fun x hx => hsp x (List.mem_append_left _ hx))) ?_
    exact trodAll_stays hl hb ts vs' ds' q (fun t ht => hr t (List.mem_cons_of_mem _ ht)) r0 (fun x hx => hlt x (List.mem_append_right _ hx)) sp (fun x hx => hsp x (List.mem_append_right _ hx))

/-- The row's last step of a law: it returned true, and below the old heap nothing has turned. -/
theorem post_law {f : Func} {s : ChangeSpec} {apart fresh handsOn again : Bool} {W W' : World} {args : Array Value} {ds gs : List (DataW H)} {before : List MemPlace}
    (hl : laidOutB P = true) (hread : ∀ t ∈ f.params.toList, P.readableRec t = true ∧ t < P.types.size)
    (hW : DataW.Whole enc P f.params.toList s.vars apart W args.toList ds gs before)
    (hvars : s.vars = []) (hres : (s.fn H (ds ++ gs)).results = [.lit (.bool true)]) (hargs : (s.fn H (ds ++ gs)).args = ds) (hvs : (s.fn H (ds ++ gs)).vars = [])
    {tb : TypeId} (htb : P.underlying tb = some .bool) (hrt : f.resultTypes = #[tb]) (hb : Below W.heap.size W W') :
    s.post enc P f apart fresh handsOn again W args (.bool true) W' := by
  have hlt : ∀ p ∈ before, p.block < W.heap.size := fun p hp => hW.lt p hp
  have hold : ∀ p ∈ before, (fun b => decide (b < W.heap.size)) p.block = true := fun p hp => by simpa using hlt p hp
  have hW0 := hW
  obtain ⟨p, q, hA, hV, rfl, hz, hn⟩ := hW
  rw [hvars] at hV
  obtain ⟨rfl, rfl⟩ := trodVars_none hV
  simp only [List.append_nil] at hlt hold hz hn hres hargs hvs hW0
  have ha : ∀ sp : Nat → Bool, (∀ x ∈ p, sp x.block = true) → DataW.TrodAll enc P W' 0 sp true f.params.toList args.toList (s.fn H ds).args p := fun sp hsp => by
    rw [hargs]; exact trodAll_stays hl hb _ _ _ _ hread hA hlt sp hsp
  have hr : ∀ (b : Nat) (sp : Nat → Bool) (hd : Bool), DataW.TrodAll enc P W' b sp hd f.resultTypes.toList ((Value.bool true).resultList f.resultTypes.size) (s.fn H ds).results [] := fun b sp hd => by
    rw [hrt, hres]; exact trodAll_cons_mk (shut_bool htb _) trodAll_mk0
  have hv : ∀ sp : Nat → Bool, DataW.TrodVars enc P W' sp s.vars (s.fn H ds).vars [] := fun sp => by rw [hvars, hvs]; rfl
  have hok := ok_one (P := P) (W' := W') (f := f) (v := .bool true) hrt rfl (okWide_bool_mk htb true)
  refine ⟨ds, [], p, [], p, [], by simpa using hW0, by simpa using hr _ _ _, by simpa using ha _ hold, by simpa using hv _, World.keptBut_mono (fun x hx => ⟨hx, .inr (by simpa using hx)⟩) (hb.frame (· ∈ p)), fun _ => ?_⟩
  refine ⟨hok, _, _, ([] ++ p) ++ [], ⟨[] ++ p, [], trodAll_append (by simpa using ha _ (fun _ _ => rfl)) (by simpa using hr _ _ _), by simpa using hv _, rfl, ?_, ?_⟩, ?_⟩
  · intro b off hp
    have hin : MemPlace.cell b off ∈ p := by simpa using hp
    rw [hb.frozen (hlt _ hin)]
    exact hz b off hin
  · intro h
    have := hn h
    simpa using this
  · intro x hx _
    simpa using hx

/-- Whatever reads as data of type t are the cells of some y. -/
def Opens {α : Type} (enc : TypeId × Value → H) (P : Program) (w : World) (t : TypeId) (ev : α → List Value) (ok : α → Prop) : Prop :=
  ∀ (fuel : Nat) (cs : List Value) (x : DataW H × List MemPlace), DataW.trod enc P w 0 (fun _ => true) true fuel t cs = some x → ∃ y, cs = ev y ∧ ok y
theorem opens_int {k : IntKind} {w : World} {t : TypeId} (ht : P.underlying t = some (.int k)) : Opens enc P w t (fun n => [Value.int k n]) (fun n => (Lit.int k n).wf = true) := fun fuel cs x h => by
  obtain ⟨n, h1, _, h2⟩ := DataW.trod_int ht h
  exact ⟨n, h1, h2⟩
theorem open_sl {α : Type} {w : World} {t e : TypeId} {s : Nat} {ev : α → List Value} {ok : α → Prop} (ht : P.underlying t = some (.slice e)) (hC : P.cellsOf e = s) (hs0 : 0 < s) (ho : Opens enc P w e ev ok) {r : Reach} {b0 : Nat} {v : Value} {d : DataW H} {p : List MemPlace}
    (hval : Value.okWide P w r b0 t v) (h : DataW.Trod enc P w 0 (fun _ => true) true t v d p) :
    ∃ (A : Option Addr) (n c : Nat) (xs : List α), v = .slice A n c ∧ n ≤ c ∧ c ≤ maxLen ∧ Sl w s ev A n xs ∧ ∀ x ∈ xs, ok x := by
  obtain ⟨A0, n0, c0, rfl⟩ := okWide_slice ht hval
  obtain ⟨fuel, hf⟩ := h
  rcases open_slice ht hf with ⟨h0, _⟩ | ⟨a, n, c, m, k, D, Pl, hcs, _, hl, hm, hmm, _, hi⟩
  · simp only [Value.cells, List.cons.injEq, and_true] at h0
    injection h0 with h1 h2 h3
    subst h1; subst h2; subst h3
    exact ⟨none, 0, 0, [], rfl, Nat.le_refl _, Nat.zero_le _, Sl.nil, by simp⟩
  · simp only [Value.cells, List.cons.injEq, and_true] at hcs
    rw [hcs]
    simp only [if_true] at hmm
    have hc1 : ∀ i, i < n → ∃ y, (ok y ∧ ∀ j u, (ev y)[j]? = some u → w.cell? (a.add (i * s + j)) = some u ∧ a.block < w.heap.size) := fun i hin => by
      obtain ⟨cs', hc, ht'⟩ := hi i (by omega)
      obtain ⟨y, hy, hok⟩ := ho _ _ _ ht'
      rw [hC] at hc
      obtain ⟨_, hcl, hat⟩ := World.cells?_some hc
      refine ⟨y, hok, fun j u hu => ?_⟩
      rw [← hy] at hu
      have hj : j < s := by have := (List.getElem?_eq_some_iff.1 hu).1; omega
      have hcell := hat j hj
      rw [hu] at hcell
      have e : w.cell? (a.add (i * s + j)) = some u := by rw [← hcell, Go.Deep.add_add]
      exact ⟨e, by have := World.block_lt_of_cell? w _ e; rw [block_add] at this; exact this⟩
    by_cases hn : n = 0
    · subst hn
      exact ⟨some a, 0, c, [], rfl, Nat.zero_le _, hm, ⟨rfl, fun h => absurd h (by omega)⟩, by simp⟩
    · have hne : Nonempty α := ⟨(hc1 0 (by omega)).choose⟩
      have hc2 : ∀ i, ∃ y, i < n → (ok y ∧ ∀ j u, (ev y)[j]? = some u → w.cell? (a.add (i * s + j)) = some u ∧ a.block < w.heap.size) := fun i => by
        by_cases hin : i < n
        · obtain ⟨y, hy⟩ := hc1 i hin
          exact ⟨y, fun _ => hy⟩
        · exact ⟨Classical.choice hne, fun h => absurd h hin⟩
      obtain ⟨f, hf'⟩ := Classical.axiomOfChoice hc2
      have hz : a.block < w.heap.size := by
        obtain ⟨cs', hc, ht'⟩ := hi 0 (by omega)
        obtain ⟨_, hcl, hat⟩ := World.cells?_some hc
        have hp : 0 < P.cellsOf e := by omega
        have hcell := hat 0 hp
        have hlen : cs'[0]? = some (cs'[0]'(by omega)) := List.getElem?_eq_getElem _
        rw [hlen] at hcell
        have := World.block_lt_of_cell? w _ hcell
        rw [block_add, block_add] at this
        exact this
      refine ⟨some a, n, c, (List.range n).map f, rfl, hl, hm, ⟨by simp, fun _ => ⟨a, rfl, hz, fun i x hx j u hu => ?_⟩⟩, ?_⟩
      · have hin : i < n := by have := (List.getElem?_eq_some_iff.1 hx).1; simpa using this
        rw [List.getElem?_map, List.getElem?_range hin] at hx
        injection hx with hx
        subst hx
        exact ((hf' i hin).2 j u hu).1
      · intro x hx
        obtain ⟨i, hi, rfl⟩ := List.mem_map.1 hx
        exact (hf' i (List.mem_range.1 hi)).1
end
end Go.Proofs.YthbodpjkckminaaGreatDoor

namespace Go.Proofs.YthbodpjkckminaaGreatDoor
open Go.ChangeShapes Go.WideShapes Go.ChangeAt Go.RowKit Go.Deep

theorem bytes_ext {a b : ByteArray} (h : a.data.toList = b.data.toList) : a = b := by
  cases a; cases b
  simp at h
  rw [h]
theorem flat_of {α : Type} {s : Nat} {enc : α → List Value} (henc : ∀ x : α, (enc x).length = s) (hs : 0 < s) {cs : List Value} {xs : List α} (hl : cs.length = xs.length * s) (h : ∀ i x, xs[i]? = some x → (cs.drop (i * s)).take s = enc x) : cs = xs.flatMap enc := by
  apply List.ext_getElem?
  intro j
  by_cases hj : j < xs.length * s
  · have h1 : j / s < xs.length := Nat.div_lt_of_lt_mul (by rw [Nat.mul_comm]; exact hj)
    have h2 : j % s < s := Nat.mod_lt _ hs
    have hx : xs[j / s]? = some xs[j / s] := List.getElem?_eq_getElem h1
    have h3 : j % s < (enc xs[j / s]).length := by rw [henc]; exact h2
    have f := getElem?_flat henc xs (j / s) _ hx (j % s) _ (List.getElem?_eq_getElem h3)
    rw [Nat.div_add_mod' j s] at f
    rw [f, ← List.getElem?_eq_getElem h3, ← h _ _ hx, List.getElem?_take, if_pos h2, List.getElem?_drop, Nat.div_add_mod' j s]
  · rw [List.getElem?_eq_none (by omega), List.getElem?_eq_none (by rw [flat_len henc]; omega)]
section
variable {H : Type} {enc : TypeId × Value → H}
set_option maxRecDepth 100000 in
theorem sign_at {W : World} {fuel : Nat} {cs : List Value} {x : DataW H × List MemPlace} {sp : Nat → Bool} {held : Bool} {b : Nat} (h : DataW.trod enc Tryz.prog W b sp held fuel 323 cs = some x) : ∃ (n : Int) (s : ByteArray), cs = [.int .i64 n, .string s] ∧ x.1 = .agg [.lit (.int .i64 n), .lit (.string s.data.toList)] := by
  obtain ⟨xs, n, _, e, hcl, hxl, hf⟩ := DataW.trod_struct Tryz.underlying323 h
  have hc2 : cs.length = 2 := hcl
  have f0 := hf 0 _ rfl
  have f1 := hf 1 _ rfl
  match cs, hc2 with
  | [a, c], _ =>
    match xs, hxl with
    | [y0, y1], _ =>
      obtain ⟨n0, e0, x0, _⟩ := DataW.trod_int Tryz.underlying3 (show DataW.trod enc Tryz.prog W b sp held n 3 [a] = some y0 from f0)
      obtain ⟨s1, e1, x1, _⟩ := DataW.trod_string Tryz.underlying9 (show DataW.trod enc Tryz.prog W b sp held n 9 [c] = some y1 from f1)
      simp only [List.cons.injEq, and_true] at e0 e1
      subst e0; subst e1
      refine ⟨n0, s1, rfl, ?_⟩
      rw [e, x0, x1]
      rfl
end
def signD {H : Type} (p : Int × ByteArray) : DataW H := .agg [.lit (.int .i64 p.1), .lit (.string p.2.data.toList)]
set_option maxRecDepth 100000 in
theorem signs_of {W : World} {fuel : Nat} {cs : List Value} {p : List MemPlace} {sp : Nat → Bool} {held : Bool} {b : Nat} (h : DataW.trod (fun _ => ()) Tryz.prog W b sp held fuel 324 cs = some (.agg (signsP.map signD), p)) : cs = signsC := by
  obtain ⟨xs, m, _, e, hcl, hxl, hel⟩ := DataW.trod_array Tryz.underlying324 h
  have ce : Tryz.prog.cellsOf 323 = 2 := by kernel_rfl
  have ct : Tryz.prog.cellsOf 324 = 26 := by kernel_rfl
  rw [ct] at hcl
  have hm : xs.map (·.1) = signsP.map signD := by
    have := congrArg Prod.fst e
    simpa using this.symm
  have hsl : signsP.length = 13 := rfl
  refine flat_of (enc := fun p : Int × ByteArray => [Value.int .i64 p.1, Value.string p.2]) (s := 2) (fun _ => rfl) (by omega) (by rw [hcl, hsl]) (fun i x hx => ?_)
  have hi : i < 13 := by rw [← hsl]; exact (List.getElem?_eq_some_iff.1 hx).1
  have hE := hel i hi
  rw [ce, List.getElem?_eq_getElem (by omega : i < xs.length)] at hE
  obtain ⟨n, s, e1, e2⟩ := sign_at hE
  have e3 : (xs.map (·.1))[i]? = (signsP.map (signD (H := Unit)))[i]? := by rw [hm]
  rw [List.getElem?_map, List.getElem?_map, List.getElem?_eq_getElem (by omega : i < xs.length), hx] at e3
  simp only [Option.map_some, Option.some.injEq] at e3
  rw [e2] at e3
  unfold signD at e3
  simp only [DataW.agg.injEq, List.cons.injEq, DataW.lit.injEq, Lit.int.injEq, Lit.string.injEq, and_true, true_and] at e3
  obtain ⟨e4, e5⟩ := e3
  rw [e1, e4, bytes_ext e5]
end Go.Proofs.YthbodpjkckminaaGreatDoor
