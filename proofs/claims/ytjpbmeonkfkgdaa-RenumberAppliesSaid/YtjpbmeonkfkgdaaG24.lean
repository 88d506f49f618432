/- The walk of the law RenumberOf. -/
import Derived.Test.YtjpbmeonkfkgdaaG18
import Derived.Test.YtjpbmeonkfkgdaaG22
import Derived.Test.YtjpbmeonkfkgdaaG23
namespace Go.Proofs.Ytjpbmeonkfkgdaa
open Go.RowKit

theorem stoodCn : Try.prog.stoodInHeld 48 = false := by kernel_rfl
theorem fieldsCn : Try.prog.underlying 48 = some (.struct (Try.prog.fieldsOf 48)) := by kernel_rfl
theorem fieldsCnL : (Try.prog.fieldsOf 48).toList.map (fun f => (f.name, f.type, f.offset)) = [("Number", 45, 0), ("Started", 46, 9)] := by kernel_rfl
theorem equalN_self (c : Cn) (w : World) : (Op.equalIn 10000 48 (.agg (cnA c)) (.agg (cnA c))).run Try.prog w = .ok true w := by
  rw [run_equalIn_struct w 9999 48 _ _ fieldsCn stoodCn, eqFields_map _ _ _ _ _ fieldsCnL]
  have a1 : ∀ w, (isAgg 45).run Try.prog w = .ok true w := fun w => by kernel_rfl
  have a2 : ∀ w, (isAgg 46).run Try.prog w = .ok true w := fun w => by kernel_rfl
  have s1 : ∀ w, (sizeOf 45).run Try.prog w = .ok 9 w := fun w => by kernel_rfl
  have s2 : ∀ w, (sizeOf 46).run Try.prog w = .ok 9 w := fun w => by kernel_rfl
  have p1 : ∀ w, (part 45 (cnA c) 0).run Try.prog w = .ok (.agg (cnN c).toArray) w := fun w => by
    simp only [part, Sem.run_bind, a1, Result.andThen_ok, if_true, s1, Sem.run_pure]; rfl
  have p2 : ∀ w, (part 46 (cnA c) 9).run Try.prog w = .ok (.agg #[.bool (c 0).2, .bool (c 1).2, .bool (c 2).2, .bool (c 3).2, .bool (c 4).2, .bool (c 5).2, .bool (c 6).2, .bool (c 7).2, .bool (c 8).2]) w := fun w => by
    simp only [part, Sem.run_bind, a2, Result.andThen_ok, if_true, s2, Sem.run_pure]; rfl
  have i1 : ∀ w, (isAgg 3).run Try.prog w = .ok false w := fun w => by kernel_rfl
  have i2 : ∀ w, (isAgg 4).run Try.prog w = .ok false w := fun w => by kernel_rfl
  have e1 : ∀ w, (Op.equalIn 9999 45 (.agg (cnN c).toArray) (.agg (cnN c).toArray)).run Try.prog w = .ok true w := fun w => by
    have := run_equalIn_array w 9998 45 3 9 1 Try.underlying45 (fun w => by kernel_rfl) (cnN c).toArray (cnN c).toArray (fun _ => true) (lt9 (p := fun i => ∃ a b, (∀ w, (part 3 (cnN c).toArray (i * 1)).run Try.prog w = .ok a w) ∧ (∀ w, (part 3 (cnN c).toArray (i * 1)).run Try.prog w = .ok b w) ∧ ∀ w, (Op.equalIn 9998 3 a b).run Try.prog w = .ok true w) ⟨.int .i64 (c 0).1, .int .i64 (c 0).1, fun w => by simp [part, i1, cnN], fun w => by simp [part, i1, cnN], fun w => by rw [run_equalIn_int w 9997 3 .i64 .i64 _ _ Try.underlying3]; simp⟩ ⟨.int .i64 (c 1).1, .int .i64 (c 1).1, fun w => by simp [part, i1, cnN], fun w => by simp [part, i1, cnN], fun w => by rw [run_equalIn_int w 9997 3 .i64 .i64 _ _ Try.underlying3]; simp⟩ ⟨.int .i64 (c 2).1, .int .i64 (c 2).1, fun w => by simp [part, i1, cnN], fun w => by simp [part, i1, cnN], fun w => by rw [run_equalIn_int w 9997 3 .i64 .i64 _ _ Try.underlying3]; simp⟩ ⟨.int .i64 (c 3).1, .int .i64 (c 3).1, fun w => by simp [part, i1, cnN], fun w => by simp [part, i1, cnN], fun w => by rw [run_equalIn_int w 9997 3 .i64 .i64 _ _ Try.underlying3]; simp⟩ ⟨.int .i64 (c 4).1, .int .i64 (c 4).1, fun w => by simp [part, i1, cnN], fun w => by simp [part, i1, cnN], fun w => by rw [run_equalIn_int w 9997 3 .i64 .i64 _ _ Try.underlying3]; simp⟩ ⟨.int .i64 (c 5).1, .int .i64 (c 5).1, fun w => by simp [part, i1, cnN], fun w => by simp [part, i1, cnN], fun w => by rw [run_equalIn_int w 9997 3 .i64 .i64 _ _ Try.underlying3]; simp⟩ ⟨.int .i64 (c 6).1, .int .i64 (c 6).1, fun w => by simp [part, i1, cnN], fun w => by simp [part, i1, cnN], fun w => by rw [run_equalIn_int w 9997 3 .i64 .i64 _ _ Try.underlying3]; simp⟩ ⟨.int .i64 (c 7).1, .int .i64 (c 7).1, fun w => by simp [part, i1, cnN], fun w => by simp [part, i1, cnN], fun w => by rw [run_equalIn_int w 9997 3 .i64 .i64 _ _ Try.underlying3]; simp⟩ ⟨.int .i64 (c 8).1, .int .i64 (c 8).1, fun w => by simp [part, i1, cnN], fun w => by simp [part, i1, cnN], fun w => by rw [run_equalIn_int w 9997 3 .i64 .i64 _ _ Try.underlying3]; simp⟩)
    rw [show ((List.range 9).all fun _ => true) = true by decide] at this
    exact this
  have e2 : ∀ w, (Op.equalIn 9999 46 (.agg #[.bool (c 0).2, .bool (c 1).2, .bool (c 2).2, .bool (c 3).2, .bool (c 4).2, .bool (c 5).2, .bool (c 6).2, .bool (c 7).2, .bool (c 8).2]) (.agg #[.bool (c 0).2, .bool (c 1).2, .bool (c 2).2, .bool (c 3).2, .bool (c 4).2, .bool (c 5).2, .bool (c 6).2, .bool (c 7).2, .bool (c 8).2])).run Try.prog w = .ok true w := fun w => by
    have := run_equalIn_array w 9998 46 4 9 1 Try.underlying46 (fun w => by kernel_rfl) #[.bool (c 0).2, .bool (c 1).2, .bool (c 2).2, .bool (c 3).2, .bool (c 4).2, .bool (c 5).2, .bool (c 6).2, .bool (c 7).2, .bool (c 8).2] #[.bool (c 0).2, .bool (c 1).2, .bool (c 2).2, .bool (c 3).2, .bool (c 4).2, .bool (c 5).2, .bool (c 6).2, .bool (c 7).2, .bool (c 8).2] (fun _ => true) (lt9 (p := fun i => ∃ a b, (∀ w, (part 4 #[.bool (c 0).2, .bool (c 1).2, .bool (c 2).2, .bool (c 3).2, .bool (c 4).2, .bool (c 5).2, .bool (c 6).2, .bool (c 7).2, .bool (c 8).2] (i * 1)).run Try.prog w = .ok a w) ∧ (∀ w, (part 4 #[.bool (c 0).2, .bool (c 1).2, .bool (c 2).2, .bool (c 3).2, .bool (c 4).2, .bool (c 5).2, .bool (c 6).2, .bool (c 7).2, .bool (c 8).2] (i * 1)).run Try.prog w = .ok b w) ∧ ∀ w, (Op.equalIn 9998 4 a b).run Try.prog w = .ok true w) ⟨.bool (c 0).2, .bool (c 0).2, fun w => by simp [part, i2], fun w => by simp [part, i2], fun w => by rw [run_equalIn_bool' w 9997 4 _ _ Try.underlying4]; simp⟩ ⟨.bool (c 1).2, .bool (c 1).2, fun w => by simp [part, i2], fun w => by simp [part, i2], fun w => by rw [run_equalIn_bool' w 9997 4 _ _ Try.underlying4]; simp⟩ ⟨.bool (c 2).2, .bool (c 2).2, fun w => by simp [part, i2], fun w => by simp [part, i2], fun w => by rw [run_equalIn_bool' w 9997 4 _ _ Try.underlying4]; simp⟩ ⟨.bool (c 3).2, .bool (c 3).2, fun w => by simp [part, i2], fun w => by simp [part, i2], fun w => by rw [run_equalIn_bool' w 9997 4 _ _ Try.underlying4]; simp⟩ ⟨.bool (c 4).2, .bool (c 4).2, fun w => by simp [part, i2], fun w => by simp [part, i2], fun w => by rw [run_equalIn_bool' w 9997 4 _ _ Try.underlying4]; simp⟩ ⟨.bool (c 5).2, .bool (c 5).2, fun w => by simp [part, i2], fun w => by simp [part, i2], fun w => by rw [run_equalIn_bool' w 9997 4 _ _ Try.underlying4]; simp⟩ ⟨.bool (c 6).2, .bool (c 6).2, fun w => by simp [part, i2], fun w => by simp [part, i2], fun w => by rw [run_equalIn_bool' w 9997 4 _ _ Try.underlying4]; simp⟩ ⟨.bool (c 7).2, .bool (c 7).2, fun w => by simp [part, i2], fun w => by simp [part, i2], fun w => by rw [run_equalIn_bool' w 9997 4 _ _ Try.underlying4]; simp⟩ ⟨.bool (c 8).2, .bool (c 8).2, fun w => by simp [part, i2], fun w => by simp [part, i2], fun w => by rw [run_equalIn_bool' w 9997 4 _ _ Try.underlying4]; simp⟩)
    rw [show ((List.range 9).all fun _ => true) = true by decide] at this
    exact this
  simp only [List.foldr_cons, List.foldr_nil, Sem.run_bind, Sem.run_ite, p1, p2, e1, e2, Result.andThen_ok]
  simp
theorem equalN_list {l l' : List Value} {x : Cn} (h : l = cnL x) (h' : l' = cnL x) (w : World) : (Op.equalIn 10000 48 (.agg l.toArray) (.agg l'.toArray)).run Try.prog w = .ok true w := by
  subst h; subst h'; exact equalN_self x w
set_option maxHeartbeats 16000000 in
set_option maxRecDepth 100000 in
theorem law_of (nn a0 b0 c0 level r : Int) (w : World) (h0 : 0 ≤ nn ∧ nn ≤ 255) (ha : 0 ≤ a0 ∧ a0 ≤ 255) (hb : 0 ≤ b0 ∧ b0 ≤ 255) (hc : 0 ≤ c0 ∧ c0 ≤ 255) :
    Calls Try.prog 5 #[.agg #[.int .u8 nn, .int .u8 a0, .int .u8 b0, .int .u8 c0], .int .i64 level, .int .i64 r] w fun e w' => e = .returned (.bool true) ∧ Below w.heap.size w w' := by
  have hb0 := bAlloc (Below.refl w.heap.size w) (.cells #[.int .u8 nn, .int .u8 a0, .int .u8 b0, .int .u8 c0] 24)
  have hlv := fun W => levelsOf_any nn a0 b0 c0 W h0 ha hb hc
  go_enter Try.func5, Try.ntmps5
  go_upto_region 1 with fail
  go_cut [7] (fun v7 wx => ∃ A k cA, v7 = .slice A k cA ∧ (k : Int) = nn % 9 + 1 ∧ Sl wx 4 lvC A k (levelsP (gS a0 b0 c0) k) ∧ Below w.heap.size w wx)
  case first =>
    go_wp2_with (first | (go_at_call 7; refine (hlv _).mono ?_; rintro e w1 ⟨A, k, cA, rfl, hk, ho, hb1⟩; have hk' := Lib.hid hk; clear hk))
    go_meet
    case rel => exact ⟨_, _, _, rfl, hk'.out, ho.sl lvC_len, below_trans' hb0 hb0.size hb1⟩
  case rest =>
  obtain ⟨A, k, cA, rfl, hk, hs1, hb1⟩ := hcut
  have k0 : 0 < k := by omega
  have k9 : k ≤ 9 := by omega
  clear hk hb0 hlv
  have hr := levels_right (gS a0 b0 c0) k0 k9
  have hlo := levels_lvok (gS a0 b0 c0) (k := k)
  generalize levelsP (gS a0 b0 c0) k = ls at *
  have hof := of_any A k cA ls level r wc hs1
  go_upto_region 2 with fail
  go_cut [8, 9] (fun v8 v9 wx => ∃ p8, v8 = .pointer (some ⟨p8, 0, none⟩) ∧ v9 = .int .i64 (ofE ls k level r) ∧ Blk wx p8 33 (effA (ofF ls k level r)) ∧ Sl wx 4 lvC A k ls ∧ Below w.heap.size w wx)
  case first =>
    go_wp2_with (first | (go_at_call 13; refine hof.mono ?_; rintro e w2 ⟨rfl, hb3⟩; have N2 := Blk.new w2 33 (effA effZ); have hA2 := bAlloc hb3 (.cells (effA effZ) 33); unfold Blk at N2) | (refine wpList_store_row rfl 33 _ _ rfl w2.heap.size _ rfl rfl 33 _ N2 (by kernel_rfl) rfl (effA_one _) ?_))
    go_meet
    case rel =>
      have hA3 := below_setRow hA2 hb3.size (effA (ofF ls k level r))
      exact ⟨_, rfl, rfl, setRow_heap _ _ _ _ _ _ N2, hs1.below hA3, below_trans' hb1 hb1.size hA3⟩
  case rest =>
  obtain ⟨p8, rfl, rfl, B8, hs3, hb3⟩ := hcut
  clear hof hs1 hb1
  have HE : ofE ls k level r = mkE k level r := by unfold ofE; rw [if_neg (by rw [hr]; simp)]
  have HM : mkE k level r = if level < 1 ∨ (k : Int) < level then 2 else if r < 0 ∨ 32767 < r then 5 else 0 := rfl
  have HF : ofF ls k level r = if ofE ls k level r = 0 then effF ls k (level - 1).toNat r else effZ := rfl
  by_cases h1 : level < 1 ∨ (k : Int) < level
  · have e2 : ofE ls k level r = 2 := by rw [HE, HM, if_pos h1]
    have f2 : ofF ls k level r = effZ := by rw [HF, if_neg (by rw [e2]; omega)]
    rw [f2] at B8
    rw [e2]
    clear HE HM HF e2 f2
    rcases h1 with h1 | h1
    all_goals
      (try have h1' : ¬ level < 1 := by omega)
      have heq : ∀ w, (Op.equalIn 10000 33 (.agg (effL effZ).toArray) (.agg (List.toArray (.bool false :: .bool false :: .int .i64 0 :: .int .i64 0 :: .bool false :: .bool false :: .int .i64 0 :: .int .i64 0 :: .bool false :: .bool false :: .int .i64 0 :: .int .i64 0 :: .bool false :: .bool false :: .int .i64 0 :: .int .i64 0 :: .bool false :: .bool false :: .int .i64 0 :: .int .i64 0 :: .bool false :: .bool false :: .int .i64 0 :: .int .i64 0 :: .bool false :: .bool false :: .int .i64 0 :: .int .i64 0 :: .bool false :: .bool false :: .int .i64 0 :: .int .i64 0 :: .bool false :: .bool false :: .int .i64 0 :: .int .i64 0 :: [])))).run Try.prog w = .ok true w := equalE_self effZ
      have heq2 : ∀ w, (Op.equalIn 10000 33 (.agg (List.toArray (.bool false :: .bool false :: .int .i64 0 :: .int .i64 0 :: .bool false :: .bool false :: .int .i64 0 :: .int .i64 0 :: .bool false :: .bool false :: .int .i64 0 :: .int .i64 0 :: .bool false :: .bool false :: .int .i64 0 :: .int .i64 0 :: .bool false :: .bool false :: .int .i64 0 :: .int .i64 0 :: .bool false :: .bool false :: .int .i64 0 :: .int .i64 0 :: .bool false :: .bool false :: .int .i64 0 :: .int .i64 0 :: .bool false :: .bool false :: .int .i64 0 :: .int .i64 0 :: .bool false :: .bool false :: .int .i64 0 :: .int .i64 0 :: []))) (.agg (List.toArray (.bool false :: .bool false :: .int .i64 0 :: .int .i64 0 :: .bool false :: .bool false :: .int .i64 0 :: .int .i64 0 :: .bool false :: .bool false :: .int .i64 0 :: .int .i64 0 :: .bool false :: .bool false :: .int .i64 0 :: .int .i64 0 :: .bool false :: .bool false :: .int .i64 0 :: .int .i64 0 :: .bool false :: .bool false :: .int .i64 0 :: .int .i64 0 :: .bool false :: .bool false :: .int .i64 0 :: .int .i64 0 :: .bool false :: .bool false :: .int .i64 0 :: .int .i64 0 :: .bool false :: .bool false :: .int .i64 0 :: .int .i64 0 :: [])))).run Try.prog w = .ok true w := equalE_self effZ
      have hgd : Try.prog.eqGuardType Try.prog.depth 33 = false := by kernel_rfl
      go_wp2_with (first | (go_at_call 10; refine (known_any _).mono ?_; rintro e w4 ⟨rfl, hb4⟩; have T9 := (Blk.below (w := wc) B8 hb4).range_ rfl) | (refine wpList_load_g (by rfl) 33 _ rfl p8 0 rfl (effL effZ) _ T9 Try.underlying33 rfl size33 ?_))
      go_ret
      exact ⟨rfl, below_trans' hb3 hb3.size hb4⟩
  have h1a : ¬ level < 1 := by omega
  have h1b : ¬ (k : Int) < level := by omega
  by_cases h2 : r < 0 ∨ 32767 < r
  · have e2 : ofE ls k level r = 5 := by rw [HE, HM, if_neg h1, if_pos h2]
    have f2 : ofF ls k level r = effZ := by rw [HF, if_neg (by rw [e2]; omega)]
    rw [f2] at B8
    rw [e2]
    clear HE HM HF e2 f2 h1
    rcases h2 with h2 | h2
    all_goals
      (try have h2' : ¬ r < 0 := by omega)
      have heq : ∀ w, (Op.equalIn 10000 33 (.agg (effL effZ).toArray) (.agg (List.toArray (.bool false :: .bool false :: .int .i64 0 :: .int .i64 0 :: .bool false :: .bool false :: .int .i64 0 :: .int .i64 0 :: .bool false :: .bool false :: .int .i64 0 :: .int .i64 0 :: .bool false :: .bool false :: .int .i64 0 :: .int .i64 0 :: .bool false :: .bool false :: .int .i64 0 :: .int .i64 0 :: .bool false :: .bool false :: .int .i64 0 :: .int .i64 0 :: .bool false :: .bool false :: .int .i64 0 :: .int .i64 0 :: .bool false :: .bool false :: .int .i64 0 :: .int .i64 0 :: .bool false :: .bool false :: .int .i64 0 :: .int .i64 0 :: [])))).run Try.prog w = .ok true w := equalE_self effZ
      have heq2 : ∀ w, (Op.equalIn 10000 33 (.agg (List.toArray (.bool false :: .bool false :: .int .i64 0 :: .int .i64 0 :: .bool false :: .bool false :: .int .i64 0 :: .int .i64 0 :: .bool false :: .bool false :: .int .i64 0 :: .int .i64 0 :: .bool false :: .bool false :: .int .i64 0 :: .int .i64 0 :: .bool false :: .bool false :: .int .i64 0 :: .int .i64 0 :: .bool false :: .bool false :: .int .i64 0 :: .int .i64 0 :: .bool false :: .bool false :: .int .i64 0 :: .int .i64 0 :: .bool false :: .bool false :: .int .i64 0 :: .int .i64 0 :: .bool false :: .bool false :: .int .i64 0 :: .int .i64 0 :: []))) (.agg (List.toArray (.bool false :: .bool false :: .int .i64 0 :: .int .i64 0 :: .bool false :: .bool false :: .int .i64 0 :: .int .i64 0 :: .bool false :: .bool false :: .int .i64 0 :: .int .i64 0 :: .bool false :: .bool false :: .int .i64 0 :: .int .i64 0 :: .bool false :: .bool false :: .int .i64 0 :: .int .i64 0 :: .bool false :: .bool false :: .int .i64 0 :: .int .i64 0 :: .bool false :: .bool false :: .int .i64 0 :: .int .i64 0 :: .bool false :: .bool false :: .int .i64 0 :: .int .i64 0 :: .bool false :: .bool false :: .int .i64 0 :: .int .i64 0 :: [])))).run Try.prog w = .ok true w := equalE_self effZ
      have hgd : Try.prog.eqGuardType Try.prog.depth 33 = false := by kernel_rfl
      go_wp2_with (first | (go_at_call 10; refine (known_any _).mono ?_; rintro e w4 ⟨rfl, hb4⟩; have T9 := (Blk.below (w := wc) B8 hb4).range_ rfl) | (refine wpList_load_g (by rfl) 33 _ rfl p8 0 rfl (effL effZ) _ T9 Try.underlying33 rfl size33 ?_))
      go_ret
      exact ⟨rfl, below_trans' hb3 hb3.size hb4⟩
  have h2a : ¬ r < 0 := by omega
  have h2b : ¬ 32767 < r := by omega
  obtain ⟨L, rfl⟩ : ∃ L : Nat, level = (L : Int) + 1 := ⟨(level - 1).toNat, by omega⟩
  have e2 : ofE ls k ((L : Int) + 1) r = 0 := by rw [HE, HM, if_neg h1, if_neg h2]
  have f2 : ofF ls k ((L : Int) + 1) r = effF ls k L r := by rw [HF, if_pos e2, show ((L : Int) + 1 - 1).toNat = L by omega]
  rw [f2] at B8
  rw [e2]
  have hL : L < k := by omega
  have nx := nx_ok (ls := ls) (n := k) (L := L) (r := r) (c := cnZ) (K := 0) hr hL (by omega) (by omega) (cnZ_ok (by omega)) (by omega)
  have hnx := fun W h => next_any A k cA ls cnZ ((L : Int) + 1) r W h
  rw [nx.1, nx.2] at hnx
  have hapn := apply_next ls k cnZ L r hL (by omega)
  have hefo := effF_ok ls k L (r := r) (by omega) (by omega)
  have hapo := fun W h => apply_any A k cA ls (effF ls k L r) cnZ 1 0 W h k9 hlo hefo (cnZ_ok (by omega)) (by omega) (by omega)
  have hefe := fun W h => effectOf_any A k cA ls L r W h k9 hL (by omega)
  rw [hapn] at hapo
  clear HE HM HF e2 f2 h1 h2 nx hapn hefo
  generalize effF ls k L r = X at *
  generalize nextC ls k cnZ L r = c at *
  go_upto_region 9 with (first | (go_at_call 10; refine (known_any _).mono ?_; rintro e wc ⟨rfl, hb4⟩))
  have B8' := B8.below hb4
  have hs4 := hs3.below hb4
  have hb5 := below_trans' hb3 hb3.size hb4
  clear B8 hs3 hb3 hb4
  go_cut [10, 11] (fun v10 v11 wx => ∃ p10, v10 = .pointer (some ⟨p10, 0, none⟩) ∧ v11 = .int .i64 0 ∧ Blk wx p10 48 (cnA c) ∧ Blk wx p8 33 (effA X) ∧ Sl wx 4 lvC A k ls ∧ Below w.heap.size w wx)
  case first =>
    go_wp2_with (first | (go_at_call 14; refine (hnx _ hs4).mono ?_; rintro e w2 ⟨rfl, hb6⟩; have N2 := Blk.new w2 48 (cnA cnZ); have hA2 := bAlloc hb6 (.cells (cnA cnZ) 48); unfold Blk at N2) | (refine wpList_store_row rfl 48 _ _ rfl w2.heap.size _ rfl rfl 48 _ N2 (by kernel_rfl) rfl (cnA_one _) ?_))
    go_meet
    case rel =>
      have hA3 := below_setRow hA2 hb6.size (cnA c)
      exact ⟨_, rfl, rfl, setRow_heap _ _ _ _ _ _ N2, B8'.below hA3, hs4.below hA3, below_trans' hb5 hb5.size hA3⟩
  case rest =>
  obtain ⟨p10, rfl, rfl, B10, B8, hs3, hb4⟩ := hcut
  clear B8' hs4 hb5 hnx
  obtain ⟨lx, hlx⟩ : ∃ l, l = effL X := ⟨_, rfl⟩
  obtain ⟨lc, hlc⟩ : ∃ l, l = cnL c := ⟨_, rfl⟩
  have g_lx := B8.range_ hlx
  have g_lc := B10.rangeN hlc
  have i_lx : (Try.prog.info? 33).map (·.size) = some lx.length := by rw [hlx]; exact size33
  have i_lc : (Try.prog.info? 48).map (·.size) = some lc.length := by rw [hlc]; exact size48
  have hef := at_below (fun W (hW : Below wc.heap.size wc W) => hefe W (hs3.below hW))
  have hap := at_below (fun W (hW : Below wc.heap.size wc W) => hapo W (hs3.below hW))
  rw [effA_L, ← hlx] at hef
  rw [effA_L, ← hlx, cnA_L c, ← hlc] at hap
  have qqx := equalE_list hlx hlx
  have qqc := equalN_list hlc hlc
  have hgd : Try.prog.eqGuardType Try.prog.depth 33 = false := by kernel_rfl
  have hgc : Try.prog.eqGuardType Try.prog.depth 48 = false := by kernel_rfl
  clear hlx hlc hefe hapo B8 B10 hlo hr
  go_upto_region 10 with fail
  refine wp_region_held_drew (S := fun w' => w'.rangeAt p8 0 lx ∧ w'.rangeAt p10 0 lc) (by kernel_rfl) (keepR2 g_lx g_lc (by repeat (first | assumption | exact Below.refl _ _ | refine bDrew ?_ | refine below_drewN ?_ _ | refine bAlloc ?_ _ | refine bSetC ?_ (by assumption) _))) (fun hHeld => ?_)
  refine hx_take 0 (some 64) _ rfl (by kernel_rfl) (by kernel_rfl) (by kernel_rfl) (fun _ _ _ h => h) rfl (Or.inl ⟨by rfl, fun w hSw => by first | (go_simp; done) | (go_simp; with_reducible rfl)⟩) (by assumption) ?_
  try simp only [Act.put, List.setIfInBounds_toArray, List.set_cons_zero, List.set_cons_succ]
  refine hx_take 1 (some 65) _ rfl (by kernel_rfl) (by kernel_rfl) (by kernel_rfl) (fun _ _ _ h => h) rfl (Or.inl ⟨by rfl, fun w hSw => by first | (go_simp; done) | (go_simp; with_reducible rfl)⟩) (by assumption) ?_
  try simp only [Act.put, List.setIfInBounds_toArray, List.set_cons_zero, List.set_cons_succ]
  refine hx_take 2 (some 66) _ rfl (by kernel_rfl) (by kernel_rfl) (by kernel_rfl) (fun _ _ _ h => h) rfl (Or.inl ⟨by rfl, fun w hSw => by first | (go_simp; done) | (go_simp; with_reducible rfl)⟩) (by assumption) ?_
  try simp only [Act.put, List.setIfInBounds_toArray, List.set_cons_zero, List.set_cons_succ]
  refine hx_take 3 (some 67) (.agg lx.toArray) rfl (by kernel_rfl) (by kernel_rfl) (by kernel_rfl) (fun _ _ _ h => h) rfl (yieldsIf_load_mid (by rfl) _ _ rfl p8 0 rfl lx _ (fun w hSw => hSw.1) Try.underlying33 rfl (by assumption)) (by assumption) ?_
  try simp only [Act.put, List.setIfInBounds_toArray, List.set_cons_zero, List.set_cons_succ]
  refine hx_take 4 (some 68) _ rfl (by kernel_rfl) (by kernel_rfl) (by kernel_rfl) (fun _ _ _ h => h) rfl (Or.inl ⟨by rfl, fun w hSw => by first | (go_simp; done) | (go_simp; with_reducible rfl)⟩) (by assumption) ?_
  try simp only [Act.put, List.setIfInBounds_toArray, List.set_cons_zero, List.set_cons_succ]
  refine hx_take 5 (some 69) _ rfl (by kernel_rfl) (by kernel_rfl) (by kernel_rfl) (fun _ _ _ h => h) rfl (Or.inl ⟨by rfl, fun w hSw => by first | (go_simp; done) | (go_simp; with_reducible rfl)⟩) (by assumption) ?_
  try simp only [Act.put, List.setIfInBounds_toArray, List.set_cons_zero, List.set_cons_succ]
  refine hx_take 6 (some 70) _ rfl (by kernel_rfl) (by kernel_rfl) (by kernel_rfl) (fun _ _ _ h => h) rfl (Or.inl ⟨by rfl, fun w hSw => by first | (go_simp; done) | (go_simp; with_reducible rfl)⟩) (by assumption) ?_
  try simp only [Act.put, List.setIfInBounds_toArray, List.set_cons_zero, List.set_cons_succ]
  refine hx1 7 (by kernel_rfl) ?_
  refine hx_call 7 (some 71) _ _ _ _ rfl (by rfl) rfl (by go_simp) (hef (wc.drew) (by repeat (first | assumption | exact Below.refl _ _ | refine bDrew ?_ | refine below_drewN ?_ _ | refine bAlloc ?_ _ | refine bSetC ?_ (by assumption) _))) ?_
  rintro w9 ⟨bw9, Bw9⟩
  have Hw9 := keepR2 g_lx g_lc Bw9
  refine ⟨Hw9, ?_⟩
  try simp only [Act.put, List.setIfInBounds_toArray, List.set_cons_zero, List.set_cons_succ]
  refine hx_take 8 (some 72) _ rfl (by kernel_rfl) (by kernel_rfl) (by kernel_rfl) (fun _ _ _ h => h) rfl (Or.inl ⟨by rfl, fun w hSw => by first | (go_simp; done) | (go_simp; with_reducible rfl)⟩) (by assumption) ?_
  try simp only [Act.put, List.setIfInBounds_toArray, List.set_cons_zero, List.set_cons_succ]
  refine hx_take 9 (some 73) _ rfl (by kernel_rfl) (by kernel_rfl) (by kernel_rfl) (fun _ _ _ h => h) rfl (Or.inl ⟨by rfl, fun w hSw => by first | (go_simp; done) | (go_simp; with_reducible rfl)⟩) (by assumption) ?_
  try simp only [Act.put, List.setIfInBounds_toArray, List.set_cons_zero, List.set_cons_succ]
  refine hx_take 10 (some 74) _ rfl (by kernel_rfl) (by kernel_rfl) (by kernel_rfl) (fun _ _ _ h => h) rfl (Or.inl ⟨by rfl, fun w hSw => by first | (go_simp; done) | (go_simp; with_reducible rfl)⟩) (by assumption) ?_
  try simp only [Act.put, List.setIfInBounds_toArray, List.set_cons_zero, List.set_cons_succ]
  refine hx_take 11 (some 75) _ rfl (by kernel_rfl) (by kernel_rfl) (by kernel_rfl) (fun _ _ _ h => h) rfl (Or.inl ⟨by rfl, fun w hSw => by first | (go_simp; done) | (go_simp; with_reducible rfl)⟩) (by assumption) ?_
  try simp only [Act.put, List.setIfInBounds_toArray, List.set_cons_zero, List.set_cons_succ]
  refine hx_take 12 (some 76) _ rfl (by kernel_rfl) (by kernel_rfl) (by kernel_rfl) (fun _ _ _ h => h) rfl (Or.inl ⟨by rfl, fun w hSw => by first | (go_simp; done) | (go_simp; with_reducible rfl)⟩) (by assumption) ?_
  try simp only [Act.put, List.setIfInBounds_toArray, List.set_cons_zero, List.set_cons_succ]
  refine hx_take 13 (some 77) _ rfl (by kernel_rfl) (by kernel_rfl) (by kernel_rfl) (fun _ _ _ h => h) rfl (Or.inl ⟨by rfl, fun w hSw => by first | (go_simp; done) | (go_simp; with_reducible rfl)⟩) (by assumption) ?_
  try simp only [Act.put, List.setIfInBounds_toArray, List.set_cons_zero, List.set_cons_succ]
  refine hx_take 14 (some 78) _ rfl (by kernel_rfl) (by kernel_rfl) (by kernel_rfl) (fun _ _ _ h => h) rfl (Or.inl ⟨by rfl, fun w hSw => by first | (go_simp; done) | (go_simp; with_reducible rfl)⟩) (by assumption) ?_
  try simp only [Act.put, List.setIfInBounds_toArray, List.set_cons_zero, List.set_cons_succ]
  refine hx_take 15 (some 79) _ rfl (by kernel_rfl) (by kernel_rfl) (by kernel_rfl) (fun _ _ _ h => h) rfl (Or.inl ⟨by rfl, fun w hSw => by first | (go_simp; done) | (go_simp; with_reducible rfl)⟩) (by assumption) ?_
  try simp only [Act.put, List.setIfInBounds_toArray, List.set_cons_zero, List.set_cons_succ]
  refine hx_take 16 (some 80) (.agg lx.toArray) rfl (by kernel_rfl) (by kernel_rfl) (by kernel_rfl) (fun _ _ _ h => h) rfl (yieldsIf_load_mid (by rfl) _ _ rfl p8 0 rfl lx _ (fun w hSw => hSw.1) Try.underlying33 rfl (by assumption)) (by assumption) ?_
  try simp only [Act.put, List.setIfInBounds_toArray, List.set_cons_zero, List.set_cons_succ]
  refine hx_take 17 (some 81) (.agg (cnA cnZ)) rfl (by kernel_rfl) (by kernel_rfl) (by kernel_rfl) (fun _ _ _ h => h) rfl (Or.inl ⟨by rfl, fun w hSw => by go_simp; rfl⟩) (by assumption) ?_
  try simp only [Act.put, List.setIfInBounds_toArray, List.set_cons_zero, List.set_cons_succ]
  refine hx_take 19 (some 83) (.agg lc.toArray) rfl (by kernel_rfl) (by kernel_rfl) (by kernel_rfl) (fun _ _ _ h => h) rfl (yieldsIf_load_mid (by rfl) _ _ rfl p10 0 rfl lc _ (fun w hSw => hSw.2) Try.underlying48 rfl (by assumption)) (by assumption) ?_
  try simp only [Act.put, List.setIfInBounds_toArray, List.set_cons_zero, List.set_cons_succ]
  refine hx1 18 (by kernel_rfl) ?_
  refine hx_call 18 (some 82) _ _ _ _ rfl (by rfl) rfl (by go_simp) (hap (w9) (by repeat (first | assumption | exact Below.refl _ _ | refine bDrew ?_ | refine below_drewN ?_ _ | refine bAlloc ?_ _ | refine bSetC ?_ (by assumption) _))) ?_
  rintro w10 ⟨bw10, Bw10⟩
  have Hw10 := keepR2 g_lx g_lc Bw10
  refine ⟨Hw10, ?_⟩
  try simp only [Act.put, List.setIfInBounds_toArray, List.set_cons_zero, List.set_cons_succ]
  refine hx_take 20 (some 84) _ rfl (by kernel_rfl) (by kernel_rfl) (by kernel_rfl) (fun _ _ _ h => h) rfl (Or.inl ⟨by rfl, fun w hSw => by first | (go_simp; done) | (go_simp; with_reducible rfl)⟩) (by assumption) ?_
  try simp only [Act.put, List.setIfInBounds_toArray, List.set_cons_zero, List.set_cons_succ]
  refine hx_take 21 (some 85) _ rfl (by kernel_rfl) (by kernel_rfl) (by kernel_rfl) (fun _ _ _ h => h) rfl (Or.inl ⟨by rfl, fun w hSw => by first | (go_simp; done) | (go_simp; with_reducible rfl)⟩) (by assumption) ?_
  try simp only [Act.put, List.setIfInBounds_toArray, List.set_cons_zero, List.set_cons_succ]
  refine hx_take 22 (some 6) _ rfl (by kernel_rfl) (by kernel_rfl) (by kernel_rfl) (fun _ _ _ h => h) rfl (Or.inl ⟨by rfl, fun w hSw => by first | (go_simp; done) | (go_simp; with_reducible rfl)⟩) (by assumption) ?_
  try simp only [Act.put, List.setIfInBounds_toArray, List.set_cons_zero, List.set_cons_succ]
  refine wpAnyH_done (by kernel_rfl) ?_ _
  go_wp2_with fail
  go_ret
  exact ⟨rfl, below_trans' hb4 hb4.size Bw10⟩
end Go.Proofs.Ytjpbmeonkfkgdaa
