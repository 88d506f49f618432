/- contents of the model. -/
import Derived.Test.YtbeollddmglkcaaA7
namespace Go.Proofs.Ytbeollddmglkcaa
open Go.RowKit

theorem lvs_append {K : List Hd} {h : Hd} {j : Nat} (hj : j < K.length) : lvs (K ++ [h]) j = lvs K j := by unfold lvs; rw [List.getElem?_append_left hj]
theorem gH_append {K : List Hd} {h : Hd} {j : Nat} (hj : j < K.length) : gH (K ++ [h]) j = gH K j := by
  unfold gH; rw [List.getD_eq_getElem?_getD, List.getD_eq_getElem?_getD, List.getElem?_append_left hj]
def dep (K : List Hd) (i : Nat) : Int := (entry K i).depth
theorem dep_eq (K : List Hd) (i : Nat) : dep K i = (pathOf (lvs K) i).length := rfl
theorem entries_snoc (K : List Hd) (h : Hd) : entries (K ++ [h]) = entries K ++ [⟨h, depTo (lvs K) (dep K) h.level K.length⟩] := by
  unfold entries
  rw [List.length_append, List.length_singleton, List.range_succ, List.map_append]
  congr 1
  · refine List.map_congr_left fun i hi => ?_
    have hi := List.mem_range.1 hi
    unfold entry
    rw [gH_append hi, pathOf_congr (fun j hj => lvs_append (by omega))]
  · have e1 : gH (K ++ [h]) K.length = h := by unfold gH; rw [List.getD_eq_getElem?_getD, List.getElem?_append_right (Nat.le_refl _)]; simp
    have e2 : lvs (K ++ [h]) K.length = h.level := by unfold lvs; rw [List.getElem?_append_right (Nat.le_refl _)]; simp
    have e3 : par (lvs (K ++ [h])) K.length = down (lvs K) h.level K.length := by
      unfold par; rw [e2]; exact down_congr _ _ (fun j hj => lvs_append hj)
    have hd := down_lt (lvs K) h.level K.length
    simp only [List.map_cons, List.map_nil, List.cons.injEq, and_true]
    unfold entry
    rw [e1, pathOf_eq, e3, depTo_eq]
    by_cases hn : down (lvs K) h.level K.length < 0
    · rw [if_pos hn, if_pos hn]; rfl
    · rw [if_neg hn, if_neg hn, dep_eq, pathOf_congr (fun j hj => lvs_append (h := h) (K := K) (by omega))]; simp
theorem dep_le (K : List Hd) (i : Nat) : 0 ≤ dep K i ∧ dep K i ≤ i + 1 := by rw [dep_eq]; have := pathOf_len (lvs K) i; omega
theorem depTo_le (K : List Hd) (x : Int) : ∀ j : Nat, 1 ≤ depTo (lvs K) (dep K) x j ∧ depTo (lvs K) (dep K) x j ≤ j + 1
  | 0 => by simp [depTo]
  | j + 1 => by
    unfold depTo
    have := dep_le K j
    have := depTo_le K x j
    split <;> omega

set_option maxHeartbeats 1000000 in
theorem mcontents_any (A : Option Addr) (n c : Nat) (hs : List Hd) (a b : Int) (w : World) (ha : Sl w 5 hdC A n hs) (hn : n ≤ 65536) :
    Calls Try.prog 14 #[.slice A n c, .int .i64 a, .int .i64 b] w fun e w' => ∃ A' c', e = .returned (.slice A' (hs.filter (keptB a b)).length c') ∧
      Own w' w.heap.size 39 6 enC A' (hs.filter (keptB a b)).length c' (entries (hs.filter (keptB a b))) ∧ Below w.heap.size w w' := by
  go_enter Try.func14, Try.ntmps14
  go_wp2_with fail
  go_loopw [7, 8] (fun vo vi wr => ∃ (k : Nat) (A1 : Option Addr) (c1 : Nat), k ≤ n ∧ vi = .int .i64 k ∧ vo = .slice A1 ((hs.take k).filter (keptB a b)).length c1 ∧ Own wr w.heap.size 39 6 enC A1 ((hs.take k).filter (keptB a b)).length c1 (entries ((hs.take k).filter (keptB a b))) ∧ Below w.heap.size w wr) (fun _ i _ => n - (intOf i).toNat)
  case atStart => exact ⟨0, none, 0, Nat.zero_le _, rfl, rfl, Own.nil_ _ _ _ _ _, Below.refl _ _⟩
  case round =>
    obtain ⟨k, A1, c1, hk, rfl, rfl, ho, hbw⟩ := hrel
    have hlen := ha.len
    by_cases hlt : k < n
    · obtain ⟨ad, rfl, hl, q0, q1, q2, q3, q4⟩ := (ha.below hbw).hdk hlt
      have hfl := filt_len hs k (keptB a b)
      have hsn := filt_snoc (p := keptB a b) (show k < hs.length by omega)
      clear hlen
      by_cases hp : a ≤ (gH hs k).level ∧ (gH hs k).level ≤ b
      · have hkp : keptB a b (gH hs k) = true := by unfold keptB; rw [decide_eq_true hp.1, decide_eq_true hp.2]; rfl
        rw [if_pos hkp] at hsn
        have HS := Lib.hid hsn
        obtain ⟨hp1, hp2⟩ := hp
        clear hsn hkp
        obtain ⟨K, hK⟩ : ∃ K, K = (hs.take k).filter (keptB a b) := ⟨_, rfl⟩
        rw [← hK] at ho hfl
        have HK := Lib.hid hK
        rw [← hK]
        clear hK
        obtain ⟨m, hm⟩ : ∃ m, m = K.length := ⟨_, rfl⟩
        rw [← hm] at ho hfl
        rw [← hm]
        have HM := Lib.hid hm
        clear hm
        obtain ⟨x, hx⟩ : ∃ x, x = gH hs k := ⟨_, rfl⟩
        rw [← hx] at q0 q1 q2 q3 q4 hp1 hp2
        have HXX := Lib.hid hx
        clear hx
        go_wp2_with fail
        obtain ⟨wo, rfl⟩ : ∃ wo : World, wo = wr := ⟨_, rfl⟩
        have hB1 := Blk.new wo 39 #[.int .i64 x.flow, .int .i64 x.pos, .int .i64 x.level, .string x.label, .string x.title, .int .i64 1]
        have ho1 := ho.alloc (.cells #[.int .i64 x.flow, .int .i64 x.pos, .int .i64 x.level, .string x.label, .string x.title, .int .i64 1] 39)
        have hl1 : Below w.heap.size w (wo.alloc (.cells #[.int .i64 x.flow, .int .i64 x.pos, .int .i64 x.level, .string x.label, .string x.title, .int .i64 1] 39)) := hbw.alloc hbw.size _
        have hz1 : wo.heap.size < (wo.alloc (.cells #[.int .i64 x.flow, .int .i64 x.pos, .int .i64 x.level, .string x.label, .string x.title, .int .i64 1] 39)).heap.size := by simp
        have hne : blk A1 ≠ some wo.heap.size := fun e => by have := (ho.lt _ e).2; omega
        have hbo := hbw.size
        generalize wo.alloc (.cells #[.int .i64 x.flow, .int .i64 x.pos, .int .i64 x.level, .string x.label, .string x.title, .int .i64 1] 39) = W1 at *
        have HN := Lib.hid hne
        clear hne q0 q1 q2 q3 q4 hl ho
        go_loopw [10] (fun vj wi => ∃ j : Nat, j ≤ m ∧ vj = .int .i64 j ∧ Blk wi wo.heap.size 39 #[.int .i64 x.flow, .int .i64 x.pos, .int .i64 x.level, .string x.label, .string x.title, .int .i64 (depTo (lvs K) (dep K) x.level j)] ∧
           W1.grownBy wi (some wo.heap.size)) (fun j _ => m - (intOf j).toNat)
        case atStart => exact ⟨0, Nat.zero_le _, rfl, hB1, World.grownBy.refl _ _⟩
        case round =>
          obtain ⟨j, hj, rfl, hBi, hgi⟩ := hrel
          have hoi := ho1.keep hgi (fun k e => by injection e with e; subst e; exact HN.out)
          have hbi := hl1.grown hgi hl1.size (fun k e => by injection e with e; omega)
          have hdl := depTo_le K x.level j
          have d5 := hBi.cell 5 rfl
          have fz := hBi.frozen 5
          by_cases hlj : j < m
          · obtain ⟨g2, y, rfl, hg2, _, hy, hcy⟩ := hoi.field enC_len (k := j) (by omega)
            have hye : y = entry K j := by
              unfold entries at hy
              rw [List.getElem?_map, List.getElem?_range (by have := HM.out; omega)] at hy
              injection hy with hy; exact hy.symm
            subst hye
            have q5 := hcy 5 _ rfl
            have q2 := hcy 2 _ rfl
            have hdj := dep_le K j
            have e5 : (entry K j).depth = dep K j := rfl
            have e2 : (entry K j).h.level = lvs K j := (lvs_gH (by have := HM.out; omega)).symm
            rw [e5] at q5
            rw [e2] at q2
            clear e5 e2 hy hcy
            obtain ⟨_, e, _, _, _, r2, _, _⟩ := (ha.below hbi).hdk hlt
            cases e
            rw [← HXX.out] at r2
            by_cases hc : lvs K j < x.level
            · have HD : Hid (depTo (lvs K) (dep K) x.level (j + 1) = dep K j + 1) := by show depTo _ _ _ _ = _; rw [depTo, if_pos hc]
              go_wp2_with fail
              go_quiet (fail)
              go_wp2_with fail
              go_roundw
              case rel => exact ⟨j + 1, by omega, by go_num, by rw [HD.out]; exact (hBi.drewN _).set_ 5 _, only_set (only_drewN hgi _) 5 _⟩
              case measure => simp [intOf]; omega
            · have HD : Hid (depTo (lvs K) (dep K) x.level (j + 1) = depTo (lvs K) (dep K) x.level j) := by show depTo _ _ _ _ = _; rw [depTo, if_neg hc]
              go_wp2_with fail
              go_quiet (fail)
              go_wp2_with fail
              go_roundw
              case rel => exact ⟨j + 1, by omega, by go_num, by rw [HD.out]; exact hBi.drewN _, only_drewN hgi _⟩
              case measure => simp [intOf]; omega
          · have : j = m := by omega
            subst this
            have d0 := hBi.cell 0 rfl
            have d1 := hBi.cell 1 rfl
            have d2 := hBi.cell 2 rfl
            have d3 := hBi.cell 3 rfl
            have d4 := hBi.cell 4 rfl
            go_wp2_with (at_builtin; refine wpList_push elemE rfl (.tmp 63) (.tmp 65) rfl rfl _ rfl (hoi.alloc _) ⟨x, depTo (lvs K) (dep K) x.level j⟩ _ rfl rfl (enC_one _) rfl (by unfold maxLen; omega) (Nat.le_trans hbi.size (by simp)) ?_; intro A3 c3 w3 ho3 hg3 ha3)
            go_roundw
            case rel =>
              have hl : j + 1 = ((hs.take (k + 1)).filter (keptB a b)).length := by rw [HS.out, ← HK.out]; simp [← HM.out]
              refine ⟨k + 1, A3, c3, by omega, by go_num, by rw [hl], ?_, (hbi.alloc hbi.size _).grown hg3 (Nat.le_trans hbi.size (by simp)) (fun g hg => (hoi.lt g hg).1)⟩
              rw [← hl, HS.out, ← HK.out, entries_snoc, ← HXX.out, ← HM.out]; exact ho3
            case measure => simp [intOf]; omega
      · have hkp : keptB a b (gH hs k) = false := by
          unfold keptB
          by_cases hq : a ≤ (gH hs k).level
          · rw [decide_eq_true hq, decide_eq_false (fun h => hp ⟨hq, h⟩)]; rfl
          · rw [decide_eq_false hq]; rfl
        rw [if_neg (by rw [hkp]; exact Bool.false_ne_true), List.append_nil] at hsn
        have HS := Lib.hid hsn
        clear hsn hkp
        by_cases hq : a ≤ (gH hs k).level
        · have hq2 : b < (gH hs k).level := by
            by_cases h : (gH hs k).level ≤ b
            · exact absurd ⟨hq, h⟩ hp
            · omega
          clear hp
          go_wp2_with fail
          go_roundw
          case rel => exact ⟨k + 1, A1, c1, by omega, by go_num, by rw [HS.out], by rw [HS.out]; exact ho, hbw⟩
          case measure => simp [intOf]; omega
        · have hq2 : (gH hs k).level < a := by omega
          clear hp hq
          go_wp2_with fail
          go_roundw
          case rel => exact ⟨k + 1, A1, c1, by omega, by go_num, by rw [HS.out], by rw [HS.out]; exact ho, hbw⟩
          case measure => simp [intOf]; omega
    · have : k = n := by omega
      subst this
      rw [List.take_of_length_le (by omega)] at ho
      rw [List.take_of_length_le (by omega)]
      go_wp2_with fail
      go_ret
      exact ⟨A1, c1, rfl, ho, hbw⟩
end Go.Proofs.Ytbeollddmglkcaa
