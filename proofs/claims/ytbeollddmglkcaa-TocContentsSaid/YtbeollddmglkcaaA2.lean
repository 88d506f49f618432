/- toc.Parents. -/
import Derived.Test.YtbeollddmglkcaaA0
namespace Go.Proofs.Ytbeollddmglkcaa
open Go.RowKit

set_option maxHeartbeats 400000 in
theorem parents_any (A : Option Addr) (n c : Nat) (hs : List Hd) (w : World) (ha : Sl w 5 hdC A n hs) (hn : n ≤ 65536) :
    Calls Try.prog 15 #[.slice A n c] w fun e w' => ∃ A' c', e = .returned (.slice A' n c') ∧ Own w' w.heap.size 3 1 intC A' n c' ((List.range n).map (par (lvs hs))) ∧ Below w.heap.size w w' := by
  go_enter Try.func15, Try.ntmps15
  go_wp2_with fail
  go_loopw [3, 4, 9] (fun vo vs vi wr => ∃ (k : Nat) (A1 A2 : Option Addr) (c1 c2 m : Nat), k ≤ n ∧ vi = .int .i64 k ∧ vo = .slice A1 k c1 ∧ vs = .slice A2 m c2 ∧ Own wr w.heap.size 3 1 intC A1 k c1 ((List.range k).map (par (lvs hs))) ∧
      Own wr w.heap.size 3 1 intC A2 m c2 ((stk (lvs hs) k).reverse.map (fun j : Nat => (j : Int))) ∧ Apart A1 A2 ∧ Below w.heap.size w wr) (fun _ _ i _ => n - (intOf i).toNat)
  case atStart => exact ⟨0, none, none, 0, 0, 0, Nat.zero_le _, rfl, rfl, rfl, Own.nil_ _ _ _ _ _, Own.nil_ _ _ _ _ _, Apart.none_l, Below.refl _ _⟩
  case round =>
    obtain ⟨k, A1, A2, c1, c2, m, hk, rfl, rfl, rfl, ho, hs2, hd, hbw⟩ := hrel
    by_cases hlt : k < n
    · obtain ⟨ad, x, rfl, hl, hx, q0, q1, q2, q3, q4⟩ := (ha.below hbw).hd hlt
      have hlv : lvs hs k = x.level := by simp [lvs, hx]
      have HX := Lib.hid hlv
      have HX2 := Lib.hid hx
      clear hlv hx
      go_wp2_with fail
      obtain ⟨wo, hwo⟩ : ∃ wo : World, wo = wr := ⟨_, rfl⟩
      subst hwo
      have c6 : (wo.alloc (.cells #[.int .i64 x.flow, .int .i64 x.pos, .int .i64 x.level, .string x.label, .string x.title] 32)).cell? ⟨wo.heap.size, 2, none⟩ = some (.int .i64 x.level) := by simp
      have l6 : wo.heap.size < (wo.alloc (.cells #[.int .i64 x.flow, .int .i64 x.pos, .int .i64 x.level, .string x.label, .string x.title] 32)).heap.size := by simp
      have ho1 := ho.alloc (.cells #[.int .i64 x.flow, .int .i64 x.pos, .int .i64 x.level, .string x.label, .string x.title] 32)
      have hs1 := hs2.alloc (.cells #[.int .i64 x.flow, .int .i64 x.pos, .int .i64 x.level, .string x.label, .string x.title] 32)
      have hb1 : Below w.heap.size w (wo.alloc (.cells #[.int .i64 x.flow, .int .i64 x.pos, .int .i64 x.level, .string x.label, .string x.title] 32)) := hbw.alloc hbw.size _
      generalize wo.alloc (.cells #[.int .i64 x.flow, .int .i64 x.pos, .int .i64 x.level, .string x.label, .string x.title] 32) = W1 at *
      clear q0 q1 q2 q3 q4 ho hs2
      go_loopw [4] (fun vs wi => ∃ (m' : Nat) (l : List Nat), vs = .slice A2 m' c2 ∧ Own wi w.heap.size 3 1 intC A2 m' c2 (l.reverse.map (fun j : Nat => (j : Int))) ∧
         l.dropWhile (fun j => decide (lvs hs k ≤ lvs hs j)) = (stk (lvs hs) k).dropWhile (fun j => decide (lvs hs k ≤ lvs hs j)) ∧ (∀ j ∈ l, j < k) ∧ l.length ≤ k ∧ Below W1.heap.size W1 wi) (fun vs _ => match vs with | .slice _ m' _ => m' | _ => 0)
      case atStart => exact ⟨m, stk (lvs hs) k, rfl, hs1, rfl, mem_stk _ _, len_stk _ _, Below.refl _ _⟩
      case round =>
        obtain ⟨m', l, rfl, hs3, hdw, hmem, hlk, hbi⟩ := hrel
        clear hs1
        have hll := hs3.len
        have HM := Lib.hid hdw
        have hB := Nat.le_trans hb1.size hbi.size
        clear hdw
        rcases m' with _ | m'
        · have hln : l = [] := by simpa using hll
          subst hln
          clear hll hmem hlk
          go_wp2_with fail
          go_quiet (fail)
          have ho4 := (ho1.below hbi).drewN nq
          have hs4 := hs3.drewN nq
          go_wp2_with (first
            | (at_builtin; refine wpList_push elemI rfl (.tmp 40) (.tmp 41) rfl rfl _ rfl (ho4.alloc _) (-1) _ rfl rfl (intC_one _) rfl (by unfold maxLen; omega) (Nat.le_trans hB (by simp)) ?_; intro A1' c1' w1 ho2 hg2 ha2; have hs5 := (hs4.alloc _).keep hg2 hd; have hz5 := hg2.size)
            | (at_builtin; refine wpList_push elemI rfl (.tmp 52) (.tmp 54) rfl rfl _ rfl (hs5.alloc _) (k : Int) _ rfl rfl (intC_one _) rfl (by unfold maxLen; omega) (Nat.le_trans hB (by simp at hz5 ⊢; omega)) ?_; intro A2' c2' w2 hs6 hg3 ha3))
          go_roundw
          case rel =>
            obtain ⟨e1, e2⟩ := stk_end _ _ _ HM.out (.inl rfl)
            have hb2 := below_trans' hb1 hb1.size hbi
            have hb3 := ((below_drewN hb2 nq).alloc hB _).grown hg2 (Nat.le_trans hB (by simp)) (fun g hg => (ho4.lt g hg).1)
            have hb4 := (hb3.alloc hb3.size _).grown hg3 (Nat.le_trans hb3.size (by simp)) (fun g hg => (hs5.lt g hg).1)
            have hd1 := hd.push ha2 (hs4.alloc _)
            refine ⟨k + 1, A1', A2', c1', c2', 1, by omega, by go_num, rfl, rfl, ?_, ?_, ((hd1.symm.push ha3 (ho2.alloc _))).symm, hb4⟩
            · rw [range_snoc, e1]; exact (ho2.alloc _).keep hg3 hd1.symm
            · rw [e2]; simpa using hs6
          case measure => simp [intOf]; omega
        · obtain ⟨j, l', rfl⟩ : ∃ j l', l = j :: l' := by
            cases l with
            | nil => simp at hll
            | cons j l' => exact ⟨j, l', rfl⟩
          have hjk := hmem j (List.mem_cons_self ..)
          have hll' : l'.reverse.length = m' := by simpa using hll
          obtain ⟨g, rfl, hgB, hgl, hcj⟩ := hs3.int (Nat.lt_succ_self m')
          rw [show gI ((j :: l').reverse.map (fun j : Nat => (j : Int))) m' = (j : Int) by rw [List.reverse_cons, List.map_append, ← hll', ← List.length_map (f := fun j : Nat => (j : Int))]; exact gI_last _ _] at hcj
          obtain ⟨ad', y, e, _, hy, q0, q1, q2, q3, q4⟩ := (ha.below (below_trans' hb1 hb1.size hbi)).hd (k := j) (by omega)
          have hly : lvs hs j = y.level := by simp [lvs, hy]
          cases e
          have hlk0 := hlk
          have hmem0 := hmem
          clear hll hll' hmem hlk q0 q1 q3 q4 hy
          have c6' := (hbi.cell (p := ⟨wo.heap.size, 2, none⟩) l6).trans c6
          have HY := Lib.hid hly
          clear hly
          have hcap : m' ≤ c2 := by have := hs3.cap.1; omega
          have hmb : (m' : Int) ≤ 65536 := by have := hs3.len; simp at this; have := hlk0; simp at this; omega
          by_cases hc : x.level ≤ y.level
          · have em : IntKind.i64.wrap (m' : Int) = m' := IntWalk.i64_in _ (by omega)
            go_wp2_with fail
            go_quiet (fail)
            clear em
            go_wp2_with fail
            go_roundw
            case rel =>
              refine ⟨m', l', rfl, ?_, ?_, fun i hi => hmem0 i (List.mem_cons_of_mem _ hi), by simp at hlk0; omega, below_drewN hbi _⟩
              · have hs7 := hs3.drewN nq
                rw [List.reverse_cons, List.map_append] at hs7
                exact hs7.pop intC_len
              · rw [← HM.out, List.dropWhile_cons_of_pos (by rw [HX.out, HY.out]; simpa using hc)]
            case measure => simp
          · have hc' : y.level < x.level := by omega
            clear hc
            have em : IntKind.i64.wrap (m' : Int) = m' := IntWalk.i64_in _ (by omega)
            go_wp2_with fail
            go_quiet (fail)
            clear em
            have ho4 := (ho1.below hbi).drewN nq
            have hs4 := hs3.drewN nq
            go_wp2_with (first
              | (at_builtin; refine wpList_push elemI rfl (.tmp 43) (.tmp 50) rfl rfl _ rfl (ho4.alloc _) (j : Int) _ rfl rfl (intC_one _) rfl (by unfold maxLen; omega) (Nat.le_trans hB (by simp)) ?_; intro A1' c1' w1 ho2 hg2 ha2; have hs5 := (hs4.alloc _).keep hg2 hd; have hz5 := hg2.size)
              | (at_builtin; refine wpList_push elemI rfl (.tmp 52) (.tmp 55) rfl rfl _ rfl (hs5.alloc _) (k : Int) _ rfl rfl (intC_one _) rfl (by unfold maxLen; omega) (Nat.le_trans hB (by simp at hz5 ⊢; omega)) ?_; intro A2' c2' w2 hs6 hg3 ha3)
              | (at_builtin; refine wpList_push elemI rfl (.tmp 52) (.tmp 54) rfl rfl _ rfl (hs5.alloc _) (k : Int) _ rfl rfl (intC_one _) rfl (by unfold maxLen; omega) (Nat.le_trans hB (by simp at hz5 ⊢; omega)) ?_; intro A2' c2' w2 hs6 hg3 ha3))
            go_roundw
            case rel =>
              obtain ⟨e1, e2⟩ := stk_end _ _ _ HM.out (.inr ⟨j, l', rfl, by rw [HX.out, HY.out]; exact hc'⟩)
              have hb2 := below_trans' hb1 hb1.size hbi
              have hb3 := ((below_drewN hb2 nq).alloc hB _).grown hg2 (Nat.le_trans hB (by simp)) (fun g hg => (ho4.lt g hg).1)
              have hb4 := (hb3.alloc hb3.size _).grown hg3 (Nat.le_trans hb3.size (by simp)) (fun g hg => (hs5.lt g hg).1)
              have hd1 := hd.push ha2 (hs4.alloc _)
              refine ⟨k + 1, A1', A2', c1', c2', _, by omega, by go_num, rfl, rfl, ?_, ?_, ((hd1.symm.push ha3 (ho2.alloc _))).symm, hb4⟩
              · rw [range_snoc, e1]; exact (ho2.alloc _).keep hg3 hd1.symm
              · rw [e2]; simpa using hs6
            case measure => simp [intOf]; omega
    · go_wp2_with fail
      go_ret
      have : k = n := by omega
      subst this
      exact ⟨A1, c1, rfl, ho, hbw⟩
end Go.Proofs.Ytbeollddmglkcaa
