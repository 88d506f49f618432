/- A strings.Builder that is a field of the scanner. -/
import Derived.Test.YtjpbmeonkfkgdaaK
import Derived.Test.YtjpbmeonkfkgdaaW2
import Derived.Test.YtjpbmeonkfkgdaaShelf
import Derived.Lib.Builder
import Derived.Lib.UnsafeStr
import Derived.Lib.Hide
import Derived.RegionTactic
namespace Go.Proofs.Ytjpbmeonkfkgdaa
open Go.RowKit

theorem sizeBuilder : (Try.prog.info? 101).map (·.size) = some 2 := by kernel_rfl
theorem liesBuilder : liesAt Try.prog Try.prog.depth 103 (7 / Try.prog.cellsOf 103) 2 101 1 = true := by kernel_rfl
theorem elemB : Elem Try.prog 57 5 1 1 := Elem.mk Try.underlying57 (z := .int .u8 0) (by kernel_rfl) rfl (by omega)
theorem Blk.shape {w : World} {g : Nat} {t : TypeId} {cs : Array Value} (h : Blk w g t cs) : w.shape? g = some (t, cs.size) := by
  unfold Blk at h
  simp [World.shape?, h]

set_option maxRecDepth 100000 in
theorem copyCheck_fresh (g : Nat) (w : World) (h0 : w.cell? ⟨g, 2, none⟩ = some (.pointer none)) (hsh : w.shape? g = some (103, 7)) (hfz : w.frozen? ⟨g, 2, none⟩ = false) :
    Calls Try.prog 43 #[.pointer (some ⟨g, 2, none⟩)] w fun e w' => e = .returned (.tuple #[]) ∧ w' = w.setCell ⟨g, 2, none⟩ (.pointer (some ⟨g, 2, none⟩)) := by
  obtain ⟨j, hj, hjs⟩ := Option.map_eq_some_iff.1 sizeBuilder
  go_enter Try.func43, Try.ntmps43
  go_wp2
  rw [Lib.run_to_unsafe w ⟨g, 2, none⟩ Try.underlying99 Try.underlying120 hj (by rw [hjs]; decide) hsh (by show 2 < 7; omega)]
  simp only [Result.andThen]
  rw [Oper.upon_value]
  go_wp2
  rw [run_callFunc_extern Try.func49 (by kernel_rfl) (by kernel_rfl) (by kernel_rfl) (e := Extern.AbiNoEscape.same) (by kernel_rfl)]
  rw [Lib.run_noEscape]
  simp only [Result.andThen]
  rw [Oper.upon_value]
  go_wp2
  rw [Lib.run_from_unsafe w ⟨g, 2, none⟩ Try.underlying120 Try.underlying99 hj hsh liesBuilder]
  simp only [Result.andThen]
  rw [Oper.upon_value]
  go_wp2
  go_end0
  exact ⟨rfl, rfl⟩

set_option maxRecDepth 100000 in
theorem copyCheck_used (g : Nat) (w : World) (h0 : w.cell? ⟨g, 2, none⟩ = some (.pointer (some ⟨g, 2, none⟩))) :
    Calls Try.prog 43 #[.pointer (some ⟨g, 2, none⟩)] w fun e w' => e = .returned (.tuple #[]) ∧ w' = w := by
  obtain ⟨j, hj, _⟩ := Option.map_eq_some_iff.1 sizeBuilder
  go_enter Try.func43, Try.ntmps43
  go_wp2
  rw [Lib.run_neq_ptr_same w _ Try.underlying99 hj]
  go_wp2
  go_end0
  exact ⟨rfl, rfl⟩

theorem blen_any (g n c : Nat) (A : Option Addr) (w : World) (h : w.cell? ⟨g, 3, none⟩ = some (.slice A n c)) :
    Calls Try.prog 44 #[.pointer (some ⟨g, 2, none⟩)] w fun e w' => e = .returned (.int .i64 n) ∧ w' = w := by
  go_enter Try.func44, Try.ntmps44
  go_wp2_with fail
  go_ret
  exact ⟨rfl, rfl⟩
theorem breset_any (g : Nat) (V0 V1 : Value) (w : World) (h0 : w.cell? ⟨g, 2, none⟩ = some V0) (h1 : w.cell? ⟨g, 3, none⟩ = some V1) (f0 : w.frozen? ⟨g, 2, none⟩ = false) (f1 : w.frozen? ⟨g, 3, none⟩ = false) :
    Calls Try.prog 46 #[.pointer (some ⟨g, 2, none⟩)] w fun e w' => e = .returned (.tuple #[]) ∧ w' = (w.setCell ⟨g, 2, none⟩ (.pointer none)).setCell ⟨g, 3, none⟩ (.slice none 0 0) := by
  have h3 : (w.setCell ⟨g, 2, none⟩ (.pointer none)).cell? ⟨g, 3, none⟩ = some V1 := (World.cell?_setCell_other w ⟨g, 2, none⟩ ⟨g, 3, none⟩ _ (by simp)).trans h1
  go_enter Try.func46, Try.ntmps46
  go_wp2_with fail
  go_end0
  exact ⟨rfl, rfl⟩
theorem grown_freeze (w : World) (ga k : Nat) : w.grownBy (w.drew.freeze ⟨ga, 0, none⟩ k) (some ga) := by
  by_cases hk : k = 0
  · subst hk
    exact ⟨rfl, rfl, rfl, Nat.le_refl _, fun _ _ _ => rfl⟩
  · refine ⟨?_, ?_, ?_, ?_, fun b hb hne => ?_⟩
    · simp [World.freeze, hk]; try rfl
    · simp [World.freeze, hk]; try rfl
    · simp [World.freeze, hk]; try rfl
    · simp [World.freeze, hk]; try exact Nat.le_refl _
    · simp only [World.freeze, hk, if_false, Array.getElem?_modify]
      rw [if_neg (fun e => hne (by rw [e]))]
      rfl
set_option maxHeartbeats 2000000 in
set_option maxRecDepth 100000 in
theorem bstring_any (g B n c : Nat) (A : Option Addr) (l : List UInt8) (w : World) (h : w.cell? ⟨g, 3, none⟩ = some (.slice A n c)) (ho : Own w B 5 1 byteC A n c (l.map (fun x => (x.toNat : Int)))) (hl : l ≠ []) :
    Calls Try.prog 45 #[.pointer (some ⟨g, 2, none⟩)] w fun e w' => ∃ ga, A = some ⟨ga, 0, none⟩ ∧ B ≤ ga ∧ e = .returned (.string ⟨l.toArray⟩) ∧ w.grownBy w' (some ga) := by
  have hln : l.length = n := by have := ho.len; rw [List.length_map] at this; exact this
  have hl0 : 0 < n := by rw [← hln]; exact List.length_pos_iff.2 hl
  obtain ⟨ga, cap, cur, hv, hB, hg, hnc, hcm, hcs, htk⟩ : ∃ ga cap cur, Value.slice A n c = .slice (some ⟨ga, 0, none⟩) n cap ∧ B ≤ ga ∧ w.heap[ga]? = some (.cells cur 5 (0, 0)) ∧ n ≤ cap ∧ cap ≤ maxLen ∧ cur.size = cap * 1 ∧ cur.toList.take (n * 1) = (l.map (fun x => (x.toNat : Int))).flatMap byteC := by
    rcases ho.row.2 with ⟨hv, hn⟩ | ⟨ga, cap, cur, hv, r⟩
    · omega
    · refine ⟨ga, cap, cur, hv, r.1, r.2.1, r.2.2.1, r.2.2.2.1, r.2.2.2.2.1, ?_⟩
      exact r.2.2.2.2.2
  injection hv with hA _ hc
  subst hA
  subst hc
  have hsd : (Builtin.unsafeSliceData_ #[57] 122 #[.slice (some ⟨ga, 0, none⟩) n c]).run Try.prog w.drew = .ok (.pointer (some ⟨ga, 0, none⟩)) w.drew := Lib.run_unsafeSliceData_row _ _ _ _ _ _ (by omega)
  have hus : (Builtin.unsafeString_ #[122, 3] 9 #[.pointer (some ⟨ga, 0, none⟩), .int .i64 n]).run Try.prog w.drew = .ok (.string ⟨l.toArray⟩) (w.drew.freeze ⟨ga, 0, none⟩ n) := by
    rw [← hln]
    refine Lib.run_unsafeString_row w.drew 122 3 9 5 Try.underlying122 (by kernel_rfl) ga cur.size (by have hg' : w.drew.heap[ga]? = some (.cells cur 5 (0, 0)) := hg; simp [World.shape?, hg']) l hl (by omega) (by unfold maxLen at hcm; omega) ?_
    intro j x hx
    have hx2 : (l.map (fun x => (x.toNat : Int)))[j]? = some (x.toNat : Int) := by rw [List.getElem?_map, hx]; rfl
    obtain ⟨ad, e, _, hc9⟩ := (ho.sl byteC_len).rd hl0
    injection e with e
    subst e
    have := hc9 j _ hx2 0 _ rfl
    rw [Nat.mul_one, Nat.add_zero] at this
    exact this
  go_enter Try.func45, Try.ntmps45
  go_wp2
  have h9 : w.drew.cell? ⟨g, 3, none⟩ = some (.slice (some ⟨ga, 0, none⟩) n c) := h
  go_region
  all_goals (go_wp2; go_ret; exact ⟨ga, rfl, hB, rfl, grown_freeze w ga n⟩)
end Go.Proofs.Ytjpbmeonkfkgdaa
