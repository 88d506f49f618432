/- The scanner: place, digit. -/
import Derived.Test.YtjpbmeonkfkgdaaF4
namespace Go.Proofs.Ytjpbmeonkfkgdaa
open Go.RowKit

set_option maxHeartbeats 2000000 in
set_option maxRecDepth 100000 in
theorem place_any (B g : Nat) (s : ByteArray) (at_ pl : Nat) (lit : List UInt8) (ps : List Pt) (e : Int) (d : UInt8) (b : Bool) (w : World) (h : Sc w B g s at_ lit ps pl e) (hl : lit.length ≤ 4096 ∧ ps.length ≤ 4000) (hpl : pl ≤ 4096) (hB : B ≤ w.heap.size) (hd : digB d = true) :
    Calls Try.prog 42 #[.pointer (some ⟨g, 0, none⟩), .int .u8 (d.toNat : Int), .bool b] w fun er w' => er = .returned (.tuple #[]) ∧ Sc w' B g s at_ [] (placeP lit ps d b) (pl + 1) e ∧ Below B w w' := by
  have cf := flush_any B g s at_ pl lit ps e w h ⟨hl.1, by omega⟩ hB
  have hfl : (flushP lit ps).length ≤ ps.length + 1 := by
    unfold flushP
    split
    · omega
    · rw [List.length_append]; exact Nat.le_refl _
  unfold digB at hd
  simp only [Bool.and_eq_true, decide_eq_true_eq] at hd
  have HP := Lib.hid (show placeP lit ps d b = flushP lit ps ++ [⟨[], (d.toNat : Int) - 48, b⟩] from rfl)
  obtain ⟨hd1, hd2⟩ := hd
  clear h
  generalize flushP lit ps = fl at *
  generalize (d.toNat : Int) = c at *
  generalize placeP lit ps d b = T at *
  go_enter Try.func42, Try.ntmps42
  go_upto_region 1 with (go_at_call 38; refine cf.mono ?_; rintro er w1 ⟨rfl, hS, hb1⟩)
  obtain ⟨sp, A1, c1, A2, c2, hsp, hb, hp⟩ := hS
  have hgl := hb.lt
  have hsz := hb1.size
  have k4 : w1.cell? ⟨g, 4, none⟩ = some (.slice A2 fl.length c2) := hb.cell 4 rfl
  go_wp2_with (at_builtin; refine wpList_push elemP rfl (.tmp 12) (.tmp 18) rfl rfl _ rfl (hp.o2.alloc _) (⟨[], c - 48, b⟩ : Pt) _ rfl (by simp) (ptC_one _) rfl (by unfold maxLen; omega) (Nat.le_trans hB (by simp; omega)) ?_; intro A5 c5 w5 ho5 hg5 ha5; have hb5 := (hb.alloc _).keep hg5 (fun e => hp.n2 e); have f5 := hb5.frozen 4; have u5 : w5.cell? ⟨g, 4, none⟩ = some (.slice A2 fl.length c2) := hb5.cell 4 rfl; have hb6 := hb5.set_ 4 (.slice A5 (fl.length + 1) c5); have f6 := hb6.frozen 5; have u6 : (w5.setCell ⟨g, 4, none⟩ (.slice A5 (fl.length + 1) c5)).cell? ⟨g, 5, none⟩ = some (.int .i64 pl) := hb6.cell 5 rfl)
  go_end0
  have hb7 := hb6.set_ 5 (.int .i64 ((pl : Int) + 1))
  have hn5 : blk A5 ≠ some g := by
    rcases ha5 with h | h
    · rw [h]; exact hp.n2
    · rw [h]; intro e2; injection e2 with e2; simp at e2; omega
  have k9 := (gset w5 g 4 (.slice A5 (fl.length + 1) c5)).trans (gset _ g 5 (.int .i64 ((pl : Int) + 1)))
  have hap : Apart A1 A5 := fun k hk hk2 => by
    rcases ha5 with h | h
    · exact hp.ap k hk (by rw [← h]; exact hk2)
    · rw [h] at hk2
      injection hk2 with hk2
      have := (hp.o1.lt k hk).2
      simp at hk2
      omega
  have o1 := (hp.o1.alloc (.cells (ptC ⟨[], c - 48, b⟩).toArray 93)).keep hg5 (fun k hk hk2 => hp.ap k hk2 hk)
  refine ⟨rfl, ⟨sp, A1, c1, A5, c5, hsp, ?_, ⟨hp.hg, o1.keep k9 (fun k hk => by injection hk with hk; rw [← hk]; exact hp.n1), ?_, hp.n1, hn5, hap⟩⟩, ?_⟩
  · rw [HP.out, List.length_append]
    exact hb7
  · rw [HP.out, List.length_append]
    exact ho5.keep k9 (fun k hk => by injection hk with hk; rw [← hk]; exact hn5)
  · have h2 := (hb1.alloc (Nat.le_trans hB hsz) (.cells (ptC ⟨[], c - 48, b⟩).toArray 93)).grown hg5 (Nat.le_trans hB (by simp; omega)) (fun k hk => (hp.o2.lt k hk).1)
    exact (h2.setCell (p := ⟨g, 4, none⟩) hp.hg _).setCell (p := ⟨g, 5, none⟩) hp.hg _

def digAt (s : ByteArray) (k : Nat) : Bool := match s.data.toList[k]? with
  | some c => digB c
  | none => false
theorem digAt_lt {s : ByteArray} {k : Nat} (h : k < s.size) : digAt s k = digB s[k] := by
  unfold digAt
  have : s.data.toList[k]? = some s[k] := by rw [List.getElem?_eq_getElem (by simpa using h)]; rfl
  rw [this]
theorem digAt_ge {s : ByteArray} {k : Nat} (h : ¬ k < s.size) : digAt s k = false := by
  unfold digAt
  rw [List.getElem?_eq_none (by simp; exact Nat.not_lt.1 h)]
set_option maxHeartbeats 2000000 in
set_option maxRecDepth 100000 in
theorem digit_any (g k : Nat) (s : ByteArray) (w : World) (h : w.cell? ⟨g, 0, none⟩ = some (.string s)) :
    Calls Try.prog 41 #[.pointer (some ⟨g, 0, none⟩), .int .i64 k] w fun er w' => er = .returned (.bool (digAt s k)) ∧ w' = w := by
  by_cases hlt : k < s.size
  · rw [digAt_lt hlt]
    have hc := s[k].toNat_lt
    have hq := run_index_str s k hlt
    unfold digB
    generalize s[k] = c at *
    by_cases h1 : 49 ≤ (c.toNat : Int)
    · have e1 : decide (49 ≤ (c.toNat : Int)) = true := decide_eq_true h1
      go_enter Try.func41, Try.ntmps41
      go_wp2_with fail
      go_ret
      exact ⟨by simp [*], rfl⟩
    · have e1 : decide (49 ≤ (c.toNat : Int)) = false := decide_eq_false h1
      go_enter Try.func41, Try.ntmps41
      go_wp2_with fail
      go_ret
      exact ⟨by simp [*], rfl⟩
  · rw [digAt_ge hlt]
    go_enter Try.func41, Try.ntmps41
    go_wp2_with fail
    go_ret
    exact ⟨rfl, rfl⟩
end Go.Proofs.Ytjpbmeonkfkgdaa
