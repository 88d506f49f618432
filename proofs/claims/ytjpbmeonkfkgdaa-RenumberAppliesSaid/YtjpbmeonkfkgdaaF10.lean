/- leveltext.Parse. -/
import Derived.Test.YtjpbmeonkfkgdaaF0
import Derived.Test.YtjpbmeonkfkgdaaF8
import Derived.Test.YtjpbmeonkfkgdaaF9
namespace Go.Proofs.Ytjpbmeonkfkgdaa
open Go.RowKit

theorem bytes_below (w : World) (s : ByteArray) : Below w.heap.size w (Lib.bytesWorld w 5 s) :=
  ⟨rfl, rfl, rfl, by rw [Lib.bytesWorld_size]; omega, fun k hk => Lib.bytesWorld_at_old w 5 s k hk⟩
theorem Sc.c4 {w : World} {B g : Nat} {s : ByteArray} {at_ : Nat} {lit : List UInt8} {ps : List Pt} {pl : Nat} {e : Int} (h : Sc w B g s at_ lit ps pl e) :
    ∃ A c, w.cell? ⟨g, 4, none⟩ = some (.slice A ps.length c) ∧ Own w B 93 3 ptC A ps.length c ps := by
  obtain ⟨sp, A1, c1, A2, c2, hsp, hb, hp⟩ := h
  exact ⟨A2, c2, hb.cell 4 rfl, hp.o2⟩
theorem Sc.new (w : World) (B : Nat) (s : ByteArray) (hB : B ≤ w.heap.size) : Sc (w.alloc (.cells (scV s 0 (.pointer none) none 0 0 none 0 0 0 0) 103)) B w.heap.size s 0 [] [] 0 0 :=
  ⟨.pointer none, none, 0, none, 0, .inl rfl, Blk.new _ _ _, ⟨hB, Own.nil_ _ _ _ _ _, Own.nil_ _ _ _ _ _, by simp [blk], by simp [blk], Apart.none_l⟩⟩
def ParsePost (w : World) (s : ByteArray) (e : Ending) (w' : World) : Prop :=
  ∃ A c, e = .returned (.tuple #[.slice A (parseP s).length c, .int .i64 (parseE s)]) ∧ Own w' w.heap.size 93 3 ptC A (parseP s).length c (parseP s) ∧ Below w.heap.size w w'
theorem ParsePost.err {w : World} {s : ByteArray} {w' : World} {E : Int} (h : parseE s = E) (h0 : E ≠ 0) (hb : Below w.heap.size w w') : ParsePost w s (.returned (.tuple #[.slice none 0 0, .int .i64 E])) w' := by
  have hp : parseP s = [] := by unfold parseP; rw [if_neg (by rw [h]; exact h0)]
  unfold ParsePost
  rw [hp, h]
  exact ⟨none, 0, rfl, Own.nil_ _ _ _ _ _, hb⟩
set_option maxHeartbeats 4000000 in
set_option maxRecDepth 100000 in
theorem parse_any (s : ByteArray) (w : World) : Calls Try.prog 26 #[.string s] w (ParsePost w s) := by
  by_cases h64 : 64 < s.size
  · have h1 : (64 : Int) < (s.size : Int) := by omega
    have HE := Lib.hid (show parseE s = 10 by unfold parseE; rw [if_pos h64])
    have h2 : decide (s.size > 64) = true := decide_eq_true h64
    go_enter Try.func26, Try.ntmps26
    go_wp2_with fail
    go_ret2
    exact ParsePost.err HE.out (by omega) (Below.refl _ _)
  · have h1 : ¬ (64 : Int) < (s.size : Int) := by omega
    have hv := valid_any s w (by unfold maxLen; omega)
    have hcv := fun w s => Lib.run_convert_string_bytes (P := Try.prog) w 9 57 5 s (u := .string) Try.underlying9 Try.underlying57 Try.underlying5
    have hpE : parseE s = if (ptsO (byts s)).isSome = false then 12 else if s.data.toList.any ctlB = true then 5 else (scanR s.data.toList).2 := by unfold parseE; rw [if_neg h64]
    cases hV : (ptsO (byts s)).isSome
    · rw [hV] at hv
      have HE := Lib.hid (show parseE s = 12 by rw [hpE, if_pos hV])
      clear hpE hV
      go_enter Try.func26, Try.ntmps26
      go_wp2_with (go_at_call 29; refine hv.mono ?_; rintro e w' ⟨rfl, rfl⟩)
      go_ret2
      exact ParsePost.err HE.out (by omega) (Below.refl _ _)
    · rw [hV] at hv
      rw [if_neg (by rw [hV]; simp)] at hpE
      have hcb := contains_bytes (some ⟨w.heap.size, 0, none⟩) s.size (grownCap w s.size 0 5) s.data.toList (Lib.bytesWorld w 5 s) (sl_bytesWorld w s) (by omega)
      have hB1 := bytes_below w s
      cases hC : s.data.toList.any ctlB
      · rw [hC] at hcb
        rw [if_neg (by rw [hC]; simp)] at hpE
        have HPE := Lib.hid hpE
        have hs : s.size ≤ 1000 := by omega
        have KS := Lib.hid (fun w1 (hB : w.heap.size ≤ w1.heap.size) => scan_any w.heap.size w1.heap.size s (w1.alloc (.cells (scV s 0 (.pointer none) none 0 0 none 0 0 0 0) 103)) (Sc.new w1 _ s hB) hs (by rw [World.size_alloc]; omega))
        clear hpE hV hC
        have HPP := Lib.hid (show parseP s = if parseE s = 0 then (scanR s.data.toList).1 else [] from rfl)
        generalize scanR s.data.toList = R at *
        obtain ⟨rp, re⟩ := R
        by_cases hre : re = 0
        · subst hre
          go_enter Try.func26, Try.ntmps26
          go_wp2_with (first | (go_at_call 29; refine hv.mono ?_; rintro e w' ⟨rfl, rfl⟩) | (go_at_call 30; refine hcb.mono ?_; rintro e w' ⟨rfl, q, rfl⟩) | (go_at_call 32; refine (KS.out _ (below_drewN hB1 _).size).mono ?_; rintro er w5 ⟨rfl, ⟨a, pl, hS5⟩, hb5⟩; have t6 : w5.cell? ⟨(Lib.bytesWorld w 5 s).heap.size, 6, none⟩ = _ := hS5.c6; obtain ⟨A4, c4, t4, o4⟩ := hS5.c4; have t4 : w5.cell? ⟨(Lib.bytesWorld w 5 s).heap.size, 4, none⟩ = _ := t4))
          go_ret2
          have hE := HPE.out
          have hP := HPP.out
          rw [if_pos hE] at hP
          unfold ParsePost
          rw [hP, hE]
          exact ⟨A4, c4, rfl, o4, ((below_drewN hB1 _).alloc (below_drewN hB1 _).size _).trans hb5⟩
        · go_enter Try.func26, Try.ntmps26
          go_upto_region 10 with (first | (go_at_call 29; refine hv.mono ?_; rintro e w' ⟨rfl, rfl⟩) | (go_at_call 30; refine hcb.mono ?_; rintro e w' ⟨rfl, q, rfl⟩) | (go_at_call 32; refine (KS.out _ (below_drewN hB1 _).size).mono ?_; rintro er w5 ⟨rfl, ⟨a, pl, hS5⟩, hb5⟩; have t6 : w5.cell? ⟨(Lib.bytesWorld w 5 s).heap.size, 6, none⟩ = _ := hS5.c6))
          go_quiet (fail)
          go_wp2_with fail
          go_ret2
          exact ParsePost.err HPE.out hre (below_drewN (((below_drewN hB1 _).alloc (below_drewN hB1 _).size _).trans hb5) _)
      · rw [hC] at hcb
        have HE := Lib.hid (show parseE s = 5 by rw [hpE, if_pos hC])
        clear hpE hV hC
        go_enter Try.func26, Try.ntmps26
        go_wp2_with (first | (go_at_call 29; refine hv.mono ?_; rintro e w' ⟨rfl, rfl⟩) | (go_at_call 30; refine hcb.mono ?_; rintro e w' ⟨rfl, q, rfl⟩))
        go_ret2
        exact ParsePost.err HE.out (by omega) (below_drewN hB1 _)
end Go.Proofs.Ytjpbmeonkfkgdaa
