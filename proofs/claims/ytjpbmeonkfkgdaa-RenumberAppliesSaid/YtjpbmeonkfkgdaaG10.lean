/- The law's levelsOf. -/
import Derived.Test.YtjpbmeonkfkgdaaG9
import Derived.Test.YtjpbmeonkfkgdaaF4
namespace Go.Proofs.Ytjpbmeonkfkgdaa
open Go.RowKit

def gS (a b c : Int) (i : Nat) : Int := if i = 0 then a else if i = 1 then b else c
theorem elemV : Elem Try.prog 26 59 4 40 := Elem.mk Try.underlying26 (z := .agg #[.int .i64 0, .int .i64 0, .string ⟨#[]⟩, .int .i64 0]) (by kernel_rfl) rfl (by omega)
set_option maxHeartbeats 4000000 in
set_option maxRecDepth 100000 in
theorem levelsOf_any (nn a b c : Int) (w : World) (h0 : 0 ≤ nn ∧ nn ≤ 255) (ha : 0 ≤ a ∧ a ≤ 255) (hb : 0 ≤ b ∧ b ≤ 255) (hc : 0 ≤ c ∧ c ≤ 255) :
    Calls Try.prog 7 #[.int .u8 nn, .agg #[.int .u8 a, .int .u8 b, .int .u8 c]] w fun e w' => ∃ A k cA, e = .returned (.slice A k cA) ∧ (k : Int) = nn % 9 + 1 ∧ Own w' w.heap.size 59 4 lvC A k cA (levelsP (gS a b c) k) ∧ Below w.heap.size w w' := by
  have N0 := Blk.new w 22 #[.int .u8 a, .int .u8 b, .int .u8 c]
  have hb0 := (Below.refl w.heap.size w).alloc (Nat.le_refl _) (.cells #[.int .u8 a, .int .u8 b, .int .u8 c] 22)
  go_enter Try.func7, Try.ntmps7
  go_wp2_with fail
  go_loopw [5, 6] (fun vo vi wr => ∃ (i : Nat) (A : Option Addr) (cA : Nat), vo = .slice A i cA ∧ vi = .int .i64 i ∧ (i : Int) ≤ nn % 9 + 1 ∧ blk A ≠ some w.heap.size ∧ Blk wr w.heap.size 22 #[.int .u8 a, .int .u8 b, .int .u8 c] ∧ Own wr w.heap.size 59 4 lvC A i cA (levelsP (gS a b c) i) ∧ Below w.heap.size w wr) (fun _ vi _ => 10 - (intOf vi).toNat)
  case atStart => exact ⟨0, none, 0, rfl, rfl, by omega, by simp [blk], N0, Own.nil_ _ _ _ _ _, hb0⟩
  case round =>
    obtain ⟨i, A, cA, rfl, rfl, hi, hA, N1, ho, hbw⟩ := hrel
    by_cases hlt : (i : Int) ≤ nn % 9
    · have i9 : i < 9 := by omega
      have i3 : i % 3 < 3 := Nat.mod_lt _ (by omega)
      have k0 : wr.cell? ⟨w.heap.size, i % 3, none⟩ = some (.int .u8 (gS a b c (i % 3))) := by
        rcases (show i % 3 = 0 ∨ i % 3 = 1 ∨ i % 3 = 2 by omega) with h | h | h <;> rw [h]
        · exact N1.cell 0 rfl
        · exact N1.cell 1 rfl
        · exact N1.cell 2 rfl
      have hs : 0 ≤ gS a b c (i % 3) ∧ gS a b c (i % 3) ≤ 255 := by
        unfold gS
        split
        · exact ha
        · split
          · exact hb
          · exact hc
      have HS := Lib.hid (levelsP_succ (gS a b c) i)
      generalize gS a b c (i % 3) = s at *
      have u8i : (UInt8.ofNat (49 + i)).toNat = 49 + i := by rw [UInt8.toNat_ofNat']; exact Nat.mod_eq_of_lt (by omega)
      have hcv : ∀ (W : World) (g : Nat), W.cell? ⟨g, 0, none⟩ = some (.int .u8 (49 + (i : Int))) → (convert 57 9 (.slice (some ⟨g, 0, none⟩) 1 1)).run Try.prog W = .ok (.string ⟨#[UInt8.ofNat (49 + i)]⟩) W := fun W g hc => by
        refine run_convert_bytes_back W 57 9 5 ⟨g, 0, none⟩ 1 [UInt8.ofNat (49 + i)] Try.underlying57 Try.underlying5 Try.underlying9 (fun j hj => ?_)
        have h0 : j = 0 := by simpa using hj
        subst h0
        simp only [List.getElem_cons_zero, u8i]
        exact hc
      have w1 : IntKind.i64.wrap (s.tmod 4) = s % 4 := by rw [Int.tmod_eq_emod_of_nonneg (by omega)]; exact IntWalk.i64_in _ (by omega)
      have w2 : IntKind.i64.wrap (49 + (i : Int)) = 49 + (i : Int) := IntWalk.i64_in _ (by omega)
      have w3 : IntKind.u8.wrap (49 + (i : Int)) = 49 + (i : Int) := IntWalk.u8_in _ (by omega)
      have w4 : s.tdiv 4 = s / 4 := Int.tdiv_eq_ediv_of_nonneg (by omega)
      have w5 : IntKind.u8.wrap (s / 4) = s / 4 := IntWalk.u8_in _ (by omega)
      have w6 : IntKind.i64.wrap (s / 4) = s / 4 := IntWalk.i64_in _ (by omega)
      have w7 : IntKind.i64.wrap ((i : Int) + 1) = (i : Int) + 1 := IntWalk.i64_in _ (by omega)
      have hz2 : ¬ ((i : Int) + 1 = 0) := by omega
      have hz : ((i : Int) + 1 == 0) = false := beq_eq_false_iff_ne.2 (by omega)
      have e2 : 0 ≤ (s / 4) % ((i : Int) + 1) ∧ (s / 4) % ((i : Int) + 1) < (i : Int) + 1 := ⟨Int.emod_nonneg _ (by omega), Int.emod_lt_of_pos _ (by omega)⟩
      have w8 : (s / 4).tmod ((i : Int) + 1) = (s / 4) % ((i : Int) + 1) := Int.tmod_eq_emod_of_nonneg (by omega)
      have et : tmpl i = (⟨#[37]⟩ : ByteArray) ++ ⟨#[49 + UInt8.ofNat i]⟩ := by unfold tmpl; rw [UInt8.ofNat_add]; rfl
      have HN : ∀ j u, (lvC (lvOf s i))[j]? = some u → ((wr.alloc (.cells #[.int .u8 (49 + (i : Int))] 5)).alloc (.cells #[.int .i64 1, .int .i64 (s % 4), .string ((⟨#[37]⟩ : ByteArray) ++ ⟨#[49 + UInt8.ofNat i]⟩), .int .i64 (s / 4 % ((i : Int) + 1))] 59)).drew.cell? ((⟨wr.heap.size + 1, 0, none⟩ : Addr).add j) = some u := fun j u hu => by
        rw [← et]
        have hh := heap_alloc_new (wr.alloc (.cells #[.int .u8 (49 + (i : Int))] 5)) (.cells (lvC (lvOf s i)).toArray 59)
        have := World.news_of_block (cs := (lvC (lvOf s i)).toArray) (t := 59) (fr := (0, 0)) hh j u (by simpa using hu)
        rw [World.size_alloc] at this
        exact this
      clear et
      go_upto_region 6 with fail
      go_region_law
        (first
          | (refine step_push elemV (by rfl) (.tmp 19) (.tmp 36) (by rfl) (by rfl) ⟨wr.heap.size + 1, 0, none⟩ (by rfl) (((ho.alloc _).alloc _).drewN 1) (lvOf s i) HN (lvC_one _) (lvC_len _) (by unfold maxLen; omega) (by have := hbw.size; simp at this ⊢; omega) ?_; intro g5 c5 w5 ho5 hg5 ha5))
      have hB2 := ((hbw.alloc hbw.size (.cells #[.int .u8 (49 + (i : Int))] 5)).alloc (by have := hbw.size; simp; omega) (.cells #[.int .i64 1, .int .i64 (s % 4), .string ((⟨#[37]⟩ : ByteArray) ++ ⟨#[49 + UInt8.ofNat i]⟩), .int .i64 (s / 4 % ((i : Int) + 1))] 59))
      have N5 := (((N1.alloc (.cells #[.int .u8 (49 + (i : Int))] 5)).alloc (.cells #[.int .i64 1, .int .i64 (s % 4), .string ((⟨#[37]⟩ : ByteArray) ++ ⟨#[49 + UInt8.ofNat i]⟩), .int .i64 (s / 4 % ((i : Int) + 1))] 59)).drewN 1).keep hg5 hA
      have hA5 : blk (some (⟨g5, 0, none⟩ : Addr)) ≠ some w.heap.size := by
        rcases ha5 with h | h
        · rw [h] at hA; exact hA
        · have := hbw.size; simp at h; intro e; injection e with e; simp at e; omega
      have hbF := (below_drewN hB2 1).grown hg5 (by have := hbw.size; simp; omega) (fun k hk => (ho.lt k hk).1)
      go_wp2_with fail
      go_roundw
      case measure => rw [intOf, intOf]; omega
      case rel => exact ⟨i + 1, _, c5, rfl, by simp, by omega, hA5, N5, by rw [HS.out]; exact ho5, hbF⟩
    · go_wp2_with fail
      go_ret
      exact ⟨_, _, _, rfl, by omega, ho, hbw⟩
end Go.Proofs.Ytjpbmeonkfkgdaa
