/- prepare. -/
import Derived.Test.YtogbapdioccamaaE12
import Derived.Deep.RegionHeld3
namespace Go.Proofs.Ytogbapdioccamaa
open Go.RowKit

set_option maxRecDepth 100000 in
set_option maxHeartbeats 40000000 in
theorem prepare_any (A M : Option Addr) (n m c d : Nat) (xs : List It) (ms : List Int) (w : World) (ha : Sl w 6 itC A n xs) (hm : Sl w 1 intC M m ms) (hn : 0 < n ∧ n ≤ 4096) (hR : ∀ k, k < n → Right 31680 (gT xs k)) :
    Calls Try.prog 44 #[.slice A n c, .slice M m d] w fun e w' => ∃ g q, e = .returned (.pointer (some ⟨g, 0, none⟩)) ∧ Below w.heap.size w w' ∧ Par w' g q n m xs ms := by
  have hmk := fun w => mkI (n + 1) (by omega) w
  rw [show ((n + 1 : Nat) : Int) = (n : Int) + 1 from rfl] at hmk
  have hlen := ha.len
  have HL := Lib.hid hlen
  have hmem : ∀ x ∈ xs, Right 31680 x := fun x hx => by
    obtain ⟨i, hi, rfl⟩ := List.mem_iff_getElem.1 hx
    have h := hR i (by omega)
    have e : gT xs i = xs[i] := by have := gT_some hi; rw [List.getElem?_eq_getElem hi] at this; injection this with this; exact this.symm
    rw [e] at h
    exact h
  have SW : ∀ k, k ≤ n → 0 ≤ sumTo wOf xs k ∧ sumTo wOf xs k ≤ 200000000 := fun k hk => by
    have h := sumTo_bd (f := wOf) (l := xs) (M := 31680) (fun x hx => by have := (hmem x hx).w0; have := (hmem x hx).w1; unfold wOf; split <;> omega) (i := k) (by omega)
    omega
  have SY : ∀ k, k ≤ n → 0 ≤ sumTo (·.stretch) xs k ∧ sumTo (·.stretch) xs k ≤ 5000000000 := fun k hk => by
    have h := sumTo_bd (f := (·.stretch)) (l := xs) (M := 1048576) (fun x hx => ⟨(hmem x hx).y0, (hmem x hx).y1⟩) (i := k) (by omega)
    omega
  have SZ : ∀ k, k ≤ n → 0 ≤ sumTo (·.shrink) xs k ∧ sumTo (·.shrink) xs k ≤ 200000000 := fun k hk => by
    have h := sumTo_bd (f := (·.shrink)) (l := xs) (M := 31680) (fun x hx => ⟨(hmem x hx).z0, Int.le_trans (hmem x hx).z1 (hmem x hx).w1⟩) (i := k) (by omega)
    omega
  have SI : ∀ k, k < n → 0 ≤ wOf (gT xs k) ∧ wOf (gT xs k) ≤ 31680 := fun k hk => by
    have := (hR k hk).w0
    have := (hR k hk).w1
    unfold wOf
    split <;> omega
  clear hlen hmem
  go_enter Try.func44, Try.ntmps44
  go_upto_region 2 with fail
  go_cut [6] (fun v wx => ∃ g b1 b2 b3 b4, v = .pointer (some ⟨g, 0, none⟩) ∧ PW w wx A M n c m d g b1 b2 b3 b4 (zl (n + 1)) (zl (n + 1)) (zl (n + 1)) (zl (n + 1)))
  case first =>
    clear SW SY SZ SI hR ha hm HL
    go_region
    all_goals (go_wp2_with fail; go_meet)
    all_goals exact ⟨_, _, _, _, _, rfl, PW.new _ rfl ⟨by omega, by omega, by omega, by omega, by omega, by omega, by omega, by omega, by omega, by omega, by omega, by omega, by omega, by omega⟩ 1⟩
  case rest =>
    obtain ⟨g, b1, b2, b3, b4, rfl, H⟩ := hcut
    clear hmk
    have H2 : PW w wc A M n c m d g b1 b2 b3 b4 (preL wOf xs n 0) (preL (·.stretch) xs n 0) (preL (·.shrink) xs n 0) (zl (n + 1)) := by rw [← preL_zero, ← preL_zero, ← preL_zero]; exact H
    clear H
    go_wp2_with fail
    go_loopw [31] (fun vi wr => ∃ k : Nat, k ≤ n ∧ vi = .int .i64 k ∧ PW w wr A M n c m d g b1 b2 b3 b4 (preL wOf xs n k) (preL (·.stretch) xs n k) (preL (·.shrink) xs n k) (zl (n + 1))) (fun i _ => n - (intOf i).toNat)
    case atStart => exact ⟨0, Nat.zero_le _, rfl, H2⟩
    case round =>
      obtain ⟨k, hk, rfl, H⟩ := hrel
      clear H2
      by_cases hlt : k < n
      · obtain ⟨ad, rfl, hl, q0, q1, q2, q3, q4, q5⟩ := (ha.below H.bw).it hlt
        go_upto_if 40 with fail
        have HB1 : b1 < wr.heap.size := H.a1.lt
        have HB2 : b2 < wr.heap.size := H.a2.lt
        have HB3 : b3 < wr.heap.size := H.a3.lt
        have B1 := Blk.new wr 52 #[.int .i64 (gT xs k).kind, .int .i64 (gT xs k).width, .int .i64 (gT xs k).stretch, .int .i64 (gT xs k).shrink, .int .i64 (gT xs k).cost, .bool (gT xs k).flag]
        have H1 := H.below ((Below.refl _ wr).alloc (Nat.le_refl _) (.cells #[.int .i64 (gT xs k).kind, .int .i64 (gT xs k).width, .int .i64 (gT xs k).stretch, .int .i64 (gT xs k).shrink, .int .i64 (gT xs k).cost, .bool (gT xs k).flag] 52))
        clear H q0 q1 q2 q3 q4 q5
        generalize wr.alloc (.cells #[.int .i64 (gT xs k).kind, .int .i64 (gT xs k).width, .int .i64 (gT xs k).stretch, .int .i64 (gT xs k).shrink, .int .i64 (gT xs k).cost, .bool (gT xs k).flag] 52) = W at *
        go_cut [9] (fun v wx => v = .int .i64 (wOf (gT xs k)) ∧ wx = W)
        case first => as_aux_lemma =>
          by_cases h3 : (gT xs k).kind = 3
          · have HE := Lib.hid (show wOf (gT xs k) = 0 from if_pos h3)
            rw [h3]
            go_wp2_with fail
            go_meet
            case rel => exact ⟨by rw [HE.out], rfl⟩
          · have HE := Lib.hid (show wOf (gT xs k) = (gT xs k).width from if_neg h3)
            have h3' : ((gT xs k).kind == 3) = false := by simpa using h3
            go_wp2_with fail
            go_meet
            case rel => exact ⟨by rw [HE.out], rfl⟩
        case rest =>
          obtain ⟨rfl, rfl⟩ := hcut
          go_upto_region 9 with fail
          have hb1 := HB1
          have hb2 := HB2
          have hb3 := HB3
          have K1 := H1.set1 (k + 1) (sumTo wOf xs k + wOf (gT xs k))
          have K2 := K1.set2 (k + 1) (sumTo (·.stretch) xs k + (gT xs k).stretch)
          have K3 := K2.set3 (k + 1) (sumTo (·.shrink) xs k + (gT xs k).shrink)
          have C1 := B1.other (g' := b1) (by omega) (k + 1) (.int .i64 (sumTo wOf xs k + wOf (gT xs k)))
          have C2 := C1.other (g' := b2) (by omega) (k + 1) (.int .i64 (sumTo (·.stretch) xs k + (gT xs k).stretch))
          have C3 := C2.other (g' := b3) (by omega) (k + 1) (.int .i64 (sumTo (·.shrink) xs k + (gT xs k).shrink))
          have S0 : wc.cell? ⟨g, 2, none⟩ = some (.slice (some ⟨b1, 0, none⟩) (n + 1) (n + 1)) ∧ wc.cell? ⟨g, 3, none⟩ = some (.slice (some ⟨b2, 0, none⟩) (n + 1) (n + 1)) ∧ wc.cell? ⟨g, 4, none⟩ = some (.slice (some ⟨b3, 0, none⟩) (n + 1) (n + 1)) ∧ wc.cell? ⟨b1, k, none⟩ = some (.int .i64 (sumTo wOf xs k)) ∧ wc.cell? ⟨b2, k, none⟩ = some (.int .i64 (sumTo (·.stretch) xs k)) ∧ wc.cell? ⟨b3, k, none⟩ = some (.int .i64 (sumTo (·.shrink) xs k)) ∧ wc.cell? ⟨wr.heap.size, 2, none⟩ = some (.int .i64 (gT xs k).stretch) ∧ wc.cell? ⟨wr.heap.size, 3, none⟩ = some (.int .i64 (gT xs k).shrink) := ⟨H1.blk.cell 2 rfl, H1.blk.cell 3 rfl, H1.blk.cell 4 rfl, (H1.a1.cell (k := k) (by rw [H1.n1]; omega)).trans (by rw [preL_at hk]), (H1.a2.cell (k := k) (by rw [H1.n2]; omega)).trans (by rw [preL_at hk]), (H1.a3.cell (k := k) (by rw [H1.n3]; omega)).trans (by rw [preL_at hk]), B1.cell 2 rfl, B1.cell 3 rfl⟩
          have S1 : (wc.setCell ⟨b1, k + 1, none⟩ (.int .i64 (sumTo wOf xs k + wOf (gT xs k)))).cell? ⟨g, 2, none⟩ = some (.slice (some ⟨b1, 0, none⟩) (n + 1) (n + 1)) ∧ (wc.setCell ⟨b1, k + 1, none⟩ (.int .i64 (sumTo wOf xs k + wOf (gT xs k)))).cell? ⟨g, 3, none⟩ = some (.slice (some ⟨b2, 0, none⟩) (n + 1) (n + 1)) ∧ (wc.setCell ⟨b1, k + 1, none⟩ (.int .i64 (sumTo wOf xs k + wOf (gT xs k)))).cell? ⟨g, 4, none⟩ = some (.slice (some ⟨b3, 0, none⟩) (n + 1) (n + 1)) ∧ (wc.setCell ⟨b1, k + 1, none⟩ (.int .i64 (sumTo wOf xs k + wOf (gT xs k)))).cell? ⟨b1, k, none⟩ = some (.int .i64 (sumTo wOf xs k)) ∧ (wc.setCell ⟨b1, k + 1, none⟩ (.int .i64 (sumTo wOf xs k + wOf (gT xs k)))).cell? ⟨b2, k, none⟩ = some (.int .i64 (sumTo (·.stretch) xs k)) ∧ (wc.setCell ⟨b1, k + 1, none⟩ (.int .i64 (sumTo wOf xs k + wOf (gT xs k)))).cell? ⟨b3, k, none⟩ = some (.int .i64 (sumTo (·.shrink) xs k)) ∧ (wc.setCell ⟨b1, k + 1, none⟩ (.int .i64 (sumTo wOf xs k + wOf (gT xs k)))).cell? ⟨wr.heap.size, 2, none⟩ = some (.int .i64 (gT xs k).stretch) ∧ (wc.setCell ⟨b1, k + 1, none⟩ (.int .i64 (sumTo wOf xs k + wOf (gT xs k)))).cell? ⟨wr.heap.size, 3, none⟩ = some (.int .i64 (gT xs k).shrink) := ⟨K1.blk.cell 2 rfl, K1.blk.cell 3 rfl, K1.blk.cell 4 rfl, (K1.a1.cell (k := k) (by rw [K1.n1]; omega)).trans (by rw [gI_set _ (by rw [preL_len]; omega), if_neg (by omega), preL_at hk]), (K1.a2.cell (k := k) (by rw [K1.n2]; omega)).trans (by rw [preL_at hk]), (K1.a3.cell (k := k) (by rw [K1.n3]; omega)).trans (by rw [preL_at hk]), C1.cell 2 rfl, C1.cell 3 rfl⟩
          have S2 : ((wc.setCell ⟨b1, k + 1, none⟩ (.int .i64 (sumTo wOf xs k + wOf (gT xs k)))).setCell ⟨b2, k + 1, none⟩ (.int .i64 (sumTo (·.stretch) xs k + (gT xs k).stretch))).cell? ⟨g, 2, none⟩ = some (.slice (some ⟨b1, 0, none⟩) (n + 1) (n + 1)) ∧ ((wc.setCell ⟨b1, k + 1, none⟩ (.int .i64 (sumTo wOf xs k + wOf (gT xs k)))).setCell ⟨b2, k + 1, none⟩ (.int .i64 (sumTo (·.stretch) xs k + (gT xs k).stretch))).cell? ⟨g, 3, none⟩ = some (.slice (some ⟨b2, 0, none⟩) (n + 1) (n + 1)) ∧ ((wc.setCell ⟨b1, k + 1, none⟩ (.int .i64 (sumTo wOf xs k + wOf (gT xs k)))).setCell ⟨b2, k + 1, none⟩ (.int .i64 (sumTo (·.stretch) xs k + (gT xs k).stretch))).cell? ⟨g, 4, none⟩ = some (.slice (some ⟨b3, 0, none⟩) (n + 1) (n + 1)) ∧ ((wc.setCell ⟨b1, k + 1, none⟩ (.int .i64 (sumTo wOf xs k + wOf (gT xs k)))).setCell ⟨b2, k + 1, none⟩ (.int .i64 (sumTo (·.stretch) xs k + (gT xs k).stretch))).cell? ⟨b1, k, none⟩ = some (.int .i64 (sumTo wOf xs k)) ∧ ((wc.setCell ⟨b1, k + 1, none⟩ (.int .i64 (sumTo wOf xs k + wOf (gT xs k)))).setCell ⟨b2, k + 1, none⟩ (.int .i64 (sumTo (·.stretch) xs k + (gT xs k).stretch))).cell? ⟨b2, k, none⟩ = some (.int .i64 (sumTo (·.stretch) xs k)) ∧ ((wc.setCell ⟨b1, k + 1, none⟩ (.int .i64 (sumTo wOf xs k + wOf (gT xs k)))).setCell ⟨b2, k + 1, none⟩ (.int .i64 (sumTo (·.stretch) xs k + (gT xs k).stretch))).cell? ⟨b3, k, none⟩ = some (.int .i64 (sumTo (·.shrink) xs k)) ∧ ((wc.setCell ⟨b1, k + 1, none⟩ (.int .i64 (sumTo wOf xs k + wOf (gT xs k)))).setCell ⟨b2, k + 1, none⟩ (.int .i64 (sumTo (·.stretch) xs k + (gT xs k).stretch))).cell? ⟨wr.heap.size, 2, none⟩ = some (.int .i64 (gT xs k).stretch) ∧ ((wc.setCell ⟨b1, k + 1, none⟩ (.int .i64 (sumTo wOf xs k + wOf (gT xs k)))).setCell ⟨b2, k + 1, none⟩ (.int .i64 (sumTo (·.stretch) xs k + (gT xs k).stretch))).cell? ⟨wr.heap.size, 3, none⟩ = some (.int .i64 (gT xs k).shrink) := ⟨K2.blk.cell 2 rfl, K2.blk.cell 3 rfl, K2.blk.cell 4 rfl, (K2.a1.cell (k := k) (by rw [K2.n1]; omega)).trans (by rw [gI_set _ (by rw [preL_len]; omega), if_neg (by omega), preL_at hk]), (K2.a2.cell (k := k) (by rw [K2.n2]; omega)).trans (by rw [gI_set _ (by rw [preL_len]; omega), if_neg (by omega), preL_at hk]), (K2.a3.cell (k := k) (by rw [K2.n3]; omega)).trans (by rw [preL_at hk]), C2.cell 2 rfl, C2.cell 3 rfl⟩
          have S3 : (((wc.setCell ⟨b1, k + 1, none⟩ (.int .i64 (sumTo wOf xs k + wOf (gT xs k)))).setCell ⟨b2, k + 1, none⟩ (.int .i64 (sumTo (·.stretch) xs k + (gT xs k).stretch))).setCell ⟨b3, k + 1, none⟩ (.int .i64 (sumTo (·.shrink) xs k + (gT xs k).shrink))).cell? ⟨g, 2, none⟩ = some (.slice (some ⟨b1, 0, none⟩) (n + 1) (n + 1)) ∧ (((wc.setCell ⟨b1, k + 1, none⟩ (.int .i64 (sumTo wOf xs k + wOf (gT xs k)))).setCell ⟨b2, k + 1, none⟩ (.int .i64 (sumTo (·.stretch) xs k + (gT xs k).stretch))).setCell ⟨b3, k + 1, none⟩ (.int .i64 (sumTo (·.shrink) xs k + (gT xs k).shrink))).cell? ⟨g, 3, none⟩ = some (.slice (some ⟨b2, 0, none⟩) (n + 1) (n + 1)) ∧ (((wc.setCell ⟨b1, k + 1, none⟩ (.int .i64 (sumTo wOf xs k + wOf (gT xs k)))).setCell ⟨b2, k + 1, none⟩ (.int .i64 (sumTo (·.stretch) xs k + (gT xs k).stretch))).setCell ⟨b3, k + 1, none⟩ (.int .i64 (sumTo (·.shrink) xs k + (gT xs k).shrink))).cell? ⟨g, 4, none⟩ = some (.slice (some ⟨b3, 0, none⟩) (n + 1) (n + 1)) ∧ (((wc.setCell ⟨b1, k + 1, none⟩ (.int .i64 (sumTo wOf xs k + wOf (gT xs k)))).setCell ⟨b2, k + 1, none⟩ (.int .i64 (sumTo (·.stretch) xs k + (gT xs k).stretch))).setCell ⟨b3, k + 1, none⟩ (.int .i64 (sumTo (·.shrink) xs k + (gT xs k).shrink))).cell? ⟨b1, k, none⟩ = some (.int .i64 (sumTo wOf xs k)) ∧ (((wc.setCell ⟨b1, k + 1, none⟩ (.int .i64 (sumTo wOf xs k + wOf (gT xs k)))).setCell ⟨b2, k + 1, none⟩ (.int .i64 (sumTo (·.stretch) xs k + (gT xs k).stretch))).setCell ⟨b3, k + 1, none⟩ (.int .i64 (sumTo (·.shrink) xs k + (gT xs k).shrink))).cell? ⟨b2, k, none⟩ = some (.int .i64 (sumTo (·.stretch) xs k)) ∧ (((wc.setCell ⟨b1, k + 1, none⟩ (.int .i64 (sumTo wOf xs k + wOf (gT xs k)))).setCell ⟨b2, k + 1, none⟩ (.int .i64 (sumTo (·.stretch) xs k + (gT xs k).stretch))).setCell ⟨b3, k + 1, none⟩ (.int .i64 (sumTo (·.shrink) xs k + (gT xs k).shrink))).cell? ⟨b3, k, none⟩ = some (.int .i64 (sumTo (·.shrink) xs k)) ∧ (((wc.setCell ⟨b1, k + 1, none⟩ (.int .i64 (sumTo wOf xs k + wOf (gT xs k)))).setCell ⟨b2, k + 1, none⟩ (.int .i64 (sumTo (·.stretch) xs k + (gT xs k).stretch))).setCell ⟨b3, k + 1, none⟩ (.int .i64 (sumTo (·.shrink) xs k + (gT xs k).shrink))).cell? ⟨wr.heap.size, 2, none⟩ = some (.int .i64 (gT xs k).stretch) ∧ (((wc.setCell ⟨b1, k + 1, none⟩ (.int .i64 (sumTo wOf xs k + wOf (gT xs k)))).setCell ⟨b2, k + 1, none⟩ (.int .i64 (sumTo (·.stretch) xs k + (gT xs k).stretch))).setCell ⟨b3, k + 1, none⟩ (.int .i64 (sumTo (·.shrink) xs k + (gT xs k).shrink))).cell? ⟨wr.heap.size, 3, none⟩ = some (.int .i64 (gT xs k).shrink) := ⟨K3.blk.cell 2 rfl, K3.blk.cell 3 rfl, K3.blk.cell 4 rfl, (K3.a1.cell (k := k) (by rw [K3.n1]; omega)).trans (by rw [gI_set _ (by rw [preL_len]; omega), if_neg (by omega), preL_at hk]), (K3.a2.cell (k := k) (by rw [K3.n2]; omega)).trans (by rw [gI_set _ (by rw [preL_len]; omega), if_neg (by omega), preL_at hk]), (K3.a3.cell (k := k) (by rw [K3.n3]; omega)).trans (by rw [gI_set _ (by rw [preL_len]; omega), if_neg (by omega), preL_at hk]), C3.cell 2 rfl, C3.cell 3 rfl⟩
          have s1 := H1.a1.cell (k := k + 1) (by rw [H1.n1]; omega)
          have s2 := K1.a2.cell (k := k + 1) (by rw [K1.n2]; omega)
          have s3 := K2.a3.cell (k := k + 1) (by rw [K2.n3]; omega)
          have f1 := H1.a1.frozen (k + 1)
          have f2 := K1.a2.frozen (k + 1)
          have f3 := K2.a3.frozen (k + 1)
          rw [preL_set hlt rfl, preL_set hlt rfl, preL_set hlt rfl] at K3
          have HK := Lib.hid K3
          have HS0 := Lib.hid S0
          have HS1 := Lib.hid S1
          have HS2 := Lib.hid S2
          have HS3 := Lib.hid S3
          clear K1 K2 K3 B1 H1 C1 C2 C3 hb1 hb2 hb3 HB1 HB2 HB3
          obtain ⟨c2, c3, c4, r1, r2, r3, i2, i3⟩ := S0
          clear S1 S2 S3
          obtain ⟨w1, w2⟩ := SW k hk
          obtain ⟨y1, y2⟩ := SY k hk
          obtain ⟨z1, z2⟩ := SZ k hk
          obtain ⟨w3, w4⟩ := SI k hlt
          have y3 := (hR k hlt).y0
          have y4 := (hR k hlt).y1
          have z3 := (hR k hlt).z0
          have z4 := (hR k hlt).z1
          have z5 := (hR k hlt).w1
          clear SW SY SZ SI hR
          generalize gT xs k = it at *
          generalize sumTo wOf xs k = e1 at *
          generalize sumTo (·.stretch) xs k = e2 at *
          generalize sumTo (·.shrink) xs k = e3 at *
          generalize wOf it = e4 at *
          have n1 : (0 : Int) ≤ (k : Int) := by omega
          have n2 : (k : Int) < ((n + 1 : Nat) : Int) := by omega
          have n3 : (k : Int) + 1 < ((n + 1 : Nat) : Int) := by omega
          have n4 : (0 : Int) ≤ (k : Int) + 1 := by omega
          have n5 : (k : Int) < (n : Int) + 1 := by omega
          have n6 : IntKind.i64.wrap ((k : Int) + 1) = (k : Int) + 1 := by rw [IntKind.wrap_i64]; omega
          have n7 : IntKind.i64.wrap (e1 + e4) = e1 + e4 := by rw [IntKind.wrap_i64]; omega
          have n8 : IntKind.i64.wrap (e2 + it.stretch) = e2 + it.stretch := by rw [IntKind.wrap_i64]; omega
          have n9 : IntKind.i64.wrap (e3 + it.shrink) = e3 + it.shrink := by rw [IntKind.wrap_i64]; omega
          -- SLOW{
          go_region_held3 (fun w' => w'.cell? ⟨g, 2, none⟩ = some (.slice (some ⟨b1, 0, none⟩) (n + 1) (n + 1)) ∧ w'.cell? ⟨g, 3, none⟩ = some (.slice (some ⟨b2, 0, none⟩) (n + 1) (n + 1)) ∧ w'.cell? ⟨g, 4, none⟩ = some (.slice (some ⟨b3, 0, none⟩) (n + 1) (n + 1)) ∧ w'.cell? ⟨b1, k, none⟩ = some (.int .i64 e1) ∧ w'.cell? ⟨b2, k, none⟩ = some (.int .i64 e2) ∧ w'.cell? ⟨b3, k, none⟩ = some (.int .i64 e3) ∧ w'.cell? ⟨wr.heap.size, 2, none⟩ = some (.int .i64 it.stretch) ∧ w'.cell? ⟨wr.heap.size, 3, none⟩ = some (.int .i64 it.shrink)) (first | exact HS0.out | exact HS1.out | exact HS2.out | exact HS3.out) (fail)
          all_goals go_wp2_with fail
          all_goals go_roundw
          case rel => exact ⟨k + 1, by omega, by go_num, HK.out.drewN 1⟩
          case measure => simp [intOf]; omega
          -- SLOW}
      · have hkn : k = n := by omega
        subst hkn
        clear SW SY SZ SI hR hlt
        go_upto_region 11 with fail
        go_cut [] (fun wx => PW w wx A M k c m d g b1 b2 b3 b4 (preL wOf xs k k) (preL (·.stretch) xs k k) (preL (·.shrink) xs k k) (posL xs k k))
        case first => as_aux_lemma =>
          have c5 : wr.cell? ⟨g, 5, none⟩ = some (.slice (some ⟨b4, 0, none⟩) (k + 1) (k + 1)) := H.blk.cell 5 rfl
          have s1 := H.a4.cell (k := k) (by rw [H.n4]; omega)
          have f1 := H.a4.frozen k
          have K1 := H.set4 k (k : Int)
          rw [posL_first xs HL.out] at K1
          have HK := Lib.hid K1
          clear H K1
          go_wp2_with fail
          go_meet
          case rel => exact HK.out
        case rest =>
          have K := hcut
          clear H hcut
          have hpar := fun (wx : World) (h : PW w wx A M k c m d g b1 b2 b3 b4 (preL wOf xs k k) (preL (·.stretch) xs k k) (preL (·.shrink) xs k k) (posL xs k 0)) => h.par ha hm
          go_wp2_with fail
          go_loopw [10] (fun vi wx => ∃ i : Nat, i ≤ k ∧ vi = .int .i64 ((i : Int) - 1) ∧ PW w wx A M k c m d g b1 b2 b3 b4 (preL wOf xs k k) (preL (·.stretch) xs k k) (preL (·.shrink) xs k k) (posL xs k i)) (fun v _ => (intOf v + 1).toNat)
          case atStart => exact ⟨k, Nat.le_refl _, rfl, K⟩
          case round =>
            obtain ⟨i, hi, rfl, H⟩ := hrel
            clear K
            rcases i with _ | i
            · go_wp2_with fail
              go_ret
              exact ⟨g, _, rfl, H.bw, hpar _ H⟩
            · rw [show ((i + 1 : Nat) : Int) - 1 = (i : Int) by omega]
              have hik : i < k := by omega
              go_upto_region 15 with fail
              go_cut [] (fun wx => PW w wx A M k c m d g b1 b2 b3 b4 (preL wOf xs k k) (preL (·.stretch) xs k k) (preL (·.shrink) xs k k) ((posL xs k (i + 1)).set i (start xs (i + 1) : Nat)))
              case first => as_aux_lemma =>
                have c5 : wr.cell? ⟨g, 5, none⟩ = some (.slice (some ⟨b4, 0, none⟩) (k + 1) (k + 1)) := H.blk.cell 5 rfl
                have s1 := H.a4.cell (k := i) (by rw [H.n4]; omega)
                have r1 := H.a4.cell (k := i + 1) (by rw [H.n4]; omega)
                rw [posL_at hi] at r1
                have f1 := H.a4.frozen i
                have K1 := H.set4 i (start xs (i + 1) : Nat)
                have HK := Lib.hid K1
                clear H K1
                go_region
                all_goals go_wp2_with fail
                all_goals go_meet
                all_goals exact HK.out.drewN 1
              case rest =>
                have H2 := hcut
                clear hcut H
                obtain ⟨ad, rfl, hl, q0, q1, q2, q3, q4, q5⟩ := (ha.below H2.bw).it hik
                have hst := start_lt (xs := xs) (k := i) (by rw [HL.out]; exact hik)
                have hp := posL_set (xs := xs) (n := k) (k := i) hik
                by_cases h1 : (gT xs i).kind = 1
                · rw [if_pos (.inl h1)] at hst
                  rw [h1] at q0
                  have c5 : wc.cell? ⟨g, 5, none⟩ = some (.slice (some ⟨b4, 0, none⟩) (k + 1) (k + 1)) := H2.blk.cell 5 rfl
                  have s1 := H2.a4.cell (k := i) (by rw [H2.n4]; omega)
                  have f1 := H2.a4.frozen i
                  have K1 := H2.set4 i (i : Int)
                  rw [List.set_set] at K1
                  rw [hst] at hp
                  rw [hp] at K1
                  have HK := Lib.hid K1
                  clear H2 K1 hst hp
                  as_aux_lemma =>
                    go_wp2_with fail
                    go_roundw
                    case rel => exact ⟨i, by omega, by go_num, HK.out⟩
                    case measure => simp [intOf]
                · have h1' : ((gT xs i).kind == 1) = false := by simpa using h1
                  have cf := forced_any (gT xs i)
                  by_cases h2 : (gT xs i).kind = 3 ∧ (gT xs i).cost = -10000
                  · have hf : forcedI (gT xs i) = true := by unfold forcedI; rw [h2.1, h2.2]; rfl
                    rw [if_pos (.inr hf)] at hst
                    rw [decide_eq_true h2] at cf
                    rw [hst] at hp
                    have HP := Lib.hid hp
                    clear hst hp hf h2 h1
                    as_aux_lemma =>
                      go_wp2_with (first | (go_at_call 38; refine (cf _).mono ?_; rintro e w3 ⟨rfl, hb3⟩; have H3 := H2.below hb3; have c5 : w3.cell? ⟨g, 5, none⟩ = some (.slice (some ⟨b4, 0, none⟩) (k + 1) (k + 1)) := H3.blk.cell 5 rfl; have s1 := H3.a4.cell (k := i) (by rw [H3.n4]; omega); have f1 := H3.a4.frozen i))
                      go_roundw
                      case rel =>
                        have K1 := H3.set4 i (i : Int)
                        rw [List.set_set, HP.out] at K1
                        exact ⟨i, by omega, by go_num, K1⟩
                      case measure => simp [intOf]
                  · have hf : ¬ forcedI (gT xs i) = true := by
                      unfold forcedI
                      intro h
                      simp only [Bool.and_eq_true, beq_iff_eq] at h
                      exact h2 h
                    rw [if_neg (by rintro (h | h); exact h1 h; exact hf h)] at hst
                    rw [decide_eq_false h2] at cf
                    rw [hst] at hp
                    rw [hp] at H2
                    clear hst hp hf h2 h1
                    as_aux_lemma =>
                      go_wp2_with (first | (go_at_call 38; refine (cf _).mono ?_; rintro e w3 ⟨rfl, hb3⟩))
                      go_roundw
                      case rel => exact ⟨i, by omega, by go_num, H2.below hb3⟩
                      case measure => simp [intOf]
end Go.Proofs.Ytogbapdioccamaa
