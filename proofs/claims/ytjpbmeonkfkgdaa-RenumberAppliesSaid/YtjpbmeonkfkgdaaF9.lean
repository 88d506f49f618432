/- IndexFunc, ContainsFunc of bytes with Parse$1. -/
import Derived.Test.YtjpbmeonkfkgdaaF2
import Derived.Test.YtjpbmeonkfkgdaaF3
import Derived.Lib.ConvBytes
namespace Go.Proofs.Ytjpbmeonkfkgdaa
open Go.RowKit

theorem Sl.byte {w : World} {A : Option Addr} {n : Nat} {xs : List Int} (h : Sl w 1 byteC A n xs) {k : Nat} (hk : k < n) :
    ∃ ad, A = some ad ∧ ad.block < w.heap.size ∧ w.cell? (ad.add k) = some (.int .u8 (gI xs k)) := by
  obtain ⟨ad, e, hl, hc⟩ := h.rd (by omega)
  refine ⟨ad, e, hl, ?_⟩
  have := hc k _ (gI_some (by rw [h.len]; exact hk)) 0 _ (show (byteC (gI xs k))[0]? = some _ from rfl)
  simpa using this
theorem gI_lu (l : List UInt8) {k : Nat} (h : k < l.length) : gI (lu l) k = ((l[k]).toNat : Int) := by
  unfold gI lu
  rw [List.getD_eq_getElem?_getD, List.getElem?_map, List.getElem?_eq_getElem h]
  rfl
theorem ctl_any (b : UInt8) (w : World) : Calls Try.prog 31 #[.int .u8 (b.toNat : Int)] w fun e w' => e = .returned (.bool (ctlB b)) ∧ w' = w := by
  have h : ctlB b = (decide ((b.toNat : Int) < 32) || decide ((b.toNat : Int) = 127)) := rfl
  have hb := b.toNat_lt
  have H := Lib.hid h
  clear h
  generalize hc : (b.toNat : Int) = c at *
  by_cases h1 : c < 32
  · go_enter Try.func31, Try.ntmps31
    go_wp2_with fail
    go_ret
    refine ⟨ret_bool ?_, rfl⟩
    rw [H.out]
    simp [h1]
  · by_cases h2 : c = 127
    · subst h2
      go_enter Try.func31, Try.ntmps31
      go_wp2_with fail
      go_ret
      refine ⟨ret_bool ?_, rfl⟩
      rw [H.out]
      simp
    · go_enter Try.func31, Try.ntmps31
      go_wp2_with fail
      go_ret
      refine ⟨ret_bool ?_, rfl⟩
      rw [H.out, decide_eq_false (show ¬ c < 32 by omega), decide_eq_false h2]
      exact beq_eq_false_iff_ne.2 h2
theorem any_take_succ {α : Type} (p : α → Bool) (l : List α) {i : Nat} (h : i < l.length) : (l.take (i + 1)).any p = ((l.take i).any p || p l[i]) := by
  rw [List.take_succ_eq_append_getElem h, List.any_append, List.any_cons, List.any_nil, Bool.or_false]
theorem any_at {α : Type} (p : α → Bool) (l : List α) {i : Nat} (h : i < l.length) (hp : p l[i] = true) : l.any p = true := List.any_eq_true.2 ⟨_, List.getElem_mem h, hp⟩
set_option maxHeartbeats 2000000 in
set_option maxRecDepth 100000 in
theorem index_bytes (A : Option Addr) (n c : Nat) (l : List UInt8) (w : World) (ha : Sl w 1 byteC A n (lu l)) (hn : n ≤ 4096) :
    Calls Try.prog 35 #[.slice A n c, .func (Fn.func 31) #[] #[]] w fun e w' => ∃ i : Int, e = .returned (.int .i64 i) ∧ decide (0 ≤ i) = l.any ctlB ∧ ∃ q, w' = w.drewN q := by
  have hl := ha.len
  rw [lu_len] at hl
  go_enter Try.func35, Try.ntmps35
  go_wp2_with fail
  go_loopw [8] (fun vi wr => ∃ i q : Nat, vi = .int .i64 i ∧ i ≤ n ∧ (l.take i).any ctlB = false ∧ wr = w.drewN q) (fun vi _ => n - (intOf vi).toNat)
  case atStart => exact ⟨0, 0, rfl, Nat.zero_le _, rfl, rfl⟩
  case round =>
    obtain ⟨i, q, rfl, hi, ht, rfl⟩ := hrel
    by_cases hlt : i < n
    · obtain ⟨ad, rfl, hl2, k0⟩ := (ha.drewN q).byte hlt
      rw [gI_lu l (by omega)] at k0
      have hcb := ctl_any (l[i]'(by omega)) (w.drewN q)
      have T := Lib.hid (any_take_succ ctlB l (i := i) (by omega))
      have AT := Lib.hid (any_at ctlB l (i := i) (by omega))
      have HT := Lib.hid ht
      clear ht
      generalize hb : l[i]'(by omega) = b at *
      cases hp : ctlB b
      · rw [hp] at hcb
        have HP := Lib.hid hp
        clear hp hb
        generalize (b.toNat : Int) = c at *
        go_wp2_with (go_at_call 31; refine hcb.mono ?_; rintro e w' ⟨rfl, rfl⟩)
        go_roundw
        case measure => rw [intOf, intOf]; omega
        case rel => exact ⟨i + 1, _, by simp, by omega, by rw [T.out, HT.out, HP.out]; rfl, rfl⟩
      · rw [hp] at hcb
        have HP := Lib.hid hp
        clear hp hb
        generalize (b.toNat : Int) = c at *
        go_wp2_with (go_at_call 31; refine hcb.mono ?_; rintro e w' ⟨rfl, rfl⟩)
        go_ret
        exact ⟨_, rfl, by rw [AT.out HP.out]; simp, _, rfl⟩
    · have : i = n := by omega
      subst this
      have HT := Lib.hid (show l.any ctlB = false by rw [List.take_of_length_le (by omega)] at ht; exact ht)
      clear ht
      go_wp2_with fail
      go_ret
      exact ⟨_, rfl, by rw [HT.out]; rfl, _, rfl⟩
set_option maxHeartbeats 1000000 in
theorem contains_bytes (A : Option Addr) (n c : Nat) (l : List UInt8) (w : World) (ha : Sl w 1 byteC A n (lu l)) (hn : n ≤ 4096) :
    Calls Try.prog 30 #[.slice A n c, .func (Fn.func 31) #[] #[]] w fun e w' => e = .returned (.bool (l.any ctlB)) ∧ ∃ q, w' = w.drewN q := by
  go_enter Try.func30, Try.ntmps30
  go_wp2_with (go_at_call 35; refine (index_bytes A n c l w ha hn).mono ?_; rintro e w' ⟨i, rfl, hi, q, rfl⟩; have HI := Lib.hid hi; clear hi)
  go_ret
  exact ⟨ret_bool (by rw [← HI.out]), _, rfl⟩
theorem sl_bytesWorld (w : World) (s : ByteArray) : Sl (Lib.bytesWorld w 5 s) 1 byteC (some ⟨w.heap.size, 0, none⟩) s.size (lu s.data.toList) := by
  refine ⟨by rw [lu_len]; simp, fun _ => ⟨_, rfl, by rw [Lib.bytesWorld_size]; exact Nat.lt_succ_self _, fun i x hx j u hu => ?_⟩⟩
  have hi : i < s.size := by
    have := (List.getElem?_eq_some_iff.1 hx).1
    rw [lu_len] at this
    simpa using this
  have hx2 : x = gI (lu s.data.toList) i := by
    have := gI_some (xs := lu s.data.toList) (k := i) (by rw [lu_len]; simpa using hi)
    rw [hx] at this
    injection this
  subst hx2
  cases j with
  | succ j => simp [byteC] at hu
  | zero =>
    have hu2 : u = .int .u8 (gI (lu s.data.toList) i) := by simpa [byteC] using hu.symm
    subst hu2
    have := Lib.bytesWorld_cell w 5 s i hi
    have e : (⟨w.heap.size, 0, none⟩ : Addr).add (i * 1 + 0) = ⟨w.heap.size, i, none⟩ := by
      unfold Addr.add
      by_cases h0 : i = 0
      · subst h0; rfl
      · simp [h0]
    rw [e, this, gI_lu _ (by simpa using hi)]
    simp [List.getD_eq_getElem?_getD, hi]
end Go.Proofs.Ytjpbmeonkfkgdaa
