/- codepoint.First, Valid, Points, IsPoint, encode, Make. -/
import Derived.Test.YtbeollddmglkcaaC1
namespace Go.Proofs.Ytbeollddmglkcaa
open Go.RowKit

theorem elemI : Elem Try.prog 40 3 1 8 := Elem.mk Try.underlying40 (z := .int .i64 0) (by kernel_rfl) rfl (by omega)
theorem elemB : Elem Try.prog 56 5 1 1 := Elem.mk Try.underlying56 (z := .int .u8 0) (by kernel_rfl) rfl (by omega)

set_option maxHeartbeats 1000000 in
theorem first_any (s : ByteArray) (w : World) (hs : s.size ≤ maxLen) :
    Calls Try.prog 35 #[.string s] w fun e w' => e = .returned (.int .i64 (firstF (s.size + 1) 0 (byts s))) ∧ w = w' := by
  unfold maxLen at hs
  go_enter Try.func35, Try.ntmps35
  go_wp2_with fail
  go_loopw [3] (fun vi wr => ∃ (k f : Nat), k ≤ s.size ∧ s.size - k < f ∧ vi = .int .i64 k ∧ firstF f k ((byts s).drop k) = firstF (s.size + 1) 0 (byts s) ∧ w = wr) (fun i _ => s.size - (intOf i).toNat)
  case atStart => exact ⟨0, s.size + 1, Nat.zero_le _, by omega, rfl, rfl, rfl⟩
  case round =>
    obtain ⟨k, f, hk, hf, rfl, hr, rfl⟩ := hrel
    obtain ⟨f, rfl⟩ : ∃ f', f = f' + 1 := ⟨f - 1, by omega⟩
    by_cases hlt : k < s.size
    · have hd := byts_drop s k hlt
      rw [hd, firstF, ← hd] at hr
      have hsz := decF_sz ((byts s).drop k)
      have hbl := byts_len s
      rw [List.length_drop, hbl] at hsz
      have hdc := decode_any s k w hlt (by unfold maxLen; omega)
      obtain ⟨d, hdd⟩ : ∃ d, d = decF ((byts s).drop k) := ⟨_, rfl⟩
      rw [← hdd] at hr hsz hdc
      obtain ⟨p, z, ok⟩ := d
      clear hdd hd hbl
      cases ok
      · have HR := Lib.hid hr
        have HDC := Lib.hid hdc
        clear hr hdc hsz
        go_wp2_with (go_at_call 38; refine (HDC.out).mono ?_; rintro e w1 ⟨rfl, rfl⟩)
        go_ret
        exact ⟨ret_int HR.out, rfl⟩
      · obtain ⟨z1, z2, z3⟩ := hsz rfl
        have HR := Lib.hid hr
        have HDC := Lib.hid hdc
        simp only at z1 z2 z3
        clear hr hdc hsz
        go_wp2_with (go_at_call 38; refine (HDC.out).mono ?_; rintro e w1 ⟨rfl, rfl⟩)
        go_roundw
        case rel => exact ⟨k + z, f, by omega, by omega, by go_num, by have h := HR.out; rw [List.drop_drop] at h; simpa using h, by first | rfl | trivial⟩
        case measure => simp [intOf]; omega
    · have : k = s.size := by omega
      subst this
      rw [List.drop_eq_nil_of_le (by rw [byts_len]; omega), firstF] at hr
      have HR := Lib.hid hr
      clear hr
      go_wp2_with fail
      go_ret
      exact ⟨ret_int HR.out, rfl⟩

theorem valid_any (s : ByteArray) (w : World) (hs : s.size ≤ maxLen) :
    Calls Try.prog 28 #[.string s] w fun e w' => e = .returned (.bool (ptsO (byts s)).isSome) ∧ w = w' := by
  have hn := firstF_neg (s.size + 1) 0 (byts s) (by rw [byts_len]; omega)
  by_cases hv : (ptsO (byts s)).isSome = true
  · have h := hn.2 hv
    have HV := Lib.hid hv
    clear hn hv
    go_enter Try.func28, Try.ntmps28
    go_wp2_with (go_at_call 35; refine (first_any s w hs).mono ?_; rintro e w1 ⟨rfl, rfl⟩)
    go_ret
    exact ⟨ret_bool (by rw [HV.out]), rfl⟩
  · have h : ¬ firstF (s.size + 1) 0 (byts s) < 0 := fun h => hv (hn.1 h)
    have hv : (ptsO (byts s)).isSome = false := by simpa using hv
    have HV := Lib.hid hv
    clear hn hv
    go_enter Try.func28, Try.ntmps28
    go_wp2_with (go_at_call 35; refine (first_any s w hs).mono ?_; rintro e w1 ⟨rfl, rfl⟩)
    go_ret
    exact ⟨ret_bool (by rw [HV.out, decide_eq_false_iff_not]; omega), rfl⟩

set_option maxHeartbeats 1000000 in
theorem points_bad (s : ByteArray) (w : World) (hs : s.size ≤ 65536) (h : ptsO (byts s) = none) :
    Calls Try.prog 33 #[.string s] w fun e w' => e = .returned (.tuple #[.slice none 0 0, .int .i64 12]) ∧ Below w.heap.size w w' := by
  go_enter Try.func33, Try.ntmps33
  have H := Lib.hid h
  clear h
  go_wp2_with fail
  go_loopw [2, 4] (fun vo vi wr => ∃ (k : Nat) (acc : List Int) (A1 : Option Addr) (c1 : Nat), k ≤ s.size ∧ acc.length ≤ k ∧ vi = .int .i64 k ∧ vo = .slice A1 acc.length c1 ∧ Own wr w.heap.size 3 1 intC A1 acc.length c1 acc ∧ ptsO ((byts s).drop k) = none ∧ Below w.heap.size w wr) (fun _ i _ => s.size - (intOf i).toNat)
  case atStart => exact ⟨0, [], none, 0, Nat.zero_le _, Nat.le_refl _, rfl, rfl, Own.nil_ _ _ _ _ _, by rw [List.drop_zero, H.out], Below.refl _ _⟩
  case round =>
    obtain ⟨k, acc, A1, c1, hk, hak, rfl, rfl, ho, hr, hbw⟩ := hrel
    by_cases hlt : k < s.size
    · have hd := byts_drop s k hlt
      rw [hd, ptsO_cons, ← hd] at hr
      have hsz := decF_sz ((byts s).drop k)
      have hbl := byts_len s
      rw [List.length_drop, hbl] at hsz
      have hdc := decode_any s k wr hlt (by unfold maxLen; omega)
      obtain ⟨d, hdd⟩ : ∃ d, d = decF ((byts s).drop k) := ⟨_, rfl⟩
      rw [← hdd] at hr hsz hdc
      obtain ⟨p, z, ok⟩ := d
      clear hdd hd hbl
      cases ok
      · have HDC := Lib.hid hdc
        clear hr hdc hsz
        go_wp2_with (go_at_call 38; refine (HDC.out).mono ?_; rintro e w1 ⟨rfl, rfl⟩)
        go_ret2
        exact ⟨rfl, hbw⟩
      · obtain ⟨z1, z2, z3⟩ := hsz rfl
        rw [if_pos rfl] at hr
        have HR := Lib.hid hr
        have HDC := Lib.hid hdc
        simp only at z1 z2 z3
        clear hr hdc hsz
        go_wp2_with (first
          | (go_at_call 38; refine (HDC.out).mono ?_; rintro e w1 ⟨rfl, rfl⟩)
          | (at_builtin; refine wpList_push elemI rfl (.tmp 21) (.tmp 23) rfl rfl _ rfl (ho.alloc _) p _ rfl rfl (intC_one _) rfl (by unfold maxLen; omega) (Nat.le_trans hbw.size (by simp)) ?_; intro A1' c1' w1 ho2 hg2 ha2))
        go_roundw
        case rel =>
          refine ⟨k + z, acc ++ [p], A1', c1', by omega, by simp; omega, by go_num, by simp, by simpa using ho2, ?_, (hbw.alloc hbw.size _).grown hg2 (Nat.le_trans hbw.size (by simp)) (fun g hg => (ho.lt g hg).1)⟩
          have h := HR.out
          rw [List.drop_drop] at h
          simpa using h
        case measure => simp [intOf]; omega
    · have : k = s.size := by omega
      subst this
      rw [List.drop_eq_nil_of_le (by rw [byts_len]; omega)] at hr
      cases hr

set_option maxHeartbeats 1000000 in
theorem points_any (s : ByteArray) (ps : List Int) (w : World) (hs : s.size ≤ 65536) (h : ptsO (byts s) = some ps) :
    Calls Try.prog 33 #[.string s] w fun e w' => ∃ A' c', e = .returned (.tuple #[.slice A' ps.length c', .int .i64 0]) ∧ Own w' w.heap.size 3 1 intC A' ps.length c' ps ∧ Below w.heap.size w w' := by
  go_enter Try.func33, Try.ntmps33
  have H := Lib.hid h
  clear h
  go_wp2_with fail
  go_loopw [2, 4] (fun vo vi wr => ∃ (k : Nat) (acc : List Int) (A1 : Option Addr) (c1 : Nat), k ≤ s.size ∧ acc.length ≤ k ∧ vi = .int .i64 k ∧ vo = .slice A1 acc.length c1 ∧ Own wr w.heap.size 3 1 intC A1 acc.length c1 acc ∧ (ptsO ((byts s).drop k)).map (acc ++ ·) = some ps ∧ Below w.heap.size w wr) (fun _ i _ => s.size - (intOf i).toNat)
  case atStart => exact ⟨0, [], none, 0, Nat.zero_le _, Nat.le_refl _, rfl, rfl, Own.nil_ _ _ _ _ _, by rw [List.drop_zero, H.out]; simp, Below.refl _ _⟩
  case round =>
    obtain ⟨k, acc, A1, c1, hk, hak, rfl, rfl, ho, hr, hbw⟩ := hrel
    by_cases hlt : k < s.size
    · have hd := byts_drop s k hlt
      rw [hd, ptsO_cons, ← hd] at hr
      have hsz := decF_sz ((byts s).drop k)
      have hbl := byts_len s
      rw [List.length_drop, hbl] at hsz
      have hdc := decode_any s k wr hlt (by unfold maxLen; omega)
      obtain ⟨d, hdd⟩ : ∃ d, d = decF ((byts s).drop k) := ⟨_, rfl⟩
      rw [← hdd] at hr hsz hdc
      obtain ⟨p, z, ok⟩ := d
      clear hdd hd hbl
      cases ok
      · rw [if_neg (by simp)] at hr
        cases hr
      · obtain ⟨z1, z2, z3⟩ := hsz rfl
        rw [if_pos rfl] at hr
        have HR := Lib.hid hr
        have HDC := Lib.hid hdc
        simp only at z1 z2 z3
        clear hr hdc hsz
        go_wp2_with (first
          | (go_at_call 38; refine (HDC.out).mono ?_; rintro e w1 ⟨rfl, rfl⟩)
          | (at_builtin; refine wpList_push elemI rfl (.tmp 21) (.tmp 23) rfl rfl _ rfl (ho.alloc _) p _ rfl rfl (intC_one _) rfl (by unfold maxLen; omega) (Nat.le_trans hbw.size (by simp)) ?_; intro A1' c1' w1 ho2 hg2 ha2))
        go_roundw
        case rel =>
          refine ⟨k + z, acc ++ [p], A1', c1', by omega, by simp; omega, by go_num, by simp, by simpa using ho2, ?_, (hbw.alloc hbw.size _).grown hg2 (Nat.le_trans hbw.size (by simp)) (fun g hg => (ho.lt g hg).1)⟩
          have h := HR.out
          rw [List.drop_drop, Option.map_map] at h
          rw [← h]
          congr 1
          funext l
          simp
        case measure => simp [intOf]; omega
    · have : k = s.size := by omega
      subst this
      rw [List.drop_eq_nil_of_le (by rw [byts_len]; omega)] at hr
      have hr2 : acc = ps := by simpa [ptsO, ptsF] using hr
      have HR := Lib.hid hr2
      clear hr hr2
      go_wp2_with fail
      go_ret2
      exact ⟨A1, c1, by rw [← HR.out]; rfl, by rw [← HR.out]; exact ho, hbw⟩

theorem isPoint_any (p : Int) (w : World) (hp : -9223372036854775808 ≤ p ∧ p ≤ 9223372036854775807) :
    Calls Try.prog 39 #[.int .i64 p] w fun e w' => e = .returned (.bool (isPoint p)) ∧ w = w' := by
  by_cases h0 : 0 ≤ p
  · by_cases h1 : p ≤ 1114111
    · go_enter Try.func39, Try.ntmps39
      go_wp2
      go_ret
      exact ⟨ret_bool (by unfold isPoint; rw [decide_eq_true h0, decide_eq_true h1, bne, Bool.true_and, Bool.true_and]; rfl), rfl⟩
    · go_enter Try.func39, Try.ntmps39
      go_wp2
      go_ret
      exact ⟨ret_bool (by unfold isPoint; rw [decide_eq_false (by omega : ¬ p ≤ 1114111)]; simp), rfl⟩
  · go_enter Try.func39, Try.ntmps39
    go_wp2
    go_ret
    exact ⟨ret_bool (by unfold isPoint; rw [decide_eq_false (by omega : ¬ 0 ≤ p)]; simp), rfl⟩

set_option maxHeartbeats 1000000 in
theorem encode_any (A : Option Addr) (n c B : Nat) (bs : List Int) (p : Int) (w : World) (ho : Own w B 5 1 byteC A n c bs) (hn : n ≤ 1048576) (h0 : 0 ≤ p) (h1 : p ≤ 1114111) (hB : B ≤ w.heap.size) :
    Calls Try.prog 40 #[.slice A n c, .int .i64 p] w fun e w' => ∃ A' c', e = .returned (.slice A' (n + (encU p).length) c') ∧ Own w' B 5 1 byteC A' (n + (encU p).length) c' (bs ++ encU p) ∧ Below B w w' := by
  have m1 : bits .and .i64 p 63 = p % 64 := mask_i64 6 (by omega) p h0 (by omega)
  have m2 : bits .and .i64 (p / 64) 63 = p / 64 % 64 := mask_i64 6 (by omega) (p / 64) (by omega) (by omega)
  have m3 : bits .and .i64 (p / 4096) 63 = p / 4096 % 64 := mask_i64 6 (by omega) (p / 4096) (by omega) (by omega)
  by_cases c1 : p < 128
  · have HE := Lib.hid (show encU p = [p] by unfold encU; rw [if_pos c1])
    go_enter Try.func40, Try.ntmps40
    go_wp2_with (at_builtin; refine wpList_pushN elemB byteC_len byteC_one rfl (.tmp 8) (.tmp 11) rfl rfl _ 1 1 rfl (ho.alloc _) [p] _ rfl rfl rfl (by omega) (by unfold maxLen; omega) (Nat.le_trans hB (by simp)) ?_; intro A2 c2 w2 ho2 hg2 ha2)
    go_ret
    exact ⟨_, _, by rw [HE.out]; rfl, by rw [HE.out]; exact ho2, ((Below.refl _ _).alloc hB _).grown hg2 (Nat.le_trans hB (by simp)) (fun g hg => (ho.lt g hg).1)⟩
  · by_cases c2 : p < 2048
    · have HE := Lib.hid (show encU p = [192 + p / 64, 128 + p % 64] by unfold encU; rw [if_neg c1, if_pos c2])
      go_enter Try.func40, Try.ntmps40
      go_wp2_with (at_builtin; refine wpList_pushN elemB byteC_len byteC_one rfl (.tmp 16) (.tmp 25) rfl rfl _ 2 2 rfl (ho.alloc _) [192 + p / 64, 128 + p % 64] _ rfl rfl rfl (by omega) (by unfold maxLen; omega) (Nat.le_trans hB (by simp)) ?_; intro A2 c2 w2 ho2 hg2 ha2)
      go_ret
      exact ⟨_, _, by rw [HE.out]; rfl, by rw [HE.out]; exact ho2, ((Below.refl _ _).alloc hB _).grown hg2 (Nat.le_trans hB (by simp)) (fun g hg => (ho.lt g hg).1)⟩
    · by_cases c3 : p < 65536
      · have HE := Lib.hid (show encU p = [224 + p / 4096, 128 + p / 64 % 64, 128 + p % 64] by unfold encU; rw [if_neg c1, if_neg c2, if_pos c3])
        go_enter Try.func40, Try.ntmps40
        go_wp2_with (at_builtin; refine wpList_pushN elemB byteC_len byteC_one rfl (.tmp 30) (.tmp 44) rfl rfl _ 3 3 rfl (ho.alloc _) [224 + p / 4096, 128 + p / 64 % 64, 128 + p % 64] _ rfl rfl rfl (by omega) (by unfold maxLen; omega) (Nat.le_trans hB (by simp)) ?_; intro A2 c2 w2 ho2 hg2 ha2)
        go_ret
        exact ⟨_, _, by rw [HE.out]; rfl, by rw [HE.out]; exact ho2, ((Below.refl _ _).alloc hB _).grown hg2 (Nat.le_trans hB (by simp)) (fun g hg => (ho.lt g hg).1)⟩
      · have HE := Lib.hid (show encU p = [240 + p / 262144, 128 + p / 4096 % 64, 128 + p / 64 % 64, 128 + p % 64] by unfold encU; rw [if_neg c1, if_neg c2, if_neg c3])
        go_enter Try.func40, Try.ntmps40
        go_wp2_with (at_builtin; refine wpList_pushN elemB byteC_len byteC_one rfl (.tmp 46) (.tmp 65) rfl rfl _ 4 4 rfl (ho.alloc _) [240 + p / 262144, 128 + p / 4096 % 64, 128 + p / 64 % 64, 128 + p % 64] _ rfl rfl rfl (by omega) (by unfold maxLen; omega) (Nat.le_trans hB (by simp)) ?_; intro A2 c2 w2 ho2 hg2 ha2)
        go_ret
        exact ⟨_, _, by rw [HE.out]; rfl, by rw [HE.out]; exact ho2, ((Below.refl _ _).alloc hB _).grown hg2 (Nat.le_trans hB (by simp)) (fun g hg => (ho.lt g hg).1)⟩

theorem run_str (w : World) (A : Option Addr) (n c : Nat) (ns : List Int) (h : Sl w 1 byteC A n ns) : (convert 56 9 (.slice A n c)).run Try.prog w = .ok (.string (mkS ns)) w := by
  have hl := h.len
  rw [run_convert_bytes_string w 56 9 5 A n c Try.underlying56 Try.underlying5 Try.underlying9]
  rcases A with _ | ad
  · have h0 : n = 0 := by
      rcases Nat.eq_zero_or_pos n with h0 | h0
      · exact h0
      · obtain ⟨_, e, _⟩ := h.rd h0; cases e
    have : ns = [] := List.eq_nil_of_length_eq_zero (by omega)
    subst this
    rfl
  · refine run_bytesToString w ad n c ns ?_
    have := run_loadCells_list (P := Try.prog) (w := w) ad (ns.map (Value.int .u8)) (fun j v hv => by
      rw [List.getElem?_map] at hv
      obtain ⟨x, hx, rfl⟩ := Option.map_eq_some_iff.1 hv
      obtain ⟨_, e, _, hc⟩ := h.rd (by have := (List.getElem?_eq_some_iff.1 hx).1; omega)
      cases e
      have := hc j x hx 0 _ rfl
      simpa using this)
    rw [List.length_map, hl] at this
    exact this

def makeR (ps : List Int) : Value := if ps.all isPoint then .tuple #[.string (mkS (ps.flatMap encU)), .int .i64 0] else .tuple #[.string ⟨#[]⟩, .int .i64 2]

set_option maxHeartbeats 1000000 in
theorem make_any (A : Option Addr) (n c : Nat) (ps : List Int) (w : World) (ha : Sl w 1 intC A n ps) (hn : n ≤ 65536) (hi : ∀ p ∈ ps, -9223372036854775808 ≤ p ∧ p ≤ 9223372036854775807) :
    Calls Try.prog 34 #[.slice A n c] w fun e w' => e = .returned (makeR ps) ∧ Below w.heap.size w w' := by
  go_enter Try.func34, Try.ntmps34
  go_wp2_with fail
  go_loopw [4, 9] (fun vb vi wr => ∃ (k m c1 : Nat) (A1 : Option Addr), k ≤ n ∧ m ≤ 4 * k ∧ vi = .int .i64 k ∧ vb = .slice A1 m c1 ∧ Own wr w.heap.size 5 1 byteC A1 m c1 ((ps.take k).flatMap encU) ∧ (ps.take k).all isPoint = true ∧ Below w.heap.size w wr) (fun _ i _ => n - (intOf i).toNat)
  case atStart => exact ⟨0, 0, 0, none, Nat.zero_le _, Nat.le_refl _, rfl, rfl, Own.nil_ _ _ _ _ _, rfl, Below.refl _ _⟩
  case round =>
    obtain ⟨k, m, c1, A1, hk, hm, rfl, rfl, ho, hall, hbw⟩ := hrel
    have hlen := ha.len
    by_cases hlt : k < n
    · obtain ⟨ad, rfl, hl, hc⟩ := (ha.below hbw).int hlt
      have ht := take_snocI (xs := ps) (k := k) (by omega)
      have hmem : gI ps k ∈ ps := List.mem_of_getElem? (gI_some (by omega))
      have hpb := hi _ hmem
      by_cases hp : isPoint (gI ps k) = true
      · obtain ⟨p0, p1, _⟩ := (isPoint_iff _).1 hp
        have hel := encU_len (gI ps k)
        have HT := Lib.hid ht
        have HALL := Lib.hid hall
        have HP := Lib.hid hp
        have hip := isPoint_any (gI ps k) wr hpb
        rw [hp] at hip
        have HIP := Lib.hid hip
        clear ht hall hp hlen hmem hip
        go_wp2_with (first
          | (go_at_call 39; refine (HIP.out).mono ?_; rintro e w1 ⟨rfl, rfl⟩)
          | (go_at_call 40; refine (encode_any A1 m c1 _ _ (gI ps k) wr ho (by omega) p0 p1 hbw.size).mono ?_; rintro e w2 ⟨A2, c2, rfl, ho2, hb2⟩))
        go_roundw
        case rel =>
          refine ⟨k + 1, m + (encU (gI ps k)).length, c2, A2, by omega, by omega, by go_num, rfl, ?_, ?_, hbw.trans hb2⟩
          · rw [HT.out, List.flatMap_append]; simpa using ho2
          · rw [HT.out, List.all_append, HALL.out]; simpa using HP.out
        case measure => simp [intOf]; omega
      · have hp' : isPoint (gI ps k) = false := by simpa using hp
        have hip := isPoint_any (gI ps k) wr hpb
        rw [hp'] at hip
        have HIP := Lib.hid hip
        have HA : Hid (ps.all isPoint = false) := by
          show _ = false
          rw [List.all_eq_false]; exact ⟨_, hmem, by simp [hp']⟩
        clear ht hall hp hp' hlen hmem hip
        go_wp2_with (go_at_call 39; refine (HIP.out).mono ?_; rintro e w1 ⟨rfl, rfl⟩)
        go_ret2
        exact ⟨by unfold makeR; rw [HA.out]; rfl, hbw⟩
    · have : k = n := by omega
      subst this
      rw [List.take_of_length_le (by omega)] at ho hall
      have hcv := run_str wr A1 m c1 _ (ho.sl byteC_len)
      have HA := Lib.hid hall
      clear hall hlen
      go_wp2_with fail
      go_ret2
      exact ⟨by unfold makeR; rw [HA.out]; rfl, hbw⟩
end Go.Proofs.Ytbeollddmglkcaa
