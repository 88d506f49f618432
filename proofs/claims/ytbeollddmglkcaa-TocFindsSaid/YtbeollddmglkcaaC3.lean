/- toc.Title. -/
import Derived.Test.YtbeollddmglkcaaC2
import Derived.Test.YtbeollddmglkcaaB1
import Derived.Test.YtbeollddmglkcaaP6
namespace Go.Proofs.Ytbeollddmglkcaa
open Go.RowKit

theorem bString (b : Nat) (acc : List Int) (w : World) (h : Lib.IsBuilderF 58 5 b b (acc.map (Value.int .u8)) w) (hb : b ≤ w.heap.size) (ha : ∀ n ∈ acc, 0 ≤ n ∧ n ≤ 255) :
    Calls Try.prog 32 #[.pointer (some ⟨b, 0, none⟩)] w fun e w' => e = .returned (.string (mkS acc)) ∧ Below b w w' := by
  rw [← byteCells_ints acc ha] at h
  refine (Try.Builder_String_any_f b b _ w h hb).mono ?_
  rintro e w' ⟨rfl, _, hb⟩
  exact ⟨by rw [mkS_eq], hb⟩

set_option maxHeartbeats 4000000 in
set_option maxRecDepth 1000000 in
theorem title_any (s : ByteArray) (w : World) (hs : s.size ≤ 65536) :
    Calls Try.prog 24 #[.string s] w fun e w' => e = .returned (.string (mkS (titleB (byts s)))) ∧ Below w.heap.size w w' := by
  have hv := valid_any s w (by unfold maxLen; omega)
  have hT : ∀ r, titleB (byts s) = r → True := fun _ _ => trivial
  cases hp : ptsO (byts s) with
  | none =>
    rw [hp] at hv
    have HV := Lib.hid hv
    have HT := Lib.hid (show titleB (byts s) = [] by unfold titleB; rw [hp])
    clear hv hp hT
    go_enter Try.func24, Try.ntmps24
    go_wp2_with (go_at_call 28; refine (HV.out).mono ?_; rintro e w1 ⟨rfl, rfl⟩)
    go_ret
    exact ⟨by rw [HT.out]; rfl, Below.refl _ _⟩
  | some ps =>
    rw [hp] at hv
    have hall := ptsO_all _ (byts_bd s) ps hp
    have HV := Lib.hid hv
    have HT := Lib.hid (show titleB (byts s) = (titleQ ps).flatMap encU by unfold titleB; rw [hp])
    have HP := Lib.hid hp
    have HALL := Lib.hid hall
    clear hv hp hT hall
    go_enter Try.func24, Try.ntmps24
    go_wp2_with (go_at_call 28; refine (HV.out).mono ?_; rintro e w1 ⟨rfl, rfl⟩)
    go_loopw [4] (fun vp wr => ∃ (k : Nat) (q : List Int) (p : Bool) (rs : List Int), vp = .bool p ∧ Lib.IsBuilderF 58 5 w.heap.size w.heap.size ((q.flatMap encU).map (Value.int .u8)) wr ∧ wr.heap[w.heap.size + 1]? = some (.stringIter s k) ∧ Below w.heap.size w wr ∧
       q.all isPoint = true ∧ ptsO ((byts s).drop k) = some rs ∧ (rs.foldl stepT (q, p)).1 = titleQ ps ∧ (q.flatMap encU).length ≤ 5 * k ∧ k ≤ s.size) (fun _ wr => s.size - wr.iterPos (w.heap.size + 1))
    case atStart =>
      refine ⟨0, [], false, ps, rfl, (Lib.IsBuilderF.of (Lib.fresh_isBuilder 58 5 w)).alloc _, ?_, ((Below.refl _ w).alloc (Nat.le_refl _) _).alloc (by simp) _, rfl, HP.out, rfl, by simp, Nat.zero_le _⟩
      have := World.iter_heap (w.alloc (.cells #[.pointer none, .slice none 0 0] 58)) s 0
      simpa using this
    case round =>
      obtain ⟨k, q, p, rs, rfl, hI, hit, hbw, hall, hrs, hf, hlen, hks⟩ := hrel
      have hsz : w.heap.size + 1 < wr.heap.size := (Array.getElem?_eq_some_iff.1 hit).1
      by_cases hk : k < s.size
      · have hd := byts_drop s k hk
        rw [hd, ptsO_cons, ← hd] at hrs
        have hbd : ∀ c ∈ (byts s).drop k, 0 ≤ c ∧ c ≤ 255 := fun c hc => byts_bd s c (List.mem_of_mem_drop hc)
        have hsz2 := decF_sz ((byts s).drop k)
        rw [List.length_drop, byts_len] at hsz2
        obtain ⟨d, hdd⟩ : ∃ d, d = decF ((byts s).drop k) := ⟨_, rfl⟩
        rw [← hdd] at hrs hsz2
        obtain ⟨r, z, ok⟩ := d
        cases ok
        · rw [if_neg (by simp)] at hrs; cases hrs
        rw [if_pos rfl] at hrs
        obtain ⟨rs, hrs2, rfl⟩ := Option.map_eq_some_iff.1 hrs
        rw [List.drop_drop] at hrs2
        obtain ⟨z1, z2, z3⟩ := hsz2 rfl
        simp only at z1 z2 z3
        have hpt := decF_point _ _ _ hbd hdd.symm
        have hpb := (isPoint_iff r).1 hpt
        have hde := decode_eq s k r z hdd.symm
        have hnx : ∀ ty, (Instr.next (.pointer (some ⟨w.heap.size + 1, 0, none⟩)) true ty).run Try.prog wr = .ok (.tuple #[.bool true, .int .i64 k, .int .i32 r]) (wr.iterAt (w.heap.size + 1) s (k + z)) := fun ty => by
          have h := Lib.run_next_any_at (P := Try.prog) wr (w.heap.size + 1) s k ty hit hk
          rw [hde] at h
          rw [h]
          simp only
          rw [Int.toNat_of_nonneg hpb.1]
        have hI2 := hI.iterAt hit (k + z)
        have hit2 := Lib.iterAt_heap wr (w.heap.size + 1) s k (k + z) hit
        have hbw2 := Lib.below_iterAt hbw (k := w.heap.size + 1) (by omega) s (k + z)
        have hsz3 : w.heap.size ≤ (wr.iterAt (w.heap.size + 1) s (k + z)).heap.size := by rw [Lib.iterAt_size]; omega
        have hel := encU_len r
        rw [List.foldl_cons] at hf
        have HF := Lib.hid hf
        have HR := Lib.hid hrs2
        have HA := Lib.hid hall
        have HPT := Lib.hid hpt
        obtain ⟨hp0, hp1, _⟩ := hpb
        clear hd hbd hdd hrs hrs2 hsz2 hde hf hall hpt
        generalize hW2 : wr.iterAt (w.heap.size + 1) s (k + z) = W2 at *
        have HW2 := Lib.hid hW2
        have HIT := Lib.hid hit
        have HIT2 := Lib.hid hit2
        clear hW2 hit hit2 hbw hI
        rcases six_ways r with ⟨b1, hsk⟩ | ⟨b1, b2, hsk⟩ | ⟨b1, b2, b3, hsk, hbl⟩ | ⟨b1, b2, b3, b4, hsk, hbl⟩ | ⟨b1, b2, b3, b4, b5, hsk, hbl⟩ | ⟨b1, b2, b3, b4, b5, hsk, hbl⟩
        all_goals
          have HS := Lib.hid hsk
          clear hsk
        all_goals try
          have HB := Lib.hid hbl
          clear hbl
        · go_wp2_with fail
          go_roundw
          case rel => exact ⟨k + z, q, p, rs, rfl, hI2, HIT2.out, hbw2, HA.out, HR.out, by have h := HF.out; rw [step_skip HS.out] at h; exact h, by omega, by omega⟩
          case measure => simp only [World.iterPos, HIT.out, HIT2.out]; omega
        · go_wp2_with fail
          go_roundw
          case rel => exact ⟨k + z, q, p, rs, rfl, hI2, HIT2.out, hbw2, HA.out, HR.out, by have h := HF.out; rw [step_skip HS.out] at h; exact h, by omega, by omega⟩
          case measure => simp only [World.iterPos, HIT.out, HIT2.out]; omega
        · go_wp2_with (go_at_call 29; refine (Try.Builder_Len_f w.heap.size w.heap.size _ _ hI2).mono ?_; rintro e W1 ⟨rfl, rfl⟩)
          go_roundw
          case rel => exact ⟨k + z, q, !q.isEmpty, rs, by rw [← flat_pos q]; simp, hI2, HIT2.out, hbw2, HA.out, HR.out, by have h := HF.out; rw [step_blank HS.out HB.out] at h; exact h, by omega, by omega⟩
          case measure => simp only [World.iterPos, HIT.out, HIT2.out]; omega
        · go_wp2_with (go_at_call 29; refine (Try.Builder_Len_f w.heap.size w.heap.size _ _ hI2).mono ?_; rintro e W1 ⟨rfl, rfl⟩)
          go_roundw
          case rel => exact ⟨k + z, q, !q.isEmpty, rs, by rw [← flat_pos q]; simp, hI2, HIT2.out, hbw2, HA.out, HR.out, by have h := HF.out; rw [step_blank HS.out HB.out] at h; exact h, by omega, by omega⟩
          case measure => simp only [World.iterPos, HIT.out, HIT2.out]; omega
        · go_wp2_with (go_at_call 29; refine (Try.Builder_Len_f w.heap.size w.heap.size _ _ hI2).mono ?_; rintro e W1 ⟨rfl, rfl⟩)
          go_roundw
          case rel => exact ⟨k + z, q, !q.isEmpty, rs, by rw [← flat_pos q]; simp, hI2, HIT2.out, hbw2, HA.out, HR.out, by have h := HF.out; rw [step_blank HS.out HB.out] at h; exact h, by omega, by omega⟩
          case measure => simp only [World.iterPos, HIT.out, HIT2.out]; omega
        · have hel2 : Lib.runeCells r = (encU r).map (Value.int .u8) := by unfold Lib.runeCells; rw [encZ_U r HPT.out]
          cases p
          · have HE := Lib.hid hel2
            clear hel2
            go_wp2_with (go_at_call 31; refine (bWriteRune w.heap.size w.heap.size _ r (by omega) (by omega) _ hI2 (by rw [List.length_map]; omega) hsz3).mono ?_; rintro e W1 ⟨kk, rfl, h1, b1', k1⟩)
            have hit3 := k1.iter HIT2.out (by omega)
            go_roundw
            case rel =>
              refine ⟨k + z, q ++ [r], false, rs, rfl, ?_, hit3, hbw2.trans b1', ?_, HR.out, ?_, ?_, by omega⟩
              · rw [List.flatMap_append, List.map_append]
                simp only [List.flatMap_cons, List.flatMap_nil, List.append_nil]
                rw [← HE.out]; exact h1
              · rw [List.all_append, HA.out]; simp [HPT.out]
              · have h := HF.out; rw [step_plain HS.out HB.out] at h; exact h
              · rw [List.flatMap_append, List.length_append]; simp only [List.flatMap_cons, List.flatMap_nil, List.append_nil]; omega
            case measure => simp only [World.iterPos, HIT.out, hit3]; omega
          · have HE := Lib.hid hel2
            clear hel2
            go_wp2_with (first
              | (go_at_call 30; refine (bWriteByte w.heap.size w.heap.size _ 32 _ hI2 (by rw [List.length_map]; omega) hsz3).mono ?_; rintro e W1 ⟨rfl, h1, b1', k1⟩; have hit3 := k1.iter HIT2.out (by omega); have hsz4 := Nat.le_trans hsz3 b1'.size)
              | (go_at_call 31; refine (bWriteRune w.heap.size w.heap.size _ r (by omega) (by omega) _ h1 (by rw [List.length_append, List.length_map, List.length_singleton]; omega) hsz4).mono ?_; rintro e W3 ⟨kk, rfl, h3, b3', k3⟩))
            have hit4 := k3.iter hit3 (by omega)
            go_roundw
            case rel =>
              refine ⟨k + z, q ++ [32, r], false, rs, rfl, ?_, hit4, (hbw2.trans b1').trans b3', ?_, HR.out, ?_, ?_, by omega⟩
              · rw [List.flatMap_append, List.map_append]
                simp only [List.flatMap_cons, List.flatMap_nil, List.append_nil, List.map_append]
                rw [← HE.out]; rw [List.append_assoc] at h3; exact h3
              · rw [List.all_append, HA.out]
                have : isPoint 32 = true := by decide
                simp [HPT.out, this]
              · have h := HF.out; rw [step_plain HS.out HB.out] at h; exact h
              · rw [List.flatMap_append, List.length_append]
                have : (encU 32).length = 1 := rfl
                simp only [List.flatMap_cons, List.flatMap_nil, List.append_nil, List.length_append]; omega
            case measure => simp only [World.iterPos, HIT.out, hit4]; omega
      · have hnx : ∀ ty, (Instr.next (.pointer (some ⟨w.heap.size + 1, 0, none⟩)) true ty).run Try.prog wr = _ := fun ty => Lib.run_next_end_at wr (w.heap.size + 1) s k ty hit hk
        rw [List.drop_eq_nil_of_le (by rw [byts_len]; omega)] at hrs
        have hr0 : rs = [] := by simpa [ptsO, ptsF] using hrs.symm
        subst hr0
        have HF : Hid (q = titleQ ps) := hf
        clear hrs hf
        go_wp2_with (go_at_call 32; refine (bString w.heap.size _ _ hI (by omega) (flat_bytes hall)).mono ?_; rintro e W1 ⟨rfl, b1⟩)
        go_ret
        exact ⟨by rw [HT.out, ← HF.out]; rfl, hbw.trans b1⟩
end Go.Proofs.Ytbeollddmglkcaa
