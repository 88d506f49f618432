/- title of the model. -/
import Derived.Test.YtbeollddmglkcaaC2
import Derived.Test.YtbeollddmglkcaaP6
namespace Go.Proofs.Ytbeollddmglkcaa
open Go.RowKit

set_option maxHeartbeats 4000000 in
theorem mtitle_any (s : ByteArray) (w : World) (hs : s.size ≤ 65536) :
    Calls Try.prog 25 #[.string s] w fun e w' => e = .returned (.string (mkS (titleB (byts s)))) ∧ Below w.heap.size w w' := by
  cases hp : ptsO (byts s) with
  | none =>
    have HT := Lib.hid (show titleB (byts s) = [] by unfold titleB; rw [hp])
    have HV := Lib.hid (points_bad s w hs hp)
    clear hp
    go_enter Try.func25, Try.ntmps25
    go_wp2_with (go_at_call 33; refine (HV.out).mono ?_; rintro e w1 ⟨rfl, hb1⟩)
    go_ret
    exact ⟨by rw [HT.out]; rfl, hb1⟩
  | some ps =>
    have hall := ptsO_all _ (byts_bd s) ps hp
    have HT := Lib.hid (show titleB (byts s) = (titleQ ps).flatMap encU by unfold titleB; rw [hp])
    have HV := Lib.hid (points_any s ps w hs hp)
    have HL : Hid (ps.length ≤ s.size) := by have := ptsO_len _ _ hp; rw [byts_len] at this; exact this
    have HALL := Lib.hid hall
    clear hp hall
    go_enter Try.func25, Try.ntmps25
    go_wp2_with (go_at_call 33; refine (HV.out).mono ?_; rintro e w1 ⟨Ap, cp, rfl, hop, hb1⟩)
    have hcap := hop.cap
    obtain ⟨n, hn⟩ : ∃ n, n = ps.length := ⟨_, rfl⟩
    have hn6 : n ≤ 65536 := by have := HL.out; omega
    rw [← hn] at hop hcap
    rw [← hn]
    have HN := Lib.hid hn
    clear hn
    unfold maxLen at hcap
    go_loopw [5, 6, 7] (fun vo vp vi wr => ∃ (k : Nat) (q : List Int) (p : Bool), k ≤ n ∧ vi = .int .i64 k ∧ vo = .string (mkS (q.flatMap encU)) ∧ vp = .bool p ∧ (p = true → q ≠ []) ∧ (q.flatMap encU).length ≤ 5 * k ∧
       ((ps.drop k).foldl stepT (q, p)).1 = titleQ ps ∧ Below w1.heap.size w1 wr) (fun _ _ i _ => n - (intOf i).toNat)
    case atStart => exact ⟨0, [], false, Nat.zero_le _, rfl, rfl, rfl, fun e => (by cases e), by simp, rfl, Below.refl _ _⟩
    case round =>
      obtain ⟨k, q, p, hk, rfl, rfl, rfl, hpq, hlen, hf, hbw⟩ := hrel
      by_cases hlt : k < n
      · obtain ⟨gp, rfl, _, hgl, hc⟩ := (hop.below hbw).int hlt
        have hd : ps.drop k = gI ps k :: ps.drop (k + 1) := by
          have h : k < ps.length := by have := HN.out; omega
          rw [List.drop_eq_getElem_cons h]
          have := gI_some h
          rw [List.getElem?_eq_getElem h] at this
          injection this with this
          rw [this]
        have hpt : isPoint (gI ps k) = true := List.all_eq_true.1 HALL.out _ (List.mem_of_getElem? (gI_some (by have := HN.out; omega)))
        have hpb := (isPoint_iff _).1 hpt
        obtain ⟨r, hr⟩ : ∃ r, r = gI ps k := ⟨_, rfl⟩
        rw [← hr] at hc hd hpt hpb
        rw [hd, List.foldl_cons] at hf
        have HF := Lib.hid hf
        have HPT := Lib.hid hpt
        have HPQ := Lib.hid hpq
        obtain ⟨hp0, hp1, _⟩ := hpb
        have hel := encU_len r
        clear hr hd hpt hf hpq
        rcases six_ways r with ⟨b1, hsk⟩ | ⟨b1, b2, hsk⟩ | ⟨b1, b2, b3, hsk, hbl⟩ | ⟨b1, b2, b3, b4, hsk, hbl⟩ | ⟨b1, b2, b3, b4, b5, hsk, hbl⟩ | ⟨b1, b2, b3, b4, b5, hsk, hbl⟩
        all_goals
          have HS := Lib.hid hsk
          clear hsk
        all_goals try
          have HB := Lib.hid hbl
          clear hbl
        · go_wp2_with fail
          go_roundw
          case rel => exact ⟨k + 1, q, p, by omega, by go_num, rfl, rfl, HPQ.out, by omega, by have h := HF.out; rw [step_skip HS.out] at h; exact h, hbw⟩
          case measure => simp [intOf]; omega
        · go_wp2_with fail
          go_roundw
          case rel => exact ⟨k + 1, q, p, by omega, by go_num, rfl, rfl, HPQ.out, by omega, by have h := HF.out; rw [step_skip HS.out] at h; exact h, hbw⟩
          case measure => simp [intOf]; omega
        · go_wp2_with fail
          go_roundw
          case rel => exact ⟨k + 1, q, !q.isEmpty, by omega, by go_num, rfl, by rw [mkS_empty], fun e => by simpa using e, by omega, by have h := HF.out; rw [step_blank HS.out HB.out] at h; exact h, hbw⟩
          case measure => simp [intOf]; omega
        · go_wp2_with fail
          go_roundw
          case rel => exact ⟨k + 1, q, !q.isEmpty, by omega, by go_num, rfl, by rw [mkS_empty], fun e => by simpa using e, by omega, by have h := HF.out; rw [step_blank HS.out HB.out] at h; exact h, hbw⟩
          case measure => simp [intOf]; omega
        · go_wp2_with fail
          go_roundw
          case rel => exact ⟨k + 1, q, !q.isEmpty, by omega, by go_num, rfl, by rw [mkS_empty], fun e => by simpa using e, by omega, by have h := HF.out; rw [step_blank HS.out HB.out] at h; exact h, hbw⟩
          case measure => simp [intOf]; omega
        · have hsl : Sl wr 1 intC (some ⟨gp, k, none⟩) 1 [r] := ⟨rfl, fun _ => ⟨_, rfl, hgl, fun i x hx j u hu => by
            have hi : i = 0 := by have := (List.getElem?_eq_some_iff.1 hx).1; simpa using this
            subst hi
            have hx' : x = r := by simpa using hx.symm
            subst hx'
            have hj : j = 0 := by have := (List.getElem?_eq_some_iff.1 hu).1; simpa [intC] using this
            subst hj
            have hu' : u = .int .i64 x := by simpa [intC] using hu.symm
            subst hu'
            exact hc⟩⟩
          have hmk : makeR [r] = .tuple #[.string (mkS (encU r)), .int .i64 0] := by unfold makeR; rw [if_pos (by simp [HPT.out])]; simp
          have hm := make_any _ 1 (cp - k) [r] wr hsl (by omega) (fun x hx => by simp at hx; subst hx; omega)
          rw [hmk] at hm
          have HM := Lib.hid hm
          clear hmk hm hsl
          have z1 : (mkS (q.flatMap encU)).size ≤ 5 * k := by rw [mkS_size]; exact hlen
          have z2 : (mkS (encU r)).size ≤ 4 := by rw [mkS_size]; omega
          cases p
          · go_wp2_with (go_at_call 34; refine (HM.out).mono ?_; rintro e w2 ⟨rfl, hb2⟩)
            go_roundw
            case rel =>
              refine ⟨k + 1, q ++ [r], false, by omega, by go_num, ?_, rfl, fun e => (by cases e), ?_, ?_, below_trans' hbw hbw.size hb2⟩
              · rw [mkS_append, List.flatMap_append]; simp only [List.flatMap_cons, List.flatMap_nil, List.append_nil]
              · rw [List.flatMap_append, List.length_append]; simp only [List.flatMap_cons, List.flatMap_nil, List.append_nil]; omega
              · have h := HF.out; rw [step_plain HS.out HB.out] at h; exact h
            case measure => simp [intOf]; omega
          · go_wp2_with (go_at_call 34; refine (HM.out).mono ?_; rintro e w2 ⟨rfl, hb2⟩)
            go_roundw
            case rel =>
              have e32 : encU 32 = [32] := rfl
              refine ⟨k + 1, q ++ [32, r], false, by omega, by go_num, ?_, rfl, fun e => (by cases e), ?_, ?_, below_trans' hbw hbw.size hb2⟩
              · rw [mkS_blank, List.flatMap_append]; simp only [List.flatMap_cons, List.flatMap_nil, List.append_nil, e32, List.singleton_append]
              · rw [List.flatMap_append, List.length_append]; simp only [List.flatMap_cons, List.flatMap_nil, List.append_nil, e32, List.singleton_append, List.length_cons]; omega
              · have h := HF.out; rw [step_plain HS.out HB.out] at h; exact h
            case measure => simp [intOf]; omega
      · have : k = n := by omega
        subst this
        have hf2 : q = titleQ ps := by
          rw [show ps.drop k = [] from List.drop_eq_nil_of_le (by have := HN.out; omega)] at hf
          exact hf
        have HF := Lib.hid hf2
        clear hf hf2
        go_wp2_with fail
        go_ret
        exact ⟨by rw [HT.out, ← HF.out]; rfl, below_trans' hb1 hb1.size hbw⟩
end Go.Proofs.Ytbeollddmglkcaa
