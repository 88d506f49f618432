/- renumber.New, for at most 64 marks. States and labels of a sequence, plain. A sequence in memory, read: Len, Marks, locate. -/
import Derived.Test.YtbpodnhebjjkaaaGreatDoorm12
namespace Go.Proofs.YtbpodnhebjjkaaaGreatDoor
open Go.RowKit

theorem chkM_congr {es es' : List LsE} (h : idsL es' = idsL es) (hn : ∀ k, (gE es' k).n = (gE es k).n) (m : Mk) : chkM es' m = chkM es m := by
  unfold chkM
  rw [h, hn]
theorem chkE_congr {es es' : List LsE} (h : idsL es' = idsL es) (hn : ∀ k, (gE es' k).n = (gE es k).n) : ∀ ms : List Mk, chkE es' ms = chkE es ms
  | [] => rfl
  | m :: t => by
    unfold chkE
    rw [chkM_congr h hn m, chkE_congr h hn t]
theorem ids_pos {es : List LsE} {vs : List (List Lv)} (hv : vs.length = es.length) (h : lstE 0 (prL es vs) = 0) : (0 : Int) ∉ idsL es := fun h0 => by
  have := (lstE_ok h).1
  rw [← prL_ids hv] at h0
  obtain ⟨x, hx, e⟩ := List.mem_map.1 h0
  have := this x hx
  omega
theorem ids_up {es : List LsE} {vs : List (List Lv)} (hv : vs.length = es.length) (h : lstE 0 (prL es vs) = 0) : Up (idsL es) := by
  have := (lstE_ok h).2.1
  rwa [prL_ids hv] at this
theorem lvs_right {es : List LsE} {vs : List (List Lv)} (hv : vs.length = es.length) (h : lstE 0 (prL es vs) = 0) {k : Nat} (hk : k < vs.length) : clE (vs.getD k []) = 0 := by
  have h1 := (lstE_ok h).2.2
  have hm : vs.getD k [] ∈ vs := by rw [List.getD_eq_getElem?_getD, List.getElem?_eq_getElem hk]; exact List.getElem_mem hk
  rw [← prL_vs hv] at hm
  obtain ⟨x, hx, e⟩ := List.mem_map.1 hm
  rw [prL_vs hv] at e
  rw [← e]
  exact h1 x hx
theorem mkIn_of {es : List LsE} (h0 : (0 : Int) ∉ idsL es) {ms : List Mk} (h : chkE es ms = 0) : ∀ x ∈ ms, MkIn es x := fun x hx hl => by
  have := chkE_ok h x hx
  unfold chkM at this
  rw [if_neg (fun e => h0 (by rw [← e]; exact hl)), if_pos hl] at this
  exact this
/-- a sequence in memory: its lists lay ahead of it, its blocks behind. -/
def SeqM (w' : World) (p : Nat) (es : List LsE) (vs : List (List Lv)) (n : Nat) (ms : List Mk) : Prop :=
  ∃ (w1 : World) (A : Option Addr) (c : Nat) (es' : List LsE) (Bv : Option Addr) (k ck : Nat), LsT w1 A n es' vs ∧ idsL es' = idsL es ∧ (∀ k, (gE es' k).n = (gE es k).n) ∧ w1.heap.size ≤ p ∧ Below w1.heap.size w1 w' ∧ Blk w' p 59 #[.slice A n c, .slice Bv k ck] ∧ Bks w' (p + 1) Bv k ck es' vs n ms
def NewP (w : World) (es : List LsE) (vs : List (List Lv)) (n : Nat) (ms : List Mk) (e : Ending) (w' : World) : Prop :=
  Below w.heap.size w w' ∧ ((allE es vs ms ≠ 0 ∧ e = .returned (.tuple #[.pointer none, .int .i64 (allE es vs ms)])) ∨ (allE es vs ms = 0 ∧ ∃ p, e = .returned (.tuple #[.pointer (some ⟨p, 0, none⟩), .int .i64 0]) ∧ w.heap.size ≤ p ∧ SeqM w' p es vs n ms))
theorem Bks.keep_ {w w' : World} {B : Nat} {Bv : Option Addr} {k ck n : Nat} {es : List LsE} {vs : List (List Lv)} {ms : List Mk} {g : Nat} (h : Bks w B Bv k ck es vs n ms) (hg : w.grownBy w' (some g)) (hB : g < B) : Bks w' B Bv k ck es vs n ms := by
  rcases h with h | ⟨h1, b, o1, o2, o3, h2⟩
  · exact .inl h
  · have hk : ∀ {α : Type} {s' n' c' : Nat} {e' : TypeId} {enc' : α → List Value} {A' : Option Addr} {xs' : List α}, Own w B e' s' enc' A' n' c' xs' → Own w' B e' s' enc' A' n' c' xs' := fun h => h.keep hg (fun k hk hb => by injection hk with hk; subst hk; have := (h.lt _ hb).1; omega)
    exact .inr ⟨h1, b, hk o1, hk o2, hk o3, h2⟩
theorem Bks.base {w : World} {B B' : Nat} {Bv : Option Addr} {k ck n : Nat} {es : List LsE} {vs : List (List Lv)} {ms : List Mk} (h : Bks w B Bv k ck es vs n ms) (hB : B' ≤ B) : Bks w B' Bv k ck es vs n ms := by
  rcases h with h | ⟨h1, b, o1, o2, o3, h2⟩
  · exact .inl h
  · exact .inr ⟨h1, b, o1.base hB, o2.base hB, o3.base hB, h2⟩
theorem Bks.below {w w' : World} {B : Nat} {Bv : Option Addr} {k ck n : Nat} {es : List LsE} {vs : List (List Lv)} {ms : List Mk} (h : Bks w B Bv k ck es vs n ms) (hb : Below w.heap.size w w') : Bks w' B Bv k ck es vs n ms := by
  rcases h with h | ⟨h1, b, o1, o2, o3, h2⟩
  · exact .inl h
  · exact .inr ⟨h1, b, o1.below hb, o2.below hb, o3.below hb, h2⟩

set_option maxHeartbeats 8000000 in
set_option maxRecDepth 100000 in
theorem new_any (A : Option Addr) (n c : Nat) (es : List LsE) (vs : List (List Lv)) (AM : Option Addr) (m cm : Nat) (ms : List Mk) (w : World) (ha : LsT w A n es vs) (hbig : n ≤ 1000000) (hm : Sl w 3 mkC AM m ms) (hm1 : m ≤ 64) (hmc : m ≤ cm) :
    Calls Tryz.prog 6 #[.slice A n c, .slice AM m cm] w (NewP w es vs n ms) := by
  have hl := ha.l.len
  have hvl := ha.vl
  have hlm := hm.len
  have HZ := Lib.hid (show lstE 0 (prL es vs) ≠ 0 → allE es vs ms = lstE 0 (prL es vs) from fun h => if_pos h)
  have HO := Lib.hid (show lstE 0 (prL es vs) = 0 → allE es vs ms = chkE es ms from fun h => if_neg (fun k => k h))
  have HN := Lib.hid (show ∀ e w', NewP w es vs n ms e w' ↔ Below w.heap.size w w' ∧ ((allE es vs ms ≠ 0 ∧ e = .returned (.tuple #[.pointer none, .int .i64 (allE es vs ms)])) ∨ (allE es vs ms = 0 ∧ ∃ p, e = .returned (.tuple #[.pointer (some ⟨p, 0, none⟩), .int .i64 0]) ∧ w.heap.size ≤ p ∧ SeqM w' p es vs n ms)) from fun _ _ => Iff.rfl)
  go_enter Tryz.func6, Tryz.ntmps6
  go_wp2_with fail
  go_loopw [6, 14] (fun vl vi wr => ∃ (i : Nat) (last : Int), vl = .int .i64 last ∧ vi = .int .i64 i ∧ i ≤ n ∧ lstE last ((prL es vs).drop i) = lstE 0 (prL es vs) ∧ Below w.heap.size w wr) (fun _ vi _ => n - (intOf vi).toNat)
  case atStart => exact ⟨0, 0, rfl, rfl, Nat.zero_le _, rfl, Below.refl _ _⟩
  case round =>
    obtain ⟨i, last, rfl, rfl, hi, ht, hbw⟩ := hrel
    by_cases hlt : i < n
    · obtain ⟨ad, e, hl2, k0, k1⟩ := (ha.l.below hbw).ls hlt
      have hav := (ha.v i hlt).below hbw
      subst e
      rw [lstE_drop hl hvl hlt] at ht
      have HT := Lib.hid ht
      clear ht
      generalize (gE es i).id = y at *
      generalize (gE es i).A = yA at *
      generalize (gE es i).n = yn at *
      generalize (gE es i).c = yc at *
      go_upto_region 4 with fail
      go_cut [8] (fun v wx => ∃ q, v = .pointer (some ⟨q, 0, none⟩) ∧ Blk wx q 27 #[.int .i64 y, .slice yA yn yc] ∧ Below wr.heap.size wr wx)
      case first =>
        go_wp2_with fail
        go_meet
        case rel => exact ⟨_, rfl, Blk.new _ _ _, (Below.refl _ _).alloc (Nat.le_refl _) _⟩
      case rest =>
      obtain ⟨q, rfl, Bx, hb4⟩ := hcut
      have hbc := below_trans' hbw hbw.size hb4
      have hav := hav.below hb4
      clear k0 k1
      have k0 : wc.cell? ⟨q, 0, none⟩ = some (.int .i64 y) := Bx.cell 0 rfl
      have k1 : wc.cell? ⟨q, 1, none⟩ = some (.slice yA yn yc) := Bx.cell 1 rfl
      by_cases h1 : y ≤ last
      · have V := Lib.hid (show allE es vs ms = 26 by rw [HZ.out (by rw [← HT.out, if_pos h1]; omega), ← HT.out, if_pos h1])
        go_wp2_with fail
        go_ret2
        exact (HN.out _ _).2 ⟨hbc, .inl ⟨by rw [V.out]; omega, by rw [V.out]; rfl⟩⟩
      · have HT := Lib.hid (HT.out.symm.trans (if_neg h1))
        generalize vs.getD i [] = lv at *
        have cl := checkLevels_any yA yn yc lv wc hav
        by_cases h2 : clE lv = 0
        · have V := Lib.hid (HT.out.trans (if_neg (fun k => k h2))).symm
          rw [h2] at cl
          go_upto_region 10 with (first | (go_at_call 15; refine cl.mono ?_; rintro e w3 ⟨rfl, hb3⟩))
          have k0 := keep1 hb3 k0
          go_wp2_with fail
          go_roundw
          case rel => exact ⟨i + 1, y, rfl, by simp, hlt, V.out, below_trans' hbc hbc.size hb3⟩
          case measure => rw [intOf, intOf]; omega
        · have V := Lib.hid (show allE es vs ms = clE lv by rw [HZ.out (by rw [HT.out, if_pos h2]; exact h2), HT.out, if_pos h2])
          have b2 : (clE lv != 0) = true := bne_iff_ne.2 h2
          generalize clE lv = ce at *
          go_wp2_with (first | (go_at_call 15; refine cl.mono ?_; rintro e w3 ⟨rfl, hb3⟩))
          go_ret2
          exact (HN.out _ _).2 ⟨below_trans' hbc hbc.size hb3, .inl ⟨by rw [V.out]; exact h2, by rw [V.out]; rfl⟩⟩
    · have hh : i = n := by omega
      subst hh
      have hz : lstE 0 (prL es vs) = 0 := by rw [← ht]; exact prL_nil hl last
      have HR := Lib.hid (HO.out hz)
      have hve : vs.length = es.length := by omega
      have hup := ids_up hve hz
      have hps := ids_pos hve hz
      have hrt := fun k (hk : k < i) => lvs_right hve hz (k := k) (by omega)
      clear ht
      have cc := cloneLists_any A i c es vs wr (ha.below hbw) hbig (fun k hk => by have h1 := clE_len (hrt k hk); have h2 := (ha.v k hk).len; omega)
      go_upto_region 15 with (first | (go_at_call 16; refine cc.mono ?_; rintro e w3 ⟨A1, c1, es1, rfl, ha1, hid1, hn1, hb1⟩))
      have B5 := Blk.new w3 59 #[.slice A1 i c1, .slice none 0 0]
      have hb5 := (Below.refl w3.heap.size w3).alloc (Nat.le_refl _) (.cells #[.slice A1 i c1, .slice none 0 0] 59)
      have hbw3 := below_trans' hbw hbw.size hb1
      have hp0 := Nat.le_refl w3.heap.size
      have hb54 := below_trans' hbw3 hbw3.size hb5
      obtain ⟨p, hpe⟩ : ∃ p, w3.heap.size = p := ⟨_, rfl⟩
      rw [hpe] at B5 ⊢
      have hpw : w3.heap.size ≤ p := by omega
      obtain ⟨w4, hw4⟩ : ∃ w4, w3.alloc (.cells #[.slice A1 i c1, .slice none 0 0] 59) = w4 := ⟨_, rfl⟩
      rw [hw4] at B5 hb5 hb54 ⊢
      clear hw4 hp0 cc
      have up1 : Up (idsL es1) := by rw [hid1]; exact hup
      have ha4 := ha1.below hb5
      have ck := check_seq_any p A1 i c1 es1 (.slice none 0 0) AM m cm ms w4 B5 ha4.l hbig up1 (hm.below hb54) (by omega)
      rw [chkE_congr hid1 hn1] at ck
      by_cases hce : chkE es ms = 0
      · rw [hce] at ck
        go_upto_region 18 with (first | (go_at_call 17; refine ck.mono ?_; rintro e w6 ⟨rfl, hb6⟩))
        have hb64 := below_trans' hb54 hb54.size hb6
        have dv := divide_any p A1 i c1 es1 (.slice none 0 0) vs AM m cm ms w6 (B5.below hb6) (ha4.below hb6) hbig up1 (hm.below hb64) hm1 hmc ⟨hrt, fun k hk => (ha1.v k hk).len⟩ (mkIn_of (by rw [hid1]; exact hps) (by rw [chkE_congr hid1 hn1]; exact hce))
        have B6 := B5.below hb6
        clear ck B5
        go_wp2_with (first | (go_at_call 18; refine dv.mono ?_; rintro e w7 ⟨Bv, k, ck, rfl, hbk, hb7⟩; have B7 := B6.below hb7; have f1 := B7.frozen 1; have j1 := B7.cell 1 rfl))
        go_ret2
        have hb37 := below_trans' hb5 (Nat.le_trans hb5.size hb6.size |> fun _ => hb5.size) hb6
        have hb37 := below_trans' hb37 hb37.size hb7
        have hbw7 := below_trans' hb64 hb64.size hb7
        have hpB : w.heap.size ≤ p := Nat.le_trans hbw3.size hpw
        have hp6 := B6.lt
        refine (HN.out _ _).2 ⟨hbw7.setCell (p := ⟨p, 1, none⟩) hpB _, .inr ⟨by rw [HR.out]; exact hce, p, rfl, hpB, w3, A1, c1, es1, Bv, k, ck, ha1, hid1, hn1, hpw, hb37.setCell (p := ⟨p, 1, none⟩) hpw _, B7.set_ 1 _, (hbk.base (by omega)).keep_ (gset _ _ _ _) (by omega)⟩⟩
      · have bce : (chkE es ms != 0) = true := bne_iff_ne.2 hce
        generalize chkE es ms = ce at *
        go_wp2_with (first | (go_at_call 17; refine ck.mono ?_; rintro e w6 ⟨rfl, hb6⟩))
        go_ret2
        exact (HN.out _ _).2 ⟨below_trans' hb54 hb54.size hb6, .inl ⟨by rw [HR.out]; exact hce, by rw [HR.out]; rfl⟩⟩
end Go.Proofs.YtbpodnhebjjkaaaGreatDoor

namespace Go.Proofs.YtbpodnhebjjkaaaGreatDoor
open Go.RowKit

def selM (ms : List Mk) (id : Int) : List Mk := ms.filter (fun m => decide (m.list = id))
theorem selM_snoc (ms : List Mk) (m : Mk) (id : Int) : selM (ms ++ [m]) id = if m.list = id then selM ms id ++ [m] else selM ms id := by
  unfold selM
  rw [List.filter_append, List.filter_cons, List.filter_nil]
  by_cases h : m.list = id
  · rw [if_pos h, decide_eq_true h]; rfl
  · rw [if_neg h, decide_eq_false h]; simp
theorem take_snocM {ms : List Mk} {i : Nat} (h : i < ms.length) : ms.take (i + 1) = ms.take i ++ [gM ms i] := by
  rw [← List.take_append_getElem h]
  have : gM ms i = ms[i] := by unfold gM; rw [List.getD_eq_getElem?_getD, List.getElem?_eq_getElem h]; rfl
  rw [this]
theorem selM_take {ms : List Mk} {i : Nat} (id : Int) (h : i < ms.length) : selM (ms.take (i + 1)) id = if (gM ms i).list = id then selM (ms.take i) id ++ [gM ms i] else selM (ms.take i) id := by
  rw [take_snocM h, selM_snoc]
theorem foldE_snoc (ls : List Lv) (n : Nat) (ms : List Mk) (m : Mk) : foldE ls n (ms ++ [m]) = thenE ls n (foldE ls n ms) (effM ls n m) := by
  unfold foldE
  rw [List.foldl_append]; rfl
theorem countC_snoc (ls : List Lv) (n : Nat) (c : Cn) (ms : List Mk) (m : Mk) : countC ls n c (ms ++ [m]) = nextC ls n (countC ls n c ms) (m.level - 1).toNat m.restart := by
  unfold countC
  rw [List.foldl_append]; rfl
/-- the index of an id that stands in an increasing list. -/
theorem Up.idx {zs : List Int} (h : Up zs) {k : Nat} (hk : k < zs.length) : zs.idxOf (zs.getD k 0) = k := by
  have hg : zs.getD k 0 = zs[k] := by rw [List.getD_eq_getElem?_getD, List.getElem?_eq_getElem hk]; rfl
  rw [hg]
  have hm : zs[k] ∈ zs := List.getElem_mem hk
  have hj := List.idxOf_lt_length_iff.2 hm
  have he : zs[zs.idxOf zs[k]] = zs[k] := List.getElem_idxOf hj
  rcases Nat.lt_trichotomy (zs.idxOf zs[k]) k with hlt | heq | hgt
  · have := (List.pairwise_iff_getElem.1 h) _ _ hj hk hlt
    omega
  · exact heq
  · have := (List.pairwise_iff_getElem.1 h) _ _ hk hj hgt
    omega
theorem Up.inj {zs : List Int} (h : Up zs) (x : Int) {k : Nat} (hk : k < zs.length) : zs.idxOf x = k ↔ x = zs.getD k 0 := by
  constructor
  · intro e
    subst e
    rw [List.getD_eq_getElem?_getD, List.getElem?_eq_getElem hk]
    simp
  · intro e
    rw [e, h.idx hk]
theorem effsF_len (es : List LsE) (vs : List (List Lv)) (n : Nat) (ms : List Mk) : (effsF es vs n ms).length = n := by
  unfold effsF
  have : ∀ (ms : List Mk) (xs : List Eff), (ms.foldl (addF es vs) xs).length = xs.length := by
    intro ms
    induction ms with
    | nil => intro xs; rfl
    | cons m t ih =>
      intro xs
      rw [List.foldl_cons, ih]
      unfold addF
      split
      · rw [List.length_set]
      · rfl
  rw [this, List.length_replicate]
theorem effs_at {es : List LsE} {vs : List (List Lv)} {n : Nat} (he : es.length = n) (hu : Up (idsL es)) (ms : List Mk) {k : Nat} (hk : k < n) : ∀ i, i ≤ ms.length → gF (effsF es vs n (ms.take i)) k = foldE (vs.getD k []) (gE es k).n (selM (ms.take i) (gE es k).id)
  | 0, _ => by
    rw [List.take_zero]
    show gF (List.replicate n effZ) k = effZ
    exact gF_replicate n k
  | i + 1, h => by
    have ih := effs_at (vs := vs) he hu ms hk i (by omega)
    have hl : k < (idsL es).length := by rw [idsL_len]; omega
    rw [effsF_take es vs n ms (by omega), selM_take _ (by omega)]
    generalize gM ms i = m at *
    unfold addF
    by_cases hm : m.list ∈ idsL es
    · rw [if_pos hm]
      have hj : (idsL es).idxOf m.list < (effsF es vs n (ms.take i)).length := by
        have := List.idxOf_lt_length_iff.2 hm
        rw [idsL_len] at this
        rw [effsF_len]; omega
      rw [gF_set _ hj]
      have hin := hu.inj m.list hl
      rw [idsL_at] at hin
      by_cases hki : k = (idsL es).idxOf m.list
      · rw [if_pos hki, ← hki, ih, if_pos (hin.1 hki.symm), foldE_snoc]
      · rw [if_neg hki, ih, if_neg (fun e => hki (hin.2 e).symm)]
    · rw [if_neg hm, ih, if_neg]
      intro e
      apply hm
      rw [e, ← idsL_at, List.getD_eq_getElem?_getD, List.getElem?_eq_getElem hl]
      exact List.getElem_mem hl
theorem effs_all {es : List LsE} {vs : List (List Lv)} {n : Nat} (he : es.length = n) (hu : Up (idsL es)) (ms : List Mk) {k : Nat} (hk : k < n) : gF (effsF es vs n ms) k = foldE (vs.getD k []) (gE es k).n (selM ms (gE es k).id) := by
  have := effs_at (vs := vs) he hu ms hk ms.length (Nat.le_refl _)
  rwa [List.take_length] at this
/-- the marks of a list are right for its levels. -/
theorem sel_ok {es : List LsE} {n k : Nat} (he : es.length = n) (hu : Up (idsL es)) {ms : List Mk} (hk : k < n) (h : ∀ x ∈ ms, MkIn es x) : MkOk (gE es k).n (selM ms (gE es k).id) := by
  intro i hi
  have hl : k < (idsL es).length := by rw [idsL_len]; omega
  have hm : gM (selM ms (gE es k).id) i ∈ selM ms (gE es k).id := by unfold gM; rw [List.getD_eq_getElem?_getD, List.getElem?_eq_getElem hi]; exact List.getElem_mem hi
  obtain ⟨h1, h2⟩ := List.mem_filter.1 hm
  have h2 := of_decide_eq_true h2
  generalize gM (selM ms (gE es k).id) i = x at *
  have hin : x.list ∈ idsL es := by
    rw [h2, ← idsL_at, List.getD_eq_getElem?_getD, List.getElem?_eq_getElem hl]
    exact List.getElem_mem hl
  have := h x h1 hin
  rw [(hu.inj x.list hl).2 (by rw [idsL_at]; exact h2)] at this
  exact mkE_zero_iff this
/-- the state of a list behind marks. -/
def cntS (ls : List Lv) (n : Nat) (ms : List Mk) (id : Int) : Cn := countC ls n cnZ (selM ms id)
theorem cntS_effs {es : List LsE} {vs : List (List Lv)} {n k : Nat} (he : es.length = n) (hu : Up (idsL es)) {ms : List Mk} (hk : k < n) (h : ∀ x ∈ ms, MkIn es x) : applyE (vs.getD k []) (gE es k).n (gF (effsF es vs n ms) k) cnZ = cntS (vs.getD k []) (gE es k).n ms (gE es k).id := by
  rw [effs_all he hu ms hk]
  exact apply_fold_all cnZ (sel_ok he hu hk h)
theorem cntS_take (ls : List Lv) (n : Nat) {ms : List Mk} (id : Int) {i : Nat} (h : i < ms.length) : cntS ls n (ms.take (i + 1)) id = if (gM ms i).list = id then nextC ls n (cntS ls n (ms.take i) id) ((gM ms i).level - 1).toNat (gM ms i).restart else cntS ls n (ms.take i) id := by
  unfold cntS
  rw [selM_take id h]
  by_cases hm : (gM ms i).list = id
  · rw [if_pos hm, if_pos hm, countC_snoc]
  · rw [if_neg hm, if_neg hm]
theorem selM_len (ms : List Mk) (id : Int) : (selM ms id).length ≤ ms.length := List.length_filter_le _ _
theorem cntS_ok {ls : List Lv} {n : Nat} {ms : List Mk} {id : Int} (hL : LvOk n ls) (hm : MkOk n (selM ms id)) : CnOk (32767 + ms.length) (cntS ls n ms id) := by
  have := count_ok (c := cnZ) hL hm (Int.le_refl _) (cnZ_ok (by omega)) (selM ms id).length (Nat.le_refl _)
  rw [List.take_length] at this
  intro i
  have h1 := this i
  have h2 := selM_len ms id
  unfold cntS
  omega
/-- the label of a level for the state behind the paragraph. -/
def labF (ls : List Lv) (c : Cn) (L : Nat) : ByteArray := fillB ls L (numsF ls c (L + 1))
def labM (es : List LsE) (vs : List (List Lv)) (ms : List Mk) (i : Nat) : ByteArray :=
  if (gM ms i).list ∈ idsL es then labF (vs.getD ((idsL es).idxOf (gM ms i).list) []) (cntS (vs.getD ((idsL es).idxOf (gM ms i).list) []) (gE es ((idsL es).idxOf (gM ms i).list)).n (ms.take (i + 1)) (gM ms i).list) ((gM ms i).level - 1).toNat else ⟨#[]⟩
theorem labM_congr {es es' : List LsE} (h : idsL es' = idsL es) (hn : ∀ k, (gE es' k).n = (gE es k).n) (vs : List (List Lv)) (ms : List Mk) (i : Nat) : labM es' vs ms i = labM es vs ms i := by
  unfold labM
  rw [h, hn]
end Go.Proofs.YtbpodnhebjjkaaaGreatDoor

namespace Go.Proofs.YtbpodnhebjjkaaaGreatDoor
open Go.RowKit

structure SqR (w : World) (p : Nat) (A : Option Addr) (n c : Nat) (es : List LsE) (vs : List (List Lv)) (Bv : Option Addr) (k ck : Nat) (ms : List Mk) : Prop where
  hp : Blk w p 59 #[.slice A n c, .slice Bv k ck]
  ha : LsT w A n es vs
  hb : ∃ B, Bks w B Bv k ck es vs n ms
section
variable {w w' : World} {p : Nat} {A : Option Addr} {n c : Nat} {es : List LsE} {vs : List (List Lv)} {Bv : Option Addr} {k ck : Nat} {ms : List Mk}
theorem SqR.below (h : SqR w p A n c es vs Bv k ck ms) (hb : Below w.heap.size w w') : SqR w' p A n c es vs Bv k ck ms :=
  ⟨h.hp.below hb, h.ha.below hb, let ⟨B, hB⟩ := h.hb; ⟨B, hB.below hb⟩⟩
theorem SqR.drewN (h : SqR w p A n c es vs Bv k ck ms) (q : Nat) : SqR (w.drewN q) p A n c es vs Bv k ck ms := h.below (below_drewN (Below.refl _ _) q)
theorem SqR.none_ (h : SqR w p A n c es vs Bv k ck ms) (hk : k = 0) : ms = [] := by
  obtain ⟨B, ⟨_, h1, _⟩ | ⟨h1, _⟩⟩ := h.hb
  · exact h1
  · omega
theorem SqR.one (h : SqR w p A n c es vs Bv k ck ms) (hk : k ≠ 0) : k = 1 ∧ ms ≠ [] ∧ ∃ g M mc E cE B, Bv = some ⟨g, 0, none⟩ ∧ w.cell? ⟨g, 0, none⟩ = some (.slice M ms.length mc) ∧ w.cell? ⟨g, 1, none⟩ = some (.slice E n cE) ∧ Sl w 3 mkC M ms.length ms ∧ Own w B 51 36 effL E n cE (effsF es vs n ms) ∧ ms.length ≤ mc := by
  obtain ⟨B, ⟨h1, _⟩ | ⟨h1, b, o1, o2, o3, h2, h3⟩⟩ := h.hb
  · exact absurd h1 hk
  · obtain ⟨g, hg, _, _⟩ := o1.form (by omega)
    subst hg
    have e : b.m = ms.length := o2.len.symm
    have r := o1.range bkC_len (k := 0) (by omega) (x := b) rfl
    refine ⟨h1, h3, g, b.M, b.mc, b.E, b.nc, B, rfl, ?_, ?_, ?_, o3, ?_⟩
    · rw [← e]; exact r 0 _ rfl
    · rw [← h2]; exact r 1 _ rfl
    · rw [← e]; exact o2.sl mkC_len
    · rw [← e]; exact o2.cap.1
end
set_option maxRecDepth 100000 in
theorem len_any (p : Nat) (A : Option Addr) (n c : Nat) (es : List LsE) (vs : List (List Lv)) (Bv : Option Addr) (k ck : Nat) (ms : List Mk) (w : World) (h : SqR w p A n c es vs Bv k ck ms) (hm : ms.length ≤ 1000) :
    Calls Tryz.prog 19 #[.pointer (some ⟨p, 0, none⟩)] w fun e w' => e = .returned (.int .i64 ms.length) ∧ Below w.heap.size w w' := by
  have q1 := h.hp.cell 1 rfl
  by_cases hk : k = 0
  · have := h.none_ hk
    subst hk this
    go_enter Tryz.func19, Tryz.ntmps19
    go_wp2_with fail
    go_loopw [3, 13] (fun vn vi wr => vi = .int .i64 0 ∧ vn = .int .i64 0 ∧ wr = w) (fun _ _ _ => 0)
    case atStart => exact ⟨rfl, rfl, rfl⟩
    case round =>
      obtain ⟨rfl, rfl, rfl⟩ := hrel
      go_wp2_with fail
      go_ret
      exact ⟨rfl, Below.refl _ _⟩
  · obtain ⟨rfl, _, g, M, mc, E, cE, B, rfl, j0, j1, hM, hE, hmc⟩ := h.one hk
    clear h hM hE
    generalize ms.length = m at *
    go_enter Tryz.func19, Tryz.ntmps19
    go_wp2_with fail
    go_loopw [3, 13] (fun vn vi wr => ∃ i : Nat, vi = .int .i64 i ∧ i ≤ 1 ∧ vn = .int .i64 (if i = 0 then 0 else (m : Int)) ∧ Below w.heap.size w wr) (fun _ vi _ => 1 - (intOf vi).toNat)
    case atStart => exact ⟨0, rfl, by omega, rfl, Below.refl _ _⟩
    case round =>
      obtain ⟨i, rfl, hi, rfl, hbw⟩ := hrel
      rcases (by omega : i = 0 ∨ i = 1) with rfl | rfl
      · have j0 := keep1 hbw j0
        have j1 := keep1 hbw j1
        go_upto_region 6 with fail
        go_cut [5] (fun v wx => ∃ q, v = .pointer (some ⟨q, 0, none⟩) ∧ Blk wx q 103 #[.slice M m mc, .slice E n cE] ∧ Below wr.heap.size wr wx)
        case first =>
          go_wp2_with fail
          go_meet
          case rel => exact ⟨_, rfl, Blk.new _ _ _, (Below.refl _ _).alloc (Nat.le_refl _) _⟩
        case rest =>
        obtain ⟨q, rfl, Bx, hb4⟩ := hcut
        have k0 := Bx.cell 0 rfl
        go_wp2_with fail
        go_roundw
        case rel => exact ⟨1, by simp, by omega, by simp, below_trans' hbw hbw.size hb4⟩
        case measure => rw [intOf, intOf]; omega
      · go_wp2_with fail
        go_ret
        exact ⟨rfl, hbw⟩
set_option maxRecDepth 100000 in
theorem seqMarks_any (p : Nat) (A : Option Addr) (n c : Nat) (es : List LsE) (vs : List (List Lv)) (Bv : Option Addr) (k ck : Nat) (ms : List Mk) (w : World) (h : SqR w p A n c es vs Bv k ck ms) (hm : ms.length ≤ 1000) :
    Calls Tryz.prog 21 #[.pointer (some ⟨p, 0, none⟩)] w fun e w' => ∃ A' c', e = .returned (.slice A' ms.length c') ∧ Own w' w.heap.size 81 3 mkC A' ms.length c' ms ∧ Below w.heap.size w w' := by
  have q1 := h.hp.cell 1 rfl
  by_cases hk : k = 0
  · have := h.none_ hk
    subst hk this
    go_enter Tryz.func21, Tryz.ntmps21
    go_wp2_with fail
    go_loopw [3, 13] (fun vn vi wr => vi = .int .i64 0 ∧ vn = .slice none 0 0 ∧ wr = w) (fun _ _ _ => 0)
    case atStart => exact ⟨rfl, rfl, rfl⟩
    case round =>
      obtain ⟨rfl, rfl, rfl⟩ := hrel
      go_wp2_with fail
      go_ret
      exact ⟨none, 0, rfl, Own.nil_ _ _ _ _ _, Below.refl _ _⟩
  · obtain ⟨rfl, hne, g, M, mc, E, cE, B, rfl, j0, j1, hM, hE, hmc⟩ := h.one hk
    have hpos : 0 < ms.length := List.length_pos_iff.2 hne
    obtain ⟨am, rfl, _⟩ := hM.rd hpos
    clear h hE
    generalize hml : ms.length = m at *
    go_enter Tryz.func21, Tryz.ntmps21
    go_wp2_with fail
    go_loopw [3, 13] (fun vn vi wr => ∃ (i : Nat) (A' : Option Addr) (n' c' : Nat) (xs : List Mk), vi = .int .i64 i ∧ i ≤ 1 ∧ (i = 0 → A' = none ∧ n' = 0 ∧ c' = 0 ∧ xs = []) ∧ (i = 1 → n' = m ∧ xs = ms) ∧ vn = .slice A' n' c' ∧ Own wr w.heap.size 81 3 mkC A' n' c' xs ∧ Below w.heap.size w wr) (fun _ vi _ => 1 - (intOf vi).toNat)
    case atStart => exact ⟨0, none, 0, 0, [], rfl, by omega, fun _ => ⟨rfl, rfl, rfl, rfl⟩, fun h => by omega, rfl, Own.nil_ _ _ _ _ _, Below.refl _ _⟩
    case round =>
      obtain ⟨i, A', n', c', xs, rfl, hi, h0, h1, rfl, ho, hbw⟩ := hrel
      rcases (by omega : i = 0 ∨ i = 1) with rfl | rfl
      · obtain ⟨rfl, rfl, rfl, rfl⟩ := h0 rfl
        have j0 := keep1 hbw j0
        have j1 := keep1 hbw j1
        go_upto_region 6 with fail
        go_cut [5] (fun v wx => ∃ q, v = .pointer (some ⟨q, 0, none⟩) ∧ Blk wx q 103 #[.slice (some am) m mc, .slice E n cE] ∧ Below wr.heap.size wr wx)
        case first =>
          go_wp2_with fail
          go_meet
          case rel => exact ⟨_, rfl, Blk.new _ _ _, (Below.refl _ _).alloc (Nat.le_refl _) _⟩
        case rest =>
        obtain ⟨q, rfl, Bx, hb4⟩ := hcut
        have k0 := Bx.cell 0 rfl
        have hbc := below_trans' hbw hbw.size hb4
        have ho := ho.below hb4
        have hM4 := hM.below hbc
        go_wp2_with (at_builtin; refine wpList_pushSl elemK mkC_len mkC_one rfl _ _ rfl rfl am m mc rfl ho ms hM4 ⟨by omega, by unfold maxLen; omega⟩ hbc.size ?_; intro A2 c2 w1 ho2 hg2 ha2)
        go_roundw
        case rel => exact ⟨1, A2, m, c2, ms, by simp, by omega, fun h => by omega, fun _ => ⟨rfl, rfl⟩, rfl, by simpa using ho2, hbc.grown hg2 hbc.size (fun k e => by simp [blk] at e)⟩
        case measure => rw [intOf, intOf]; omega
      · obtain ⟨rfl, rfl⟩ := h1 rfl
        go_wp2_with fail
        go_ret
        exact ⟨A', c', rfl, ho, hbw⟩
set_option maxRecDepth 100000 in
theorem locate_any (p : Nat) (A : Option Addr) (n c : Nat) (es : List LsE) (vs : List (List Lv)) (Bv : Option Addr) (k ck : Nat) (ms : List Mk) (at_ : Int) (w : World) (h : SqR w p A n c es vs Bv k ck ms) :
    Calls Tryz.prog 38 #[.pointer (some ⟨p, 0, none⟩), .int .i64 at_] w fun e w' => e = .returned (.tuple #[.int .i64 0, .int .i64 0]) ∧ Below w.heap.size w w' := by
  have q1 := h.hp.cell 1 rfl
  have hk : (k : Int) = 0 ∨ (k : Int) = 1 := by
    by_cases hk : k = 0
    · omega
    · have := (h.one hk).1; omega
  have hw : IntKind.i64.wrap ((k : Int) - 1) = k - 1 := IntWalk.i64_in _ (by omega)
  have hlt : ¬ (0 : Int) < k - 1 := by omega
  go_enter Tryz.func38, Tryz.ntmps38
  go_wp2_with fail
  go_loopw [4, 5] (fun v4 v5 wr => v4 = .int .i64 0 ∧ v5 = .int .i64 0 ∧ wr = w) (fun _ _ _ => 0)
  case atStart => exact ⟨rfl, rfl, rfl⟩
  case round =>
    obtain ⟨rfl, rfl, rfl⟩ := hrel
    go_wp2_with fail
    go_ret2
    exact ⟨rfl, Below.refl _ _⟩
end Go.Proofs.YtbpodnhebjjkaaaGreatDoor
