/- renumber: (*Seq).replace. -/
import Derived.Test.YtbpodnhebjjkaaaGreatDoorS17m
namespace Go.Proofs.YtbpodnhebjjkaaaGreatDoor
open Go.RowKit

theorem sizeBk : ∀ w, (sizeOf 103).run Tryz.prog w = .ok 2 w := fun w => by
  obtain ⟨i, hi, h3⟩ := Option.map_eq_some_iff.1 sizeB
  simp [sizeOf, typeInfo, hi, h3, go_sem]
theorem sl3 {w : World} {g : Nat} {t : TypeId} {q1 q2 q3 : SQ} (h : Blk w g t #[.slice q1.1 q1.2.1 q1.2.2, .slice q2.1 q2.2.1 q2.2.2, .slice q3.1 q3.2.1 q3.2.2]) : Sl w 1 sqC (some ⟨g, 0, none⟩) 3 [q1, q2, q3] :=
  ⟨rfl, fun _ => ⟨_, rfl, h.lt, fun i x hx j u hu => by
    have hi : i < 3 := (List.getElem?_eq_some_iff.1 hx).1
    have hj : j < 1 := (List.getElem?_eq_some_iff.1 hu).1
    obtain rfl : j = 0 := by omega
    rw [Addr.add_mid, Nat.zero_add, Nat.mul_one, Nat.add_zero]
    rcases (by omega : i = 0 ∨ i = 1 ∨ i = 2) with rfl | rfl | rfl
    · injection hx with hx; subst hx; exact (h.cell 0 rfl).trans hu
    · injection hx with hx; subst hx; exact (h.cell 1 rfl).trans hu
    · injection hx with hx; subst hx; exact (h.cell 2 rfl).trans hu⟩⟩
theorem Own.none_cap {α : Type} {w : World} {B s n c : Nat} {e : TypeId} {enc : α → List Value} {A : Option Addr} {xs : List α} (h : Own w B e s enc A n c xs) (hA : A = none) : c = 0 := by
  subst hA
  rcases h.row.2 with ⟨h', _⟩ | ⟨g', cap', cur, h', _⟩
  · injection h'
  · injection h' with h1
    cases h1
def ccR (cur : World) (NL : List Mk) (v : Value) (w' : World) : Prop := ∃ A' c', v = .slice A' NL.length c' ∧ Own w' cur.heap.size 81 3 mkC A' NL.length c' NL ∧ Below cur.heap.size cur w'
def dvR (cur : World) (es : List LsE) (vs : List (List Lv)) (n : Nat) (NL : List Mk) (v : Value) (w' : World) : Prop := ∃ Bv k ck, v = .slice Bv k ck ∧ Bks w' cur.heap.size Bv k ck es vs n NL ∧ Below cur.heap.size cur w'
def cbR (cur : World) (k : Nat) (bl : List BkE) (v : Value) (w' : World) : Prop := ∃ A' c', v = .slice A' k c' ∧ Own w' cur.heap.size 103 2 bkC A' k c' bl ∧ Below cur.heap.size cur w'
theorem bks_list {w : World} {B : Nat} {Bd : Option Addr} {kd ckd n : Nat} {es : List LsE} {vs : List (List Lv)} {NL : List Mk} (h : Bks w B Bd kd ckd es vs n NL) :
    ∃ bl : List BkE, Sl w 2 bkC Bd kd bl ∧ (Bd = none → ckd = 0) ∧ Hid (∀ w' (_ : Below w.heap.size w w') A' c', Own w' B 103 2 bkC A' kd c' bl → Bks w' B A' kd c' es vs n NL) := by
  rcases h with ⟨h1, h2, h3⟩ | ⟨h1, b, o1, o2, o3, h2⟩
  · subst h1
    exact ⟨[], ⟨rfl, fun h => absurd h (Nat.lt_irrefl 0)⟩, h3, Lib.hid fun w' _ A' c' ho => .inl ⟨rfl, h2, fun e => ho.none_cap e⟩⟩
  · subst h1
    exact ⟨[b], o1.sl bkC_len, fun e => o1.none_cap e, Lib.hid fun w' hb A' c' ho => .inr ⟨rfl, b, ho, o2.below hb, o3.below hb, h2⟩⟩
theorem bks_le {w : World} {B : Nat} {Bd : Option Addr} {kd ckd n : Nat} {es : List LsE} {vs : List (List Lv)} {NL : List Mk} (h : Bks w B Bd kd ckd es vs n NL) : kd ≤ 1 := by
  rcases h with ⟨h1, _⟩ | ⟨h1, _⟩ <;> omega
theorem catB {w5 : World} {g5 g ck kd ckd : Nat} {Bd : Option Addr} {bl : List BkE} (bn2 : Blk w5 g5 57 #[.slice (some ⟨g, 0, none⟩) 0 ck, .slice Bd kd ckd, .slice (cutA (some ⟨g, 0, none⟩) 1 ck 2) 0 (ck - 1)]) (sbl : Sl w5 2 bkC Bd kd bl) (nbl : Bd = none → ckd = 0) (hk : kd ≤ 1) :
    Calls Tryz.prog 46 #[.slice (some ⟨g5, 0, none⟩) 3 3] w5 fun e w' => ∃ v, e = .returned v ∧ cbR w5 kd bl v w' := by
  have hcut : cutA (some ⟨g, 0, none⟩) 1 ck 2 ≠ none := by unfold cutA; split <;> simp
  have hfl : ([[], bl, []] : List (List BkE)).flatten = bl := by simp
  have := concatBk_any (some ⟨g5, 0, none⟩) 3 3 [(some ⟨g, 0, none⟩, 0, ck), (Bd, kd, ckd), (cutA (some ⟨g, 0, none⟩) 1 ck 2, 0, ck - 1)] [[], bl, []] w5 (sl3 bn2) (fun k hk => by
    have hk : k < 3 := hk
    rcases (by omega : k = 0 ∨ k = 1 ∨ k = 2) with rfl | rfl | rfl
    · exact ⟨⟨rfl, fun h => absurd h (Nat.lt_irrefl 0)⟩, fun h => by cases h⟩
    · exact ⟨sbl, nbl⟩
    · exact ⟨⟨rfl, fun h => absurd h (Nat.lt_irrefl 0)⟩, fun h => absurd h hcut⟩) rfl (by omega) (by rw [hfl, sbl.len]; omega)
  rw [hfl, sbl.len] at this
  exact this.mono fun e w' ⟨A', c', he, ho, hb⟩ => ⟨_, he, A', c', rfl, ho, hb⟩
theorem catM {w : World} {g : Nat} {AM : Option Addr} {aM : Addr} {from_ to_ m cm mc : Nat} {ms xs : List Mk} (bn : Blk w g 23 #[.slice (some aM) from_ mc, .slice AM m cm, .slice (cutA (some aM) to_ mc 3) (ms.length - to_) (mc - to_)]) (hM : Sl w 3 mkC (some aM) ms.length ms) (hx : Sl w 3 mkC AM m xs) (hft : from_ ≤ to_) (hto : to_ ≤ ms.length) (hmc : ms.length ≤ mc) (hnone : AM = none → cm = 0) (hlen : (ms.take from_ ++ xs ++ ms.drop to_).length ≤ 64) :
    Calls Tryz.prog 47 #[.slice (some ⟨g, 0, none⟩) 3 3] w fun e w' => ∃ v, e = .returned v ∧ ccR w (ms.take from_ ++ xs ++ ms.drop to_) v w' := by
  have hcut : cutA (some aM) to_ mc 3 ≠ none := by unfold cutA; split <;> simp
  have hfl : ([ms.take from_, xs, ms.drop to_] : List (List Mk)).flatten = ms.take from_ ++ xs ++ ms.drop to_ := by simp
  have hcu := hM.cut hto (Nat.le_refl ms.length) hmc
  rw [List.take_of_length_le (by rw [List.length_drop]; omega)] at hcu
  have := concatMk_any (some ⟨g, 0, none⟩) 3 3 [(some aM, from_, mc), (AM, m, cm), (cutA (some aM) to_ mc 3, ms.length - to_, mc - to_)] [ms.take from_, xs, ms.drop to_] w (sl3 bn) (fun k hk => by
    have hk : k < 3 := hk
    rcases (by omega : k = 0 ∨ k = 1 ∨ k = 2) with rfl | rfl | rfl
    · exact ⟨hM.take (Nat.le_trans hft hto), fun h => by cases h⟩
    · exact ⟨hx, hnone⟩
    · exact ⟨hcu, fun h => absurd h hcut⟩) rfl (by omega) (by rw [hfl]; omega)
  rw [hfl] at this
  exact this.mono fun e w' ⟨A', c', he, ho, hb⟩ => ⟨_, he, A', c', rfl, ho, hb⟩

set_option maxHeartbeats 16000000 in
set_option maxRecDepth 100000 in
theorem replace_any (p : Nat) (A : Option Addr) (n c : Nat) (es : List LsE) (vs : List (List Lv)) (Bv : Option Addr) (k ck : Nat) (ms : List Mk) (from_ to_ : Nat) (AM : Option Addr) (m cm : Nat) (xs : List Mk) (w : World) (h : SqR w p A n c es vs Bv k ck ms) (hft : from_ ≤ to_) (hto : to_ ≤ ms.length) (hbig : n ≤ 1000000) (hu : Up (idsL es)) (hC : LvsOk es vs n) (hk : ∀ x ∈ ms, MkIn es x) (hkx : ∀ x ∈ xs, MkIn es x) (hm : Sl w 3 mkC AM m xs) (hmc : m ≤ cm) (hnone : AM = none → cm = 0) (hml : ms.length ≤ 1000) (hlen : (ms.take from_ ++ xs ++ ms.drop to_).length ≤ 64) :
    Calls Tryz.prog 29 #[.pointer (some ⟨p, 0, none⟩), .int .i64 from_, .int .i64 to_, .slice AM m cm] w fun e w' => e = .returned (.tuple #[]) ∧ (∃ Bv' k' ck', Blk w' p 59 #[.slice A n c, .slice Bv' k' ck'] ∧ Bks w' w.heap.size Bv' k' ck' es vs n (ms.take from_ ++ xs ++ ms.drop to_)) ∧ w.grownBy w' (some p) := by
  have q1 : w.cell? ⟨p, 1, none⟩ = some (.slice Bv k ck) := h.hp.cell 1 rfl
  have hpB := h.hp
  have hpl := h.hp.lt
  have hNk : ∀ x ∈ ms.take from_ ++ xs ++ ms.drop to_, MkIn es x := fun x hx => by
    rcases List.mem_append.1 hx with hx | hx
    · rcases List.mem_append.1 hx with hx | hx
      · exact hk x (List.mem_of_mem_take hx)
      · exact hkx x hx
    · exact hk x (List.mem_of_mem_drop hx)
  have FIN := Lib.hid (fun (w6 : World) (B6 : Below w.heap.size w w6) A6 k6 c6 (hb : Bks w6 w.heap.size A6 k6 c6 es vs n (ms.take from_ ++ xs ++ ms.drop to_)) => show (∃ Bv' k' ck', Blk (w6.setCell ⟨p, 1, none⟩ (.slice A6 k6 c6)) p 59 #[.slice A n c, .slice Bv' k' ck'] ∧ Bks (w6.setCell ⟨p, 1, none⟩ (.slice A6 k6 c6)) w.heap.size Bv' k' ck' es vs n (ms.take from_ ++ xs ++ ms.drop to_)) ∧ w.grownBy (w6.setCell ⟨p, 1, none⟩ (.slice A6 k6 c6)) (some p) from ⟨⟨A6, k6, c6, (hpB.below B6).set_ 1 _, hb.keep_ (gset _ _ _ _) hpl⟩, (grown_below B6).trans (gset _ _ _ _)⟩)
  have cD := Lib.hid (fun W (hb : Below w.heap.size w W) A4 c4 NL (s4 : Sl W 3 mkC A4 NL.length NL) (hc : NL.length ≤ c4) (hl : NL.length ≤ 64) (hN : ∀ x ∈ NL, MkIn es x) => (divide_any p A n c es (.slice Bv k ck) vs A4 NL.length c4 NL W (hpB.below hb) (h.ha.below hb) hbig hu s4 hl hc hC hN).mono (R' := fun e w' => ∃ v, e = .returned v ∧ dvR W es vs n NL v w') (fun e w' h => by obtain ⟨Bv, k, ck, he, h1, h2⟩ := h; exact ⟨_, he, Bv, k, ck, rfl, h1, h2⟩))
  by_cases hk0 : k = 0
  · have hms := h.none_ hk0
    subst hk0
    subst hms
    obtain rfl : to_ = 0 := by simpa using hto
    obtain rfl : from_ = 0 := by omega
    have hxl := hm.len
    simp only [List.take_nil, List.drop_nil, List.nil_append, List.append_nil] at hlen hNk FIN ⊢
    subst hxl
    have cD2 := cD.out w (Below.refl _ _) AM cm xs hm hmc hlen hNk
    clear cD h
    go_enter Tryz.func29, Tryz.ntmps29
    go_wp2_with (first | (go_at_call 18; refine cD2.mono ?_; rintro e w3 ⟨v, rfl, Bd, kd, ckd, rfl, hbd, hb3⟩; have k6 := (hpB.below hb3).cell 1 rfl; have f6 := (hpB.below hb3).frozen 1))
    refine bodyPost_ret (results_none rfl _ _ _) rfl ?_
    exact ⟨rfl, FIN.out w3 hb3 Bd kd ckd hbd⟩
  · obtain ⟨rfl, hne, g, M, mc, E, cE, B, rfl, j0, j1, hM, hE, hmcc⟩ := h.one hk0
    have hpos : 0 < ms.length := List.length_pos_iff.2 hne
    obtain ⟨aM, rfl, _⟩ := hM.rd hpos
    have cL := Lib.hid (fun W (hb : Below w.heap.size w W) at_ => locate_any p A n c es vs _ 1 ck ms at_ W (h.below hb))
    have uM := Tryz.underlying23
    have uB := Tryz.underlying57
    have c4 := fun w => run_cut_h uM sizeMk (some aM) (n := ms.length) (c := mc) (k := from_) (by omega) hmcc w
    have c5 := fun w => run_cut_l uM sizeMk (some aM) (n := ms.length) (c := mc) (l := to_) hto w
    have f0 : (0 : Int) ≤ from_ := by omega
    have fw : IntKind.i64.wrap (from_ : Int) = from_ := IntWalk.i64_in _ (by omega)
    have tw : IntKind.i64.wrap (to_ : Int) = to_ := IntWalk.i64_in _ (by omega)
    have cC := Lib.hid (fun W (hb : Below w.heap.size w W) g3 bn => catM (w := W) (g := g3) (AM := AM) (aM := aM) (from_ := from_) (to_ := to_) (m := m) (cm := cm) (mc := mc) (ms := ms) (xs := xs) bn (hM.below hb) (hm.below hb) hft hto hmcc hnone hlen)
    have ckpos : 1 ≤ ck := by
      obtain ⟨B', ⟨h1, _⟩ | ⟨_, b, o1, _⟩⟩ := h.hb
      · omega
      · exact o1.cap.1
    have c6 : ∀ w, (Instr.slice 57 (.slice (some ⟨g, 0, none⟩) 1 ck) none (some (.int .i64 0)) none).run Tryz.prog w = .ok (.slice (some ⟨g, 0, none⟩) 0 ck) w := fun w => run_cut_h uB sizeBk (some ⟨g, 0, none⟩) (n := 1) (c := ck) (k := 0) (by omega) ckpos w
    have c7 : ∀ w, (Instr.slice 57 (.slice (some ⟨g, 0, none⟩) 1 ck) (some (.int .i64 1)) none none).run Tryz.prog w = .ok (.slice (cutA (some ⟨g, 0, none⟩) 1 ck 2) 0 (ck - 1)) w := fun w => run_cut_l uB sizeBk (some ⟨g, 0, none⟩) (n := 1) (c := ck) (l := 1) (by omega) w
    have hNLlen : (ms.take from_ ++ xs ++ ms.drop to_).length = (ms.take from_ ++ xs ++ ms.drop to_).length := rfl
    obtain ⟨NL, hNL⟩ : ∃ l, ms.take from_ ++ xs ++ ms.drop to_ = l := ⟨_, rfl⟩
    rw [hNL] at cC FIN hlen hNk ⊢
    have cD := Lib.hid (fun W hb A4 c4 s4 hc => cD.out W hb A4 c4 NL s4 hc hlen hNk)
    clear hNL hNLlen h hM hE
    go_enter Tryz.func29, Tryz.ntmps29
    go_upto_region 3 with (first | (go_at_call 38; refine (cL.out _ (Below.refl _ _) _).mono ?_; rintro e w3 ⟨rfl, hb3⟩))
    go_upto_region 4 with (first | (go_at_call 38; refine (cL.out _ hb3 _).mono ?_; rintro e w4 ⟨rfl, hb4⟩; have hb4w := below_trans' hb3 hb3.size hb4))
    have q14 := keep1 hb4w q1
    have j04 := keep1 hb4w j0
    clear cL
    go_upto_region 6 with fail
    clear q14 j04
    refine wp_region_held_drew (S := fun _ => True) (by kernel_rfl) trivial (fun hHeld => ?_)
    have Bd0 : Below w.heap.size w w4.drew := bDrew hb4w
    generalize w4.drew = wd at *
    refine hx_take 0 (some 62) _ rfl (by kernel_rfl) (by kernel_rfl) (by kernel_rfl) (fun _ _ _ h => h) rfl (Or.inl ⟨by rfl, fun w hSw => by first | (go_simp; done) | (go_simp; with_reducible rfl) | (go_simp; rfl)⟩) trivial ?_
    try simp only [Act.put, List.setIfInBounds_toArray, List.set_cons_zero, List.set_cons_succ]
    refine hx_take 1 (some 63) _ rfl (by kernel_rfl) (by kernel_rfl) (by kernel_rfl) (fun _ _ _ h => h) rfl (Or.inl ⟨by rfl, fun w hSw => by first | (go_simp; done) | (go_simp; with_reducible rfl) | (go_simp; rfl)⟩) trivial ?_
    try simp only [Act.put, List.setIfInBounds_toArray, List.set_cons_zero, List.set_cons_succ]
    refine hx_take 5 (some 67) _ rfl (by kernel_rfl) (by kernel_rfl) (by kernel_rfl) (fun _ _ _ h => h) rfl (Or.inl ⟨by rfl, fun w hSw => by first | (go_simp; done) | (go_simp; with_reducible rfl) | (go_simp; rfl)⟩) trivial ?_
    try simp only [Act.put, List.setIfInBounds_toArray, List.set_cons_zero, List.set_cons_succ]
    refine hx_take 7 (some 69) _ rfl (by kernel_rfl) (by kernel_rfl) (by kernel_rfl) (fun _ _ _ h => h) rfl (Or.inl ⟨by rfl, fun w hSw => by first | (go_simp; done) | (go_simp; with_reducible rfl) | (go_simp; rfl)⟩) trivial ?_
    try simp only [Act.put, List.setIfInBounds_toArray, List.set_cons_zero, List.set_cons_succ]
    refine hx_take 8 (some 70) _ rfl (by kernel_rfl) (by kernel_rfl) (by kernel_rfl) (fun _ _ _ h => h) rfl (Or.inl ⟨by rfl, fun w hSw => by first | (go_simp; done) | (go_simp; with_reducible rfl) | (go_simp; rfl)⟩) trivial ?_
    try simp only [Act.put, List.setIfInBounds_toArray, List.set_cons_zero, List.set_cons_succ]
    refine hx_take 9 (some 71) _ rfl (by kernel_rfl) (by kernel_rfl) (by kernel_rfl) (fun _ _ _ h => h) rfl (Or.inl ⟨by rfl, fun w hSw => by first | (go_simp; done) | (go_simp; with_reducible rfl) | (go_simp; rfl)⟩) trivial ?_
    try simp only [Act.put, List.setIfInBounds_toArray, List.set_cons_zero, List.set_cons_succ]
    refine hx_take 10 (some 72) _ rfl (by kernel_rfl) (by kernel_rfl) (by kernel_rfl) (fun _ _ _ h => h) rfl (Or.inl ⟨by rfl, fun w hSw => by first | (go_simp; done) | (go_simp; with_reducible rfl) | (go_simp; rfl)⟩) trivial ?_
    try simp only [Act.put, List.setIfInBounds_toArray, List.set_cons_zero, List.set_cons_succ]
    refine hx_take 14 (some 76) _ rfl (by kernel_rfl) (by kernel_rfl) (by kernel_rfl) (fun _ _ _ h => h) rfl (Or.inl ⟨by rfl, fun w hSw => by first | (go_simp; done) | (go_simp; with_reducible rfl) | (go_simp; rfl)⟩) trivial ?_
    try simp only [Act.put, List.setIfInBounds_toArray, List.set_cons_zero, List.set_cons_succ]
    refine hx_take 18 (some 80) _ rfl (by kernel_rfl) (by kernel_rfl) (by kernel_rfl) (fun _ _ _ h => h) rfl (Or.inl ⟨by rfl, fun w hSw => by first | (go_simp; done) | (go_simp; with_reducible rfl) | (go_simp; rfl)⟩) trivial ?_
    try simp only [Act.put, List.setIfInBounds_toArray, List.set_cons_zero, List.set_cons_succ]
    refine hx_take 2 (some 64) _ rfl (by kernel_rfl) (by kernel_rfl) (by kernel_rfl) (fun _ _ _ h => h) rfl (Or.inl ⟨by rfl, fun w hSw => by first | (go_simp; done) | (go_simp; with_reducible rfl) | (go_simp; rfl)⟩) trivial ?_
    try simp only [Act.put, List.setIfInBounds_toArray, List.set_cons_zero, List.set_cons_succ]
    refine hx_take 15 (some 77) _ rfl (by kernel_rfl) (by kernel_rfl) (by kernel_rfl) (fun _ _ _ h => h) rfl (Or.inl ⟨by rfl, fun w hSw => by first | (go_simp; done) | (go_simp; with_reducible rfl) | (go_simp; rfl)⟩) trivial ?_
    try simp only [Act.put, List.setIfInBounds_toArray, List.set_cons_zero, List.set_cons_succ]
    refine hx_take 19 (some 81) _ rfl (by kernel_rfl) (by kernel_rfl) (by kernel_rfl) (fun _ _ _ h => h) rfl (Or.inl ⟨by rfl, fun w hSw => by first | (go_simp; done) | (go_simp; with_reducible rfl) | (go_simp; rfl)⟩) trivial ?_
    try simp only [Act.put, List.setIfInBounds_toArray, List.set_cons_zero, List.set_cons_succ]
    refine hx_take 3 (some 65) (.pointer (some ⟨p, 1, none⟩)) rfl (by kernel_rfl) (by kernel_rfl) (by kernel_rfl) (fun _ _ _ h => h) rfl (Or.inl ⟨by rfl, fun w hSw => by first | (go_simp; done) | (go_simp; with_reducible rfl) | (go_simp; rfl)⟩) trivial ?_
    try simp only [Act.put, List.setIfInBounds_toArray, List.set_cons_zero, List.set_cons_succ]
    refine hx_take 16 (some 78) (.pointer (some ⟨p, 1, none⟩)) rfl (by kernel_rfl) (by kernel_rfl) (by kernel_rfl) (fun _ _ _ h => h) rfl (Or.inl ⟨by rfl, fun w hSw => by first | (go_simp; done) | (go_simp; with_reducible rfl) | (go_simp; rfl)⟩) trivial ?_
    try simp only [Act.put, List.setIfInBounds_toArray, List.set_cons_zero, List.set_cons_succ]
    refine hx3 4 11 17 (by kernel_rfl) ?_ ?_ ?_
    · have q1c := keep1 Bd0 q1
      refine hx_val 4 (some 66) (.slice (some ⟨g, 0, none⟩) 1 ck) wd rfl (by rfl) rfl (by first | (go_simp; done) | (go_simp; with_reducible rfl)) trivial ?_
      try simp only [Act.put, List.setIfInBounds_toArray, List.set_cons_zero, List.set_cons_succ]
      clear q1c
      refine hx_take 6 (some 68) (.slice (some ⟨g, 0, none⟩) 0 ck) rfl (by kernel_rfl) (by kernel_rfl) (by kernel_rfl) (fun _ _ _ h => h) rfl (Or.inl ⟨by rfl, fun w hSw => by first | (go_simp; done) | (go_simp; with_reducible rfl) | (go_simp; rfl)⟩) trivial ?_
      try simp only [Act.put, List.setIfInBounds_toArray, List.set_cons_zero, List.set_cons_succ]
      refine hx2 11 17 (by kernel_rfl) ?_ ?_
      · have bn := Blk.new wd 23 #[.slice (some aM) from_ mc, .slice AM m cm, .slice (cutA (some aM) to_ mc 3) (ms.length - to_) (mc - to_)]
        have Ba2 := below_trans' Bd0 Bd0.size ((Below.refl wd.heap.size wd).alloc (Nat.le_refl _) (.cells #[.slice (some aM) from_ mc, .slice AM m cm, .slice (cutA (some aM) to_ mc 3) (ms.length - to_) (mc - to_)] 23))
        refine hx_val 11 (some 73) (.slice (some ⟨wd.heap.size, 0, none⟩) 3 3) (wd.alloc (.cells #[.slice (some aM) from_ mc, .slice AM m cm, .slice (cutA (some aM) to_ mc 3) (ms.length - to_) (mc - to_)] 23)) rfl (by rfl) rfl (by first | (go_simp; done) | (go_simp; with_reducible rfl)) trivial ?_
        try simp only [Act.put, List.setIfInBounds_toArray, List.set_cons_zero, List.set_cons_succ]
        obtain ⟨g3, hg3⟩ : ∃ q, wd.heap.size = q := ⟨_, rfl⟩
        obtain ⟨wa2, hnx⟩ : ∃ q, wd.alloc (.cells #[.slice (some aM) from_ mc, .slice AM m cm, .slice (cutA (some aM) to_ mc 3) (ms.length - to_) (mc - to_)] 23) = q := ⟨_, rfl⟩
        rw [hg3, hnx] at bn ⊢
        rw [hnx] at Ba2
        refine hx2 12 17 (by kernel_rfl) ?_ ?_
        · refine hx_callE 12 (some 74) _ _ (ccR wa2 NL) rfl (by rfl) rfl (by go_simp) (cC.out wa2 Ba2 g3 bn) ?_
          rintro v1 wa3 ⟨A4, c4, rfl, o4, hb4⟩
          have Ba3 := below_trans' Ba2 Ba2.size hb4
          refine ⟨trivial, ?_⟩
          try simp only [Act.put, List.setIfInBounds_toArray, List.set_cons_zero, List.set_cons_succ]
          refine hx2 13 17 (by kernel_rfl) ?_ ?_
          · refine hx_callE 13 (some 75) _ _ (dvR wa3 es vs n NL) rfl (by rfl) rfl (by go_simp) (cD.out wa3 Ba3 A4 c4 (o4.sl mkC_len) o4.cap.1) ?_
            rintro v2 wa4 ⟨Bd, kd, ckd, rfl, hbd, hb5⟩
            have Ba4 := below_trans' Ba3 Ba3.size hb5
            have hbd := hbd.base Ba3.size
            refine ⟨trivial, ?_⟩
            try simp only [Act.put, List.setIfInBounds_toArray, List.set_cons_zero, List.set_cons_succ]
            refine hx1 17 (by kernel_rfl) ?_
            have q1c := keep1 Ba4 q1
            refine hx_val 17 (some 79) (.slice (some ⟨g, 0, none⟩) 1 ck) wa4 rfl (by rfl) rfl (by first | (go_simp; done) | (go_simp; with_reducible rfl)) trivial ?_
            try simp only [Act.put, List.setIfInBounds_toArray, List.set_cons_zero, List.set_cons_succ]
            clear q1c
            refine hx_take 20 (some 82) (.slice (cutA (some ⟨g, 0, none⟩) 1 ck 2) 0 (ck - 1)) rfl (by kernel_rfl) (by kernel_rfl) (by kernel_rfl) (fun _ _ _ h => h) rfl (Or.inl ⟨by rfl, fun w hSw => by first | (go_simp; done) | (go_simp; with_reducible rfl) | (go_simp; rfl)⟩) trivial ?_
            try simp only [Act.put, List.setIfInBounds_toArray, List.set_cons_zero, List.set_cons_succ]
            obtain ⟨bl, sbl, nbl, hBKS⟩ := bks_list hbd
            have bn2 := Blk.new wa4 57 #[.slice (some ⟨g, 0, none⟩) 0 ck, .slice Bd kd ckd, .slice (cutA (some ⟨g, 0, none⟩) 1 ck 2) 0 (ck - 1)]
            have hbn := (Below.refl wa4.heap.size wa4).alloc (Nat.le_refl _) (.cells #[.slice (some ⟨g, 0, none⟩) 0 ck, .slice Bd kd ckd, .slice (cutA (some ⟨g, 0, none⟩) 1 ck 2) 0 (ck - 1)] 57)
            refine hx1 21 (by kernel_rfl) ?_
            refine hx_val 21 (some 83) (.slice (some ⟨wa4.heap.size, 0, none⟩) 3 3) (wa4.alloc (.cells #[.slice (some ⟨g, 0, none⟩) 0 ck, .slice Bd kd ckd, .slice (cutA (some ⟨g, 0, none⟩) 1 ck 2) 0 (ck - 1)] 57)) rfl (by rfl) rfl (by first | (go_simp; done) | (go_simp; with_reducible rfl)) trivial ?_
            try simp only [Act.put, List.setIfInBounds_toArray, List.set_cons_zero, List.set_cons_succ]
            have sbl := sbl.below hbn
            obtain ⟨g5, hg5⟩ : ∃ q, wa4.heap.size = q := ⟨_, rfl⟩
            obtain ⟨w5, hw5⟩ : ∃ q, wa4.alloc (.cells #[.slice (some ⟨g, 0, none⟩) 0 ck, .slice Bd kd ckd, .slice (cutA (some ⟨g, 0, none⟩) 1 ck 2) 0 (ck - 1)] 57) = q := ⟨_, rfl⟩
            rw [hw5] at bn2 sbl hbn ⊢
            rw [hg5] at bn2 ⊢
            have B5 := below_trans' Ba4 Ba4.size hbn
            refine hx1 22 (by kernel_rfl) ?_
            refine hx_callE 22 (some 84) _ _ (cbR w5 kd bl) rfl (by rfl) rfl (by go_simp) (catB bn2 sbl nbl (bks_le hbd)) ?_
            rintro v3 w6 ⟨A6, c6, rfl, o6, hb6⟩
            have B6 := below_trans' B5 B5.size hb6
            have hp6 := hpB.below B6
            refine ⟨trivial, ?_⟩
            try simp only [Act.put, List.setIfInBounds_toArray, List.set_cons_zero, List.set_cons_succ]
            refine hx_take 23 (some 85) _ rfl (by kernel_rfl) (by kernel_rfl) (by kernel_rfl) (fun _ _ _ h => h) rfl (Or.inl ⟨by rfl, fun w hSw => by first | (go_simp; done) | (go_simp; with_reducible rfl) | (go_simp; rfl)⟩) trivial ?_
            try simp only [Act.put, List.setIfInBounds_toArray, List.set_cons_zero, List.set_cons_succ]
            refine hx_take 24 (some 86) (.pointer (some ⟨p, 1, none⟩)) rfl (by kernel_rfl) (by kernel_rfl) (by kernel_rfl) (fun _ _ _ h => h) rfl (Or.inl ⟨by rfl, fun w hSw => by first | (go_simp; done) | (go_simp; with_reducible rfl) | (go_simp; rfl)⟩) trivial ?_
            try simp only [Act.put, List.setIfInBounds_toArray, List.set_cons_zero, List.set_cons_succ]
            have f6 := hp6.frozen 1
            have k6 := hp6.cell 1 rfl
            refine hx1 25 (by kernel_rfl) ?_
            refine hx_step 25 rfl (by rfl) (fun K hK => ?_)
            go_simp
            refine hK.out _ _ trivial ?_
            clear hK K
            try simp only [Act.put, List.setIfInBounds_toArray, List.set_cons_zero, List.set_cons_succ]
            refine wpAnyH_done (by kernel_rfl) ?_ _
            go_wp2_with fail
            go_end0
            exact ⟨rfl, FIN.out w6 B6 A6 kd c6 (hBKS.out w6 (below_trans' hbn hbn.size hb6) A6 c6 (o6.base B5.size))⟩
          · have q1c := keep1 Ba3 q1
            refine hx_val 17 (some 79) (.slice (some ⟨g, 0, none⟩) 1 ck) wa3 rfl (by rfl) rfl (by first | (go_simp; done) | (go_simp; with_reducible rfl)) trivial ?_
            try simp only [Act.put, List.setIfInBounds_toArray, List.set_cons_zero, List.set_cons_succ]
            clear q1c
            refine hx_take 20 (some 82) (.slice (cutA (some ⟨g, 0, none⟩) 1 ck 2) 0 (ck - 1)) rfl (by kernel_rfl) (by kernel_rfl) (by kernel_rfl) (fun _ _ _ h => h) rfl (Or.inl ⟨by rfl, fun w hSw => by first | (go_simp; done) | (go_simp; with_reducible rfl) | (go_simp; rfl)⟩) trivial ?_
            try simp only [Act.put, List.setIfInBounds_toArray, List.set_cons_zero, List.set_cons_succ]
            refine hx1 13 (by kernel_rfl) ?_
            refine hx_callE 13 (some 75) _ _ (dvR wa3 es vs n NL) rfl (by rfl) rfl (by go_simp) (cD.out wa3 Ba3 A4 c4 (o4.sl mkC_len) o4.cap.1) ?_
            rintro v2 wa7 ⟨Bd, kd, ckd, rfl, hbd, hb5⟩
            have Ba7 := below_trans' Ba3 Ba3.size hb5
            have hbd := hbd.base Ba3.size
            refine ⟨trivial, ?_⟩
            try simp only [Act.put, List.setIfInBounds_toArray, List.set_cons_zero, List.set_cons_succ]
            obtain ⟨bl, sbl, nbl, hBKS⟩ := bks_list hbd
            have bn2 := Blk.new wa7 57 #[.slice (some ⟨g, 0, none⟩) 0 ck, .slice Bd kd ckd, .slice (cutA (some ⟨g, 0, none⟩) 1 ck 2) 0 (ck - 1)]
            have hbn := (Below.refl wa7.heap.size wa7).alloc (Nat.le_refl _) (.cells #[.slice (some ⟨g, 0, none⟩) 0 ck, .slice Bd kd ckd, .slice (cutA (some ⟨g, 0, none⟩) 1 ck 2) 0 (ck - 1)] 57)
            refine hx1 21 (by kernel_rfl) ?_
            refine hx_val 21 (some 83) (.slice (some ⟨wa7.heap.size, 0, none⟩) 3 3) (wa7.alloc (.cells #[.slice (some ⟨g, 0, none⟩) 0 ck, .slice Bd kd ckd, .slice (cutA (some ⟨g, 0, none⟩) 1 ck 2) 0 (ck - 1)] 57)) rfl (by rfl) rfl (by first | (go_simp; done) | (go_simp; with_reducible rfl)) trivial ?_
            try simp only [Act.put, List.setIfInBounds_toArray, List.set_cons_zero, List.set_cons_succ]
            have sbl := sbl.below hbn
            obtain ⟨g5, hg5⟩ : ∃ q, wa7.heap.size = q := ⟨_, rfl⟩
            obtain ⟨w5, hw5⟩ : ∃ q, wa7.alloc (.cells #[.slice (some ⟨g, 0, none⟩) 0 ck, .slice Bd kd ckd, .slice (cutA (some ⟨g, 0, none⟩) 1 ck 2) 0 (ck - 1)] 57) = q := ⟨_, rfl⟩
            rw [hw5] at bn2 sbl hbn ⊢
            rw [hg5] at bn2 ⊢
            have B5 := below_trans' Ba7 Ba7.size hbn
            refine hx1 22 (by kernel_rfl) ?_
            refine hx_callE 22 (some 84) _ _ (cbR w5 kd bl) rfl (by rfl) rfl (by go_simp) (catB bn2 sbl nbl (bks_le hbd)) ?_
            rintro v3 w6 ⟨A6, c6, rfl, o6, hb6⟩
            have B6 := below_trans' B5 B5.size hb6
            have hp6 := hpB.below B6
            refine ⟨trivial, ?_⟩
            try simp only [Act.put, List.setIfInBounds_toArray, List.set_cons_zero, List.set_cons_succ]
            refine hx_take 23 (some 85) _ rfl (by kernel_rfl) (by kernel_rfl) (by kernel_rfl) (fun _ _ _ h => h) rfl (Or.inl ⟨by rfl, fun w hSw => by first | (go_simp; done) | (go_simp; with_reducible rfl) | (go_simp; rfl)⟩) trivial ?_
            try simp only [Act.put, List.setIfInBounds_toArray, List.set_cons_zero, List.set_cons_succ]
            refine hx_take 24 (some 86) (.pointer (some ⟨p, 1, none⟩)) rfl (by kernel_rfl) (by kernel_rfl) (by kernel_rfl) (fun _ _ _ h => h) rfl (Or.inl ⟨by rfl, fun w hSw => by first | (go_simp; done) | (go_simp; with_reducible rfl) | (go_simp; rfl)⟩) trivial ?_
            try simp only [Act.put, List.setIfInBounds_toArray, List.set_cons_zero, List.set_cons_succ]
            have f6 := hp6.frozen 1
            have k6 := hp6.cell 1 rfl
            refine hx1 25 (by kernel_rfl) ?_
            refine hx_step 25 rfl (by rfl) (fun K hK => ?_)
            go_simp
            refine hK.out _ _ trivial ?_
            clear hK K
            try simp only [Act.put, List.setIfInBounds_toArray, List.set_cons_zero, List.set_cons_succ]
            refine wpAnyH_done (by kernel_rfl) ?_ _
            go_wp2_with fail
            go_end0
            exact ⟨rfl, FIN.out w6 B6 A6 kd c6 (hBKS.out w6 (below_trans' hbn hbn.size hb6) A6 c6 (o6.base B5.size))⟩
        · have q1c := keep1 Ba2 q1
          refine hx_val 17 (some 79) (.slice (some ⟨g, 0, none⟩) 1 ck) wa2 rfl (by rfl) rfl (by first | (go_simp; done) | (go_simp; with_reducible rfl)) trivial ?_
          try simp only [Act.put, List.setIfInBounds_toArray, List.set_cons_zero, List.set_cons_succ]
          clear q1c
          refine hx_take 20 (some 82) (.slice (cutA (some ⟨g, 0, none⟩) 1 ck 2) 0 (ck - 1)) rfl (by kernel_rfl) (by kernel_rfl) (by kernel_rfl) (fun _ _ _ h => h) rfl (Or.inl ⟨by rfl, fun w hSw => by first | (go_simp; done) | (go_simp; with_reducible rfl) | (go_simp; rfl)⟩) trivial ?_
          try simp only [Act.put, List.setIfInBounds_toArray, List.set_cons_zero, List.set_cons_succ]
          refine hx1 12 (by kernel_rfl) ?_
          refine hx_callE 12 (some 74) _ _ (ccR wa2 NL) rfl (by rfl) rfl (by go_simp) (cC.out wa2 Ba2 g3 bn) ?_
          rintro v1 wa9 ⟨A4, c4, rfl, o4, hb4⟩
          have Ba9 := below_trans' Ba2 Ba2.size hb4
          refine ⟨trivial, ?_⟩
          try simp only [Act.put, List.setIfInBounds_toArray, List.set_cons_zero, List.set_cons_succ]
          refine hx1 13 (by kernel_rfl) ?_
          refine hx_callE 13 (some 75) _ _ (dvR wa9 es vs n NL) rfl (by rfl) rfl (by go_simp) (cD.out wa9 Ba9 A4 c4 (o4.sl mkC_len) o4.cap.1) ?_
          rintro v2 wa10 ⟨Bd, kd, ckd, rfl, hbd, hb5⟩
          have Ba10 := below_trans' Ba9 Ba9.size hb5
          have hbd := hbd.base Ba9.size
          refine ⟨trivial, ?_⟩
          try simp only [Act.put, List.setIfInBounds_toArray, List.set_cons_zero, List.set_cons_succ]
          obtain ⟨bl, sbl, nbl, hBKS⟩ := bks_list hbd
          have bn2 := Blk.new wa10 57 #[.slice (some ⟨g, 0, none⟩) 0 ck, .slice Bd kd ckd, .slice (cutA (some ⟨g, 0, none⟩) 1 ck 2) 0 (ck - 1)]
          have hbn := (Below.refl wa10.heap.size wa10).alloc (Nat.le_refl _) (.cells #[.slice (some ⟨g, 0, none⟩) 0 ck, .slice Bd kd ckd, .slice (cutA (some ⟨g, 0, none⟩) 1 ck 2) 0 (ck - 1)] 57)
          refine hx1 21 (by kernel_rfl) ?_
          refine hx_val 21 (some 83) (.slice (some ⟨wa10.heap.size, 0, none⟩) 3 3) (wa10.alloc (.cells #[.slice (some ⟨g, 0, none⟩) 0 ck, .slice Bd kd ckd, .slice (cutA (some ⟨g, 0, none⟩) 1 ck 2) 0 (ck - 1)] 57)) rfl (by rfl) rfl (by first | (go_simp; done) | (go_simp; with_reducible rfl)) trivial ?_
          try simp only [Act.put, List.setIfInBounds_toArray, List.set_cons_zero, List.set_cons_succ]
          have sbl := sbl.below hbn
          obtain ⟨g5, hg5⟩ : ∃ q, wa10.heap.size = q := ⟨_, rfl⟩
          obtain ⟨w5, hw5⟩ : ∃ q, wa10.alloc (.cells #[.slice (some ⟨g, 0, none⟩) 0 ck, .slice Bd kd ckd, .slice (cutA (some ⟨g, 0, none⟩) 1 ck 2) 0 (ck - 1)] 57) = q := ⟨_, rfl⟩
          rw [hw5] at bn2 sbl hbn ⊢
          rw [hg5] at bn2 ⊢
          have B5 := below_trans' Ba10 Ba10.size hbn
          refine hx1 22 (by kernel_rfl) ?_
          refine hx_callE 22 (some 84) _ _ (cbR w5 kd bl) rfl (by rfl) rfl (by go_simp) (catB bn2 sbl nbl (bks_le hbd)) ?_
          rintro v3 w6 ⟨A6, c6, rfl, o6, hb6⟩
          have B6 := below_trans' B5 B5.size hb6
          have hp6 := hpB.below B6
          refine ⟨trivial, ?_⟩
          try simp only [Act.put, List.setIfInBounds_toArray, List.set_cons_zero, List.set_cons_succ]
          refine hx_take 23 (some 85) _ rfl (by kernel_rfl) (by kernel_rfl) (by kernel_rfl) (fun _ _ _ h => h) rfl (Or.inl ⟨by rfl, fun w hSw => by first | (go_simp; done) | (go_simp; with_reducible rfl) | (go_simp; rfl)⟩) trivial ?_
          try simp only [Act.put, List.setIfInBounds_toArray, List.set_cons_zero, List.set_cons_succ]
          refine hx_take 24 (some 86) (.pointer (some ⟨p, 1, none⟩)) rfl (by kernel_rfl) (by kernel_rfl) (by kernel_rfl) (fun _ _ _ h => h) rfl (Or.inl ⟨by rfl, fun w hSw => by first | (go_simp; done) | (go_simp; with_reducible rfl) | (go_simp; rfl)⟩) trivial ?_
          try simp only [Act.put, List.setIfInBounds_toArray, List.set_cons_zero, List.set_cons_succ]
          have f6 := hp6.frozen 1
          have k6 := hp6.cell 1 rfl
          refine hx1 25 (by kernel_rfl) ?_
          refine hx_step 25 rfl (by rfl) (fun K hK => ?_)
          go_simp
          refine hK.out _ _ trivial ?_
          clear hK K
          try simp only [Act.put, List.setIfInBounds_toArray, List.set_cons_zero, List.set_cons_succ]
          refine wpAnyH_done (by kernel_rfl) ?_ _
          go_wp2_with fail
          go_end0
          exact ⟨rfl, FIN.out w6 B6 A6 kd c6 (hBKS.out w6 (below_trans' hbn hbn.size hb6) A6 c6 (o6.base B5.size))⟩
      · have q1c := keep1 Bd0 q1
        refine hx_val 17 (some 79) (.slice (some ⟨g, 0, none⟩) 1 ck) wd rfl (by rfl) rfl (by first | (go_simp; done) | (go_simp; with_reducible rfl)) trivial ?_
        try simp only [Act.put, List.setIfInBounds_toArray, List.set_cons_zero, List.set_cons_succ]
        clear q1c
        refine hx_take 20 (some 82) (.slice (cutA (some ⟨g, 0, none⟩) 1 ck 2) 0 (ck - 1)) rfl (by kernel_rfl) (by kernel_rfl) (by kernel_rfl) (fun _ _ _ h => h) rfl (Or.inl ⟨by rfl, fun w hSw => by first | (go_simp; done) | (go_simp; with_reducible rfl) | (go_simp; rfl)⟩) trivial ?_
        try simp only [Act.put, List.setIfInBounds_toArray, List.set_cons_zero, List.set_cons_succ]
        refine hx1 11 (by kernel_rfl) ?_
        have bn := Blk.new wd 23 #[.slice (some aM) from_ mc, .slice AM m cm, .slice (cutA (some aM) to_ mc 3) (ms.length - to_) (mc - to_)]
        have Ba12 := below_trans' Bd0 Bd0.size ((Below.refl wd.heap.size wd).alloc (Nat.le_refl _) (.cells #[.slice (some aM) from_ mc, .slice AM m cm, .slice (cutA (some aM) to_ mc 3) (ms.length - to_) (mc - to_)] 23))
        refine hx_val 11 (some 73) (.slice (some ⟨wd.heap.size, 0, none⟩) 3 3) (wd.alloc (.cells #[.slice (some aM) from_ mc, .slice AM m cm, .slice (cutA (some aM) to_ mc 3) (ms.length - to_) (mc - to_)] 23)) rfl (by rfl) rfl (by first | (go_simp; done) | (go_simp; with_reducible rfl)) trivial ?_
        try simp only [Act.put, List.setIfInBounds_toArray, List.set_cons_zero, List.set_cons_succ]
        obtain ⟨g3, hg3⟩ : ∃ q, wd.heap.size = q := ⟨_, rfl⟩
        obtain ⟨wa12, hnx⟩ : ∃ q, wd.alloc (.cells #[.slice (some aM) from_ mc, .slice AM m cm, .slice (cutA (some aM) to_ mc 3) (ms.length - to_) (mc - to_)] 23) = q := ⟨_, rfl⟩
        rw [hg3, hnx] at bn ⊢
        rw [hnx] at Ba12
        refine hx1 12 (by kernel_rfl) ?_
        refine hx_callE 12 (some 74) _ _ (ccR wa12 NL) rfl (by rfl) rfl (by go_simp) (cC.out wa12 Ba12 g3 bn) ?_
        rintro v1 wa13 ⟨A4, c4, rfl, o4, hb4⟩
        have Ba13 := below_trans' Ba12 Ba12.size hb4
        refine ⟨trivial, ?_⟩
        try simp only [Act.put, List.setIfInBounds_toArray, List.set_cons_zero, List.set_cons_succ]
        refine hx1 13 (by kernel_rfl) ?_
        refine hx_callE 13 (some 75) _ _ (dvR wa13 es vs n NL) rfl (by rfl) rfl (by go_simp) (cD.out wa13 Ba13 A4 c4 (o4.sl mkC_len) o4.cap.1) ?_
        rintro v2 wa14 ⟨Bd, kd, ckd, rfl, hbd, hb5⟩
        have Ba14 := below_trans' Ba13 Ba13.size hb5
        have hbd := hbd.base Ba13.size
        refine ⟨trivial, ?_⟩
        try simp only [Act.put, List.setIfInBounds_toArray, List.set_cons_zero, List.set_cons_succ]
        obtain ⟨bl, sbl, nbl, hBKS⟩ := bks_list hbd
        have bn2 := Blk.new wa14 57 #[.slice (some ⟨g, 0, none⟩) 0 ck, .slice Bd kd ckd, .slice (cutA (some ⟨g, 0, none⟩) 1 ck 2) 0 (ck - 1)]
        have hbn := (Below.refl wa14.heap.size wa14).alloc (Nat.le_refl _) (.cells #[.slice (some ⟨g, 0, none⟩) 0 ck, .slice Bd kd ckd, .slice (cutA (some ⟨g, 0, none⟩) 1 ck 2) 0 (ck - 1)] 57)
        refine hx1 21 (by kernel_rfl) ?_
        refine hx_val 21 (some 83) (.slice (some ⟨wa14.heap.size, 0, none⟩) 3 3) (wa14.alloc (.cells #[.slice (some ⟨g, 0, none⟩) 0 ck, .slice Bd kd ckd, .slice (cutA (some ⟨g, 0, none⟩) 1 ck 2) 0 (ck - 1)] 57)) rfl (by rfl) rfl (by first | (go_simp; done) | (go_simp; with_reducible rfl)) trivial ?_
        try simp only [Act.put, List.setIfInBounds_toArray, List.set_cons_zero, List.set_cons_succ]
        have sbl := sbl.below hbn
        obtain ⟨g5, hg5⟩ : ∃ q, wa14.heap.size = q := ⟨_, rfl⟩
        obtain ⟨w5, hw5⟩ : ∃ q, wa14.alloc (.cells #[.slice (some ⟨g, 0, none⟩) 0 ck, .slice Bd kd ckd, .slice (cutA (some ⟨g, 0, none⟩) 1 ck 2) 0 (ck - 1)] 57) = q := ⟨_, rfl⟩
        rw [hw5] at bn2 sbl hbn ⊢
        rw [hg5] at bn2 ⊢
        have B5 := below_trans' Ba14 Ba14.size hbn
        refine hx1 22 (by kernel_rfl) ?_
        refine hx_callE 22 (some 84) _ _ (cbR w5 kd bl) rfl (by rfl) rfl (by go_simp) (catB bn2 sbl nbl (bks_le hbd)) ?_
        rintro v3 w6 ⟨A6, c6, rfl, o6, hb6⟩
        have B6 := below_trans' B5 B5.size hb6
        have hp6 := hpB.below B6
        refine ⟨trivial, ?_⟩
        try simp only [Act.put, List.setIfInBounds_toArray, List.set_cons_zero, List.set_cons_succ]
        refine hx_take 23 (some 85) _ rfl (by kernel_rfl) (by kernel_rfl) (by kernel_rfl) (fun _ _ _ h => h) rfl (Or.inl ⟨by rfl, fun w hSw => by first | (go_simp; done) | (go_simp; with_reducible rfl) | (go_simp; rfl)⟩) trivial ?_
        try simp only [Act.put, List.setIfInBounds_toArray, List.set_cons_zero, List.set_cons_succ]
        refine hx_take 24 (some 86) (.pointer (some ⟨p, 1, none⟩)) rfl (by kernel_rfl) (by kernel_rfl) (by kernel_rfl) (fun _ _ _ h => h) rfl (Or.inl ⟨by rfl, fun w hSw => by first | (go_simp; done) | (go_simp; with_reducible rfl) | (go_simp; rfl)⟩) trivial ?_
        try simp only [Act.put, List.setIfInBounds_toArray, List.set_cons_zero, List.set_cons_succ]
        have f6 := hp6.frozen 1
        have k6 := hp6.cell 1 rfl
        refine hx1 25 (by kernel_rfl) ?_
        refine hx_step 25 rfl (by rfl) (fun K hK => ?_)
        go_simp
        refine hK.out _ _ trivial ?_
        clear hK K
        try simp only [Act.put, List.setIfInBounds_toArray, List.set_cons_zero, List.set_cons_succ]
        refine wpAnyH_done (by kernel_rfl) ?_ _
        go_wp2_with fail
        go_end0
        exact ⟨rfl, FIN.out w6 B6 A6 kd c6 (hBKS.out w6 (below_trans' hbn hbn.size hb6) A6 c6 (o6.base B5.size))⟩
    · have bn := Blk.new wd 23 #[.slice (some aM) from_ mc, .slice AM m cm, .slice (cutA (some aM) to_ mc 3) (ms.length - to_) (mc - to_)]
      have Ba15 := below_trans' Bd0 Bd0.size ((Below.refl wd.heap.size wd).alloc (Nat.le_refl _) (.cells #[.slice (some aM) from_ mc, .slice AM m cm, .slice (cutA (some aM) to_ mc 3) (ms.length - to_) (mc - to_)] 23))
      refine hx_val 11 (some 73) (.slice (some ⟨wd.heap.size, 0, none⟩) 3 3) (wd.alloc (.cells #[.slice (some aM) from_ mc, .slice AM m cm, .slice (cutA (some aM) to_ mc 3) (ms.length - to_) (mc - to_)] 23)) rfl (by rfl) rfl (by first | (go_simp; done) | (go_simp; with_reducible rfl)) trivial ?_
      try simp only [Act.put, List.setIfInBounds_toArray, List.set_cons_zero, List.set_cons_succ]
      obtain ⟨g3, hg3⟩ : ∃ q, wd.heap.size = q := ⟨_, rfl⟩
      obtain ⟨wa15, hnx⟩ : ∃ q, wd.alloc (.cells #[.slice (some aM) from_ mc, .slice AM m cm, .slice (cutA (some aM) to_ mc 3) (ms.length - to_) (mc - to_)] 23) = q := ⟨_, rfl⟩
      rw [hg3, hnx] at bn ⊢
      rw [hnx] at Ba15
      refine hx3 4 12 17 (by kernel_rfl) ?_ ?_ ?_
      · have q1c := keep1 Ba15 q1
        refine hx_val 4 (some 66) (.slice (some ⟨g, 0, none⟩) 1 ck) wa15 rfl (by rfl) rfl (by first | (go_simp; done) | (go_simp; with_reducible rfl)) trivial ?_
        try simp only [Act.put, List.setIfInBounds_toArray, List.set_cons_zero, List.set_cons_succ]
        clear q1c
        refine hx_take 6 (some 68) (.slice (some ⟨g, 0, none⟩) 0 ck) rfl (by kernel_rfl) (by kernel_rfl) (by kernel_rfl) (fun _ _ _ h => h) rfl (Or.inl ⟨by rfl, fun w hSw => by first | (go_simp; done) | (go_simp; with_reducible rfl) | (go_simp; rfl)⟩) trivial ?_
        try simp only [Act.put, List.setIfInBounds_toArray, List.set_cons_zero, List.set_cons_succ]
        refine hx2 12 17 (by kernel_rfl) ?_ ?_
        · refine hx_callE 12 (some 74) _ _ (ccR wa15 NL) rfl (by rfl) rfl (by go_simp) (cC.out wa15 Ba15 g3 bn) ?_
          rintro v1 wa17 ⟨A4, c4, rfl, o4, hb4⟩
          have Ba17 := below_trans' Ba15 Ba15.size hb4
          refine ⟨trivial, ?_⟩
          try simp only [Act.put, List.setIfInBounds_toArray, List.set_cons_zero, List.set_cons_succ]
          refine hx2 13 17 (by kernel_rfl) ?_ ?_
          · refine hx_callE 13 (some 75) _ _ (dvR wa17 es vs n NL) rfl (by rfl) rfl (by go_simp) (cD.out wa17 Ba17 A4 c4 (o4.sl mkC_len) o4.cap.1) ?_
            rintro v2 wa18 ⟨Bd, kd, ckd, rfl, hbd, hb5⟩
            have Ba18 := below_trans' Ba17 Ba17.size hb5
            have hbd := hbd.base Ba17.size
            refine ⟨trivial, ?_⟩
            try simp only [Act.put, List.setIfInBounds_toArray, List.set_cons_zero, List.set_cons_succ]
            refine hx1 17 (by kernel_rfl) ?_
            have q1c := keep1 Ba18 q1
            refine hx_val 17 (some 79) (.slice (some ⟨g, 0, none⟩) 1 ck) wa18 rfl (by rfl) rfl (by first | (go_simp; done) | (go_simp; with_reducible rfl)) trivial ?_
            try simp only [Act.put, List.setIfInBounds_toArray, List.set_cons_zero, List.set_cons_succ]
            clear q1c
            refine hx_take 20 (some 82) (.slice (cutA (some ⟨g, 0, none⟩) 1 ck 2) 0 (ck - 1)) rfl (by kernel_rfl) (by kernel_rfl) (by kernel_rfl) (fun _ _ _ h => h) rfl (Or.inl ⟨by rfl, fun w hSw => by first | (go_simp; done) | (go_simp; with_reducible rfl) | (go_simp; rfl)⟩) trivial ?_
            try simp only [Act.put, List.setIfInBounds_toArray, List.set_cons_zero, List.set_cons_succ]
            obtain ⟨bl, sbl, nbl, hBKS⟩ := bks_list hbd
            have bn2 := Blk.new wa18 57 #[.slice (some ⟨g, 0, none⟩) 0 ck, .slice Bd kd ckd, .slice (cutA (some ⟨g, 0, none⟩) 1 ck 2) 0 (ck - 1)]
            have hbn := (Below.refl wa18.heap.size wa18).alloc (Nat.le_refl _) (.cells #[.slice (some ⟨g, 0, none⟩) 0 ck, .slice Bd kd ckd, .slice (cutA (some ⟨g, 0, none⟩) 1 ck 2) 0 (ck - 1)] 57)
            refine hx1 21 (by kernel_rfl) ?_
            refine hx_val 21 (some 83) (.slice (some ⟨wa18.heap.size, 0, none⟩) 3 3) (wa18.alloc (.cells #[.slice (some ⟨g, 0, none⟩) 0 ck, .slice Bd kd ckd, .slice (cutA (some ⟨g, 0, none⟩) 1 ck 2) 0 (ck - 1)] 57)) rfl (by rfl) rfl (by first | (go_simp; done) | (go_simp; with_reducible rfl)) trivial ?_
            try simp only [Act.put, List.setIfInBounds_toArray, List.set_cons_zero, List.set_cons_succ]
            have sbl := sbl.below hbn
            obtain ⟨g5, hg5⟩ : ∃ q, wa18.heap.size = q := ⟨_, rfl⟩
            obtain ⟨w5, hw5⟩ : ∃ q, wa18.alloc (.cells #[.slice (some ⟨g, 0, none⟩) 0 ck, .slice Bd kd ckd, .slice (cutA (some ⟨g, 0, none⟩) 1 ck 2) 0 (ck - 1)] 57) = q := ⟨_, rfl⟩
            rw [hw5] at bn2 sbl hbn ⊢
            rw [hg5] at bn2 ⊢
            have B5 := below_trans' Ba18 Ba18.size hbn
            refine hx1 22 (by kernel_rfl) ?_
            refine hx_callE 22 (some 84) _ _ (cbR w5 kd bl) rfl (by rfl) rfl (by go_simp) (catB bn2 sbl nbl (bks_le hbd)) ?_
            rintro v3 w6 ⟨A6, c6, rfl, o6, hb6⟩
            have B6 := below_trans' B5 B5.size hb6
            have hp6 := hpB.below B6
            refine ⟨trivial, ?_⟩
            try simp only [Act.put, List.setIfInBounds_toArray, List.set_cons_zero, List.set_cons_succ]
            refine hx_take 23 (some 85) _ rfl (by kernel_rfl) (by kernel_rfl) (by kernel_rfl) (fun _ _ _ h => h) rfl (Or.inl ⟨by rfl, fun w hSw => by first | (go_simp; done) | (go_simp; with_reducible rfl) | (go_simp; rfl)⟩) trivial ?_
            try simp only [Act.put, List.setIfInBounds_toArray, List.set_cons_zero, List.set_cons_succ]
            refine hx_take 24 (some 86) (.pointer (some ⟨p, 1, none⟩)) rfl (by kernel_rfl) (by kernel_rfl) (by kernel_rfl) (fun _ _ _ h => h) rfl (Or.inl ⟨by rfl, fun w hSw => by first | (go_simp; done) | (go_simp; with_reducible rfl) | (go_simp; rfl)⟩) trivial ?_
            try simp only [Act.put, List.setIfInBounds_toArray, List.set_cons_zero, List.set_cons_succ]
            have f6 := hp6.frozen 1
            have k6 := hp6.cell 1 rfl
            refine hx1 25 (by kernel_rfl) ?_
            refine hx_step 25 rfl (by rfl) (fun K hK => ?_)
            go_simp
            refine hK.out _ _ trivial ?_
            clear hK K
            try simp only [Act.put, List.setIfInBounds_toArray, List.set_cons_zero, List.set_cons_succ]
            refine wpAnyH_done (by kernel_rfl) ?_ _
            go_wp2_with fail
            go_end0
            exact ⟨rfl, FIN.out w6 B6 A6 kd c6 (hBKS.out w6 (below_trans' hbn hbn.size hb6) A6 c6 (o6.base B5.size))⟩
          · have q1c := keep1 Ba17 q1
            refine hx_val 17 (some 79) (.slice (some ⟨g, 0, none⟩) 1 ck) wa17 rfl (by rfl) rfl (by first | (go_simp; done) | (go_simp; with_reducible rfl)) trivial ?_
            try simp only [Act.put, List.setIfInBounds_toArray, List.set_cons_zero, List.set_cons_succ]
            clear q1c
            refine hx_take 20 (some 82) (.slice (cutA (some ⟨g, 0, none⟩) 1 ck 2) 0 (ck - 1)) rfl (by kernel_rfl) (by kernel_rfl) (by kernel_rfl) (fun _ _ _ h => h) rfl (Or.inl ⟨by rfl, fun w hSw => by first | (go_simp; done) | (go_simp; with_reducible rfl) | (go_simp; rfl)⟩) trivial ?_
            try simp only [Act.put, List.setIfInBounds_toArray, List.set_cons_zero, List.set_cons_succ]
            refine hx1 13 (by kernel_rfl) ?_
            refine hx_callE 13 (some 75) _ _ (dvR wa17 es vs n NL) rfl (by rfl) rfl (by go_simp) (cD.out wa17 Ba17 A4 c4 (o4.sl mkC_len) o4.cap.1) ?_
            rintro v2 wa21 ⟨Bd, kd, ckd, rfl, hbd, hb5⟩
            have Ba21 := below_trans' Ba17 Ba17.size hb5
            have hbd := hbd.base Ba17.size
            refine ⟨trivial, ?_⟩
            try simp only [Act.put, List.setIfInBounds_toArray, List.set_cons_zero, List.set_cons_succ]
            obtain ⟨bl, sbl, nbl, hBKS⟩ := bks_list hbd
            have bn2 := Blk.new wa21 57 #[.slice (some ⟨g, 0, none⟩) 0 ck, .slice Bd kd ckd, .slice (cutA (some ⟨g, 0, none⟩) 1 ck 2) 0 (ck - 1)]
            have hbn := (Below.refl wa21.heap.size wa21).alloc (Nat.le_refl _) (.cells #[.slice (some ⟨g, 0, none⟩) 0 ck, .slice Bd kd ckd, .slice (cutA (some ⟨g, 0, none⟩) 1 ck 2) 0 (ck - 1)] 57)
            refine hx1 21 (by kernel_rfl) ?_
            refine hx_val 21 (some 83) (.slice (some ⟨wa21.heap.size, 0, none⟩) 3 3) (wa21.alloc (.cells #[.slice (some ⟨g, 0, none⟩) 0 ck, .slice Bd kd ckd, .slice (cutA (some ⟨g, 0, none⟩) 1 ck 2) 0 (ck - 1)] 57)) rfl (by rfl) rfl (by first | (go_simp; done) | (go_simp; with_reducible rfl)) trivial ?_
            try simp only [Act.put, List.setIfInBounds_toArray, List.set_cons_zero, List.set_cons_succ]
            have sbl := sbl.below hbn
            obtain ⟨g5, hg5⟩ : ∃ q, wa21.heap.size = q := ⟨_, rfl⟩
            obtain ⟨w5, hw5⟩ : ∃ q, wa21.alloc (.cells #[.slice (some ⟨g, 0, none⟩) 0 ck, .slice Bd kd ckd, .slice (cutA (some ⟨g, 0, none⟩) 1 ck 2) 0 (ck - 1)] 57) = q := ⟨_, rfl⟩
            rw [hw5] at bn2 sbl hbn ⊢
            rw [hg5] at bn2 ⊢
            have B5 := below_trans' Ba21 Ba21.size hbn
            refine hx1 22 (by kernel_rfl) ?_
            refine hx_callE 22 (some 84) _ _ (cbR w5 kd bl) rfl (by rfl) rfl (by go_simp) (catB bn2 sbl nbl (bks_le hbd)) ?_
            rintro v3 w6 ⟨A6, c6, rfl, o6, hb6⟩
            have B6 := below_trans' B5 B5.size hb6
            have hp6 := hpB.below B6
            refine ⟨trivial, ?_⟩
            try simp only [Act.put, List.setIfInBounds_toArray, List.set_cons_zero, List.set_cons_succ]
            refine hx_take 23 (some 85) _ rfl (by kernel_rfl) (by kernel_rfl) (by kernel_rfl) (fun _ _ _ h => h) rfl (Or.inl ⟨by rfl, fun w hSw => by first | (go_simp; done) | (go_simp; with_reducible rfl) | (go_simp; rfl)⟩) trivial ?_
            try simp only [Act.put, List.setIfInBounds_toArray, List.set_cons_zero, List.set_cons_succ]
            refine hx_take 24 (some 86) (.pointer (some ⟨p, 1, none⟩)) rfl (by kernel_rfl) (by kernel_rfl) (by kernel_rfl) (fun _ _ _ h => h) rfl (Or.inl ⟨by rfl, fun w hSw => by first | (go_simp; done) | (go_simp; with_reducible rfl) | (go_simp; rfl)⟩) trivial ?_
            try simp only [Act.put, List.setIfInBounds_toArray, List.set_cons_zero, List.set_cons_succ]
            have f6 := hp6.frozen 1
            have k6 := hp6.cell 1 rfl
            refine hx1 25 (by kernel_rfl) ?_
            refine hx_step 25 rfl (by rfl) (fun K hK => ?_)
            go_simp
            refine hK.out _ _ trivial ?_
            clear hK K
            try simp only [Act.put, List.setIfInBounds_toArray, List.set_cons_zero, List.set_cons_succ]
            refine wpAnyH_done (by kernel_rfl) ?_ _
            go_wp2_with fail
            go_end0
            exact ⟨rfl, FIN.out w6 B6 A6 kd c6 (hBKS.out w6 (below_trans' hbn hbn.size hb6) A6 c6 (o6.base B5.size))⟩
        · have q1c := keep1 Ba15 q1
          refine hx_val 17 (some 79) (.slice (some ⟨g, 0, none⟩) 1 ck) wa15 rfl (by rfl) rfl (by first | (go_simp; done) | (go_simp; with_reducible rfl)) trivial ?_
          try simp only [Act.put, List.setIfInBounds_toArray, List.set_cons_zero, List.set_cons_succ]
          clear q1c
          refine hx_take 20 (some 82) (.slice (cutA (some ⟨g, 0, none⟩) 1 ck 2) 0 (ck - 1)) rfl (by kernel_rfl) (by kernel_rfl) (by kernel_rfl) (fun _ _ _ h => h) rfl (Or.inl ⟨by rfl, fun w hSw => by first | (go_simp; done) | (go_simp; with_reducible rfl) | (go_simp; rfl)⟩) trivial ?_
          try simp only [Act.put, List.setIfInBounds_toArray, List.set_cons_zero, List.set_cons_succ]
          refine hx1 12 (by kernel_rfl) ?_
          refine hx_callE 12 (some 74) _ _ (ccR wa15 NL) rfl (by rfl) rfl (by go_simp) (cC.out wa15 Ba15 g3 bn) ?_
          rintro v1 wa23 ⟨A4, c4, rfl, o4, hb4⟩
          have Ba23 := below_trans' Ba15 Ba15.size hb4
          refine ⟨trivial, ?_⟩
          try simp only [Act.put, List.setIfInBounds_toArray, List.set_cons_zero, List.set_cons_succ]
          refine hx1 13 (by kernel_rfl) ?_
          refine hx_callE 13 (some 75) _ _ (dvR wa23 es vs n NL) rfl (by rfl) rfl (by go_simp) (cD.out wa23 Ba23 A4 c4 (o4.sl mkC_len) o4.cap.1) ?_
          rintro v2 wa24 ⟨Bd, kd, ckd, rfl, hbd, hb5⟩
          have Ba24 := below_trans' Ba23 Ba23.size hb5
          have hbd := hbd.base Ba23.size
          refine ⟨trivial, ?_⟩
          try simp only [Act.put, List.setIfInBounds_toArray, List.set_cons_zero, List.set_cons_succ]
          obtain ⟨bl, sbl, nbl, hBKS⟩ := bks_list hbd
          have bn2 := Blk.new wa24 57 #[.slice (some ⟨g, 0, none⟩) 0 ck, .slice Bd kd ckd, .slice (cutA (some ⟨g, 0, none⟩) 1 ck 2) 0 (ck - 1)]
          have hbn := (Below.refl wa24.heap.size wa24).alloc (Nat.le_refl _) (.cells #[.slice (some ⟨g, 0, none⟩) 0 ck, .slice Bd kd ckd, .slice (cutA (some ⟨g, 0, none⟩) 1 ck 2) 0 (ck - 1)] 57)
          refine hx1 21 (by kernel_rfl) ?_
          refine hx_val 21 (some 83) (.slice (some ⟨wa24.heap.size, 0, none⟩) 3 3) (wa24.alloc (.cells #[.slice (some ⟨g, 0, none⟩) 0 ck, .slice Bd kd ckd, .slice (cutA (some ⟨g, 0, none⟩) 1 ck 2) 0 (ck - 1)] 57)) rfl (by rfl) rfl (by first | (go_simp; done) | (go_simp; with_reducible rfl)) trivial ?_
          try simp only [Act.put, List.setIfInBounds_toArray, List.set_cons_zero, List.set_cons_succ]
          have sbl := sbl.below hbn
          obtain ⟨g5, hg5⟩ : ∃ q, wa24.heap.size = q := ⟨_, rfl⟩
          obtain ⟨w5, hw5⟩ : ∃ q, wa24.alloc (.cells #[.slice (some ⟨g, 0, none⟩) 0 ck, .slice Bd kd ckd, .slice (cutA (some ⟨g, 0, none⟩) 1 ck 2) 0 (ck - 1)] 57) = q := ⟨_, rfl⟩
          rw [hw5] at bn2 sbl hbn ⊢
          rw [hg5] at bn2 ⊢
          have B5 := below_trans' Ba24 Ba24.size hbn
          refine hx1 22 (by kernel_rfl) ?_
          refine hx_callE 22 (some 84) _ _ (cbR w5 kd bl) rfl (by rfl) rfl (by go_simp) (catB bn2 sbl nbl (bks_le hbd)) ?_
          rintro v3 w6 ⟨A6, c6, rfl, o6, hb6⟩
          have B6 := below_trans' B5 B5.size hb6
          have hp6 := hpB.below B6
          refine ⟨trivial, ?_⟩
          try simp only [Act.put, List.setIfInBounds_toArray, List.set_cons_zero, List.set_cons_succ]
          refine hx_take 23 (some 85) _ rfl (by kernel_rfl) (by kernel_rfl) (by kernel_rfl) (fun _ _ _ h => h) rfl (Or.inl ⟨by rfl, fun w hSw => by first | (go_simp; done) | (go_simp; with_reducible rfl) | (go_simp; rfl)⟩) trivial ?_
          try simp only [Act.put, List.setIfInBounds_toArray, List.set_cons_zero, List.set_cons_succ]
          refine hx_take 24 (some 86) (.pointer (some ⟨p, 1, none⟩)) rfl (by kernel_rfl) (by kernel_rfl) (by kernel_rfl) (fun _ _ _ h => h) rfl (Or.inl ⟨by rfl, fun w hSw => by first | (go_simp; done) | (go_simp; with_reducible rfl) | (go_simp; rfl)⟩) trivial ?_
          try simp only [Act.put, List.setIfInBounds_toArray, List.set_cons_zero, List.set_cons_succ]
          have f6 := hp6.frozen 1
          have k6 := hp6.cell 1 rfl
          refine hx1 25 (by kernel_rfl) ?_
          refine hx_step 25 rfl (by rfl) (fun K hK => ?_)
          go_simp
          refine hK.out _ _ trivial ?_
          clear hK K
          try simp only [Act.put, List.setIfInBounds_toArray, List.set_cons_zero, List.set_cons_succ]
          refine wpAnyH_done (by kernel_rfl) ?_ _
          go_wp2_with fail
          go_end0
          exact ⟨rfl, FIN.out w6 B6 A6 kd c6 (hBKS.out w6 (below_trans' hbn hbn.size hb6) A6 c6 (o6.base B5.size))⟩
      · refine hx_callE 12 (some 74) _ _ (ccR wa15 NL) rfl (by rfl) rfl (by go_simp) (cC.out wa15 Ba15 g3 bn) ?_
        rintro v1 wa25 ⟨A4, c4, rfl, o4, hb4⟩
        have Ba25 := below_trans' Ba15 Ba15.size hb4
        refine ⟨trivial, ?_⟩
        try simp only [Act.put, List.setIfInBounds_toArray, List.set_cons_zero, List.set_cons_succ]
        refine hx3 4 13 17 (by kernel_rfl) ?_ ?_ ?_
        · have q1c := keep1 Ba25 q1
          refine hx_val 4 (some 66) (.slice (some ⟨g, 0, none⟩) 1 ck) wa25 rfl (by rfl) rfl (by first | (go_simp; done) | (go_simp; with_reducible rfl)) trivial ?_
          try simp only [Act.put, List.setIfInBounds_toArray, List.set_cons_zero, List.set_cons_succ]
          clear q1c
          refine hx_take 6 (some 68) (.slice (some ⟨g, 0, none⟩) 0 ck) rfl (by kernel_rfl) (by kernel_rfl) (by kernel_rfl) (fun _ _ _ h => h) rfl (Or.inl ⟨by rfl, fun w hSw => by first | (go_simp; done) | (go_simp; with_reducible rfl) | (go_simp; rfl)⟩) trivial ?_
          try simp only [Act.put, List.setIfInBounds_toArray, List.set_cons_zero, List.set_cons_succ]
          refine hx2 13 17 (by kernel_rfl) ?_ ?_
          · refine hx_callE 13 (some 75) _ _ (dvR wa25 es vs n NL) rfl (by rfl) rfl (by go_simp) (cD.out wa25 Ba25 A4 c4 (o4.sl mkC_len) o4.cap.1) ?_
            rintro v2 wa27 ⟨Bd, kd, ckd, rfl, hbd, hb5⟩
            have Ba27 := below_trans' Ba25 Ba25.size hb5
            have hbd := hbd.base Ba25.size
            refine ⟨trivial, ?_⟩
            try simp only [Act.put, List.setIfInBounds_toArray, List.set_cons_zero, List.set_cons_succ]
            refine hx1 17 (by kernel_rfl) ?_
            have q1c := keep1 Ba27 q1
            refine hx_val 17 (some 79) (.slice (some ⟨g, 0, none⟩) 1 ck) wa27 rfl (by rfl) rfl (by first | (go_simp; done) | (go_simp; with_reducible rfl)) trivial ?_
            try simp only [Act.put, List.setIfInBounds_toArray, List.set_cons_zero, List.set_cons_succ]
            clear q1c
            refine hx_take 20 (some 82) (.slice (cutA (some ⟨g, 0, none⟩) 1 ck 2) 0 (ck - 1)) rfl (by kernel_rfl) (by kernel_rfl) (by kernel_rfl) (fun _ _ _ h => h) rfl (Or.inl ⟨by rfl, fun w hSw => by first | (go_simp; done) | (go_simp; with_reducible rfl) | (go_simp; rfl)⟩) trivial ?_
            try simp only [Act.put, List.setIfInBounds_toArray, List.set_cons_zero, List.set_cons_succ]
            obtain ⟨bl, sbl, nbl, hBKS⟩ := bks_list hbd
            have bn2 := Blk.new wa27 57 #[.slice (some ⟨g, 0, none⟩) 0 ck, .slice Bd kd ckd, .slice (cutA (some ⟨g, 0, none⟩) 1 ck 2) 0 (ck - 1)]
            have hbn := (Below.refl wa27.heap.size wa27).alloc (Nat.le_refl _) (.cells #[.slice (some ⟨g, 0, none⟩) 0 ck, .slice Bd kd ckd, .slice (cutA (some ⟨g, 0, none⟩) 1 ck 2) 0 (ck - 1)] 57)
            refine hx1 21 (by kernel_rfl) ?_
            refine hx_val 21 (some 83) (.slice (some ⟨wa27.heap.size, 0, none⟩) 3 3) (wa27.alloc (.cells #[.slice (some ⟨g, 0, none⟩) 0 ck, .slice Bd kd ckd, .slice (cutA (some ⟨g, 0, none⟩) 1 ck 2) 0 (ck - 1)] 57)) rfl (by rfl) rfl (by first | (go_simp; done) | (go_simp; with_reducible rfl)) trivial ?_
            try simp only [Act.put, List.setIfInBounds_toArray, List.set_cons_zero, List.set_cons_succ]
            have sbl := sbl.below hbn
            obtain ⟨g5, hg5⟩ : ∃ q, wa27.heap.size = q := ⟨_, rfl⟩
            obtain ⟨w5, hw5⟩ : ∃ q, wa27.alloc (.cells #[.slice (some ⟨g, 0, none⟩) 0 ck, .slice Bd kd ckd, .slice (cutA (some ⟨g, 0, none⟩) 1 ck 2) 0 (ck - 1)] 57) = q := ⟨_, rfl⟩
            rw [hw5] at bn2 sbl hbn ⊢
            rw [hg5] at bn2 ⊢
            have B5 := below_trans' Ba27 Ba27.size hbn
            refine hx1 22 (by kernel_rfl) ?_
            refine hx_callE 22 (some 84) _ _ (cbR w5 kd bl) rfl (by rfl) rfl (by go_simp) (catB bn2 sbl nbl (bks_le hbd)) ?_
            rintro v3 w6 ⟨A6, c6, rfl, o6, hb6⟩
            have B6 := below_trans' B5 B5.size hb6
            have hp6 := hpB.below B6
            refine ⟨trivial, ?_⟩
            try simp only [Act.put, List.setIfInBounds_toArray, List.set_cons_zero, List.set_cons_succ]
            refine hx_take 23 (some 85) _ rfl (by kernel_rfl) (by kernel_rfl) (by kernel_rfl) (fun _ _ _ h => h) rfl (Or.inl ⟨by rfl, fun w hSw => by first | (go_simp; done) | (go_simp; with_reducible rfl) | (go_simp; rfl)⟩) trivial ?_
            try simp only [Act.put, List.setIfInBounds_toArray, List.set_cons_zero, List.set_cons_succ]
            refine hx_take 24 (some 86) (.pointer (some ⟨p, 1, none⟩)) rfl (by kernel_rfl) (by kernel_rfl) (by kernel_rfl) (fun _ _ _ h => h) rfl (Or.inl ⟨by rfl, fun w hSw => by first | (go_simp; done) | (go_simp; with_reducible rfl) | (go_simp; rfl)⟩) trivial ?_
            try simp only [Act.put, List.setIfInBounds_toArray, List.set_cons_zero, List.set_cons_succ]
            have f6 := hp6.frozen 1
            have k6 := hp6.cell 1 rfl
            refine hx1 25 (by kernel_rfl) ?_
            refine hx_step 25 rfl (by rfl) (fun K hK => ?_)
            go_simp
            refine hK.out _ _ trivial ?_
            clear hK K
            try simp only [Act.put, List.setIfInBounds_toArray, List.set_cons_zero, List.set_cons_succ]
            refine wpAnyH_done (by kernel_rfl) ?_ _
            go_wp2_with fail
            go_end0
            exact ⟨rfl, FIN.out w6 B6 A6 kd c6 (hBKS.out w6 (below_trans' hbn hbn.size hb6) A6 c6 (o6.base B5.size))⟩
          · have q1c := keep1 Ba25 q1
            refine hx_val 17 (some 79) (.slice (some ⟨g, 0, none⟩) 1 ck) wa25 rfl (by rfl) rfl (by first | (go_simp; done) | (go_simp; with_reducible rfl)) trivial ?_
            try simp only [Act.put, List.setIfInBounds_toArray, List.set_cons_zero, List.set_cons_succ]
            clear q1c
            refine hx_take 20 (some 82) (.slice (cutA (some ⟨g, 0, none⟩) 1 ck 2) 0 (ck - 1)) rfl (by kernel_rfl) (by kernel_rfl) (by kernel_rfl) (fun _ _ _ h => h) rfl (Or.inl ⟨by rfl, fun w hSw => by first | (go_simp; done) | (go_simp; with_reducible rfl) | (go_simp; rfl)⟩) trivial ?_
            try simp only [Act.put, List.setIfInBounds_toArray, List.set_cons_zero, List.set_cons_succ]
            refine hx1 13 (by kernel_rfl) ?_
            refine hx_callE 13 (some 75) _ _ (dvR wa25 es vs n NL) rfl (by rfl) rfl (by go_simp) (cD.out wa25 Ba25 A4 c4 (o4.sl mkC_len) o4.cap.1) ?_
            rintro v2 wa30 ⟨Bd, kd, ckd, rfl, hbd, hb5⟩
            have Ba30 := below_trans' Ba25 Ba25.size hb5
            have hbd := hbd.base Ba25.size
            refine ⟨trivial, ?_⟩
            try simp only [Act.put, List.setIfInBounds_toArray, List.set_cons_zero, List.set_cons_succ]
            obtain ⟨bl, sbl, nbl, hBKS⟩ := bks_list hbd
            have bn2 := Blk.new wa30 57 #[.slice (some ⟨g, 0, none⟩) 0 ck, .slice Bd kd ckd, .slice (cutA (some ⟨g, 0, none⟩) 1 ck 2) 0 (ck - 1)]
            have hbn := (Below.refl wa30.heap.size wa30).alloc (Nat.le_refl _) (.cells #[.slice (some ⟨g, 0, none⟩) 0 ck, .slice Bd kd ckd, .slice (cutA (some ⟨g, 0, none⟩) 1 ck 2) 0 (ck - 1)] 57)
            refine hx1 21 (by kernel_rfl) ?_
            refine hx_val 21 (some 83) (.slice (some ⟨wa30.heap.size, 0, none⟩) 3 3) (wa30.alloc (.cells #[.slice (some ⟨g, 0, none⟩) 0 ck, .slice Bd kd ckd, .slice (cutA (some ⟨g, 0, none⟩) 1 ck 2) 0 (ck - 1)] 57)) rfl (by rfl) rfl (by first | (go_simp; done) | (go_simp; with_reducible rfl)) trivial ?_
            try simp only [Act.put, List.setIfInBounds_toArray, List.set_cons_zero, List.set_cons_succ]
            have sbl := sbl.below hbn
            obtain ⟨g5, hg5⟩ : ∃ q, wa30.heap.size = q := ⟨_, rfl⟩
            obtain ⟨w5, hw5⟩ : ∃ q, wa30.alloc (.cells #[.slice (some ⟨g, 0, none⟩) 0 ck, .slice Bd kd ckd, .slice (cutA (some ⟨g, 0, none⟩) 1 ck 2) 0 (ck - 1)] 57) = q := ⟨_, rfl⟩
            rw [hw5] at bn2 sbl hbn ⊢
            rw [hg5] at bn2 ⊢
            have B5 := below_trans' Ba30 Ba30.size hbn
            refine hx1 22 (by kernel_rfl) ?_
            refine hx_callE 22 (some 84) _ _ (cbR w5 kd bl) rfl (by rfl) rfl (by go_simp) (catB bn2 sbl nbl (bks_le hbd)) ?_
            rintro v3 w6 ⟨A6, c6, rfl, o6, hb6⟩
            have B6 := below_trans' B5 B5.size hb6
            have hp6 := hpB.below B6
            refine ⟨trivial, ?_⟩
            try simp only [Act.put, List.setIfInBounds_toArray, List.set_cons_zero, List.set_cons_succ]
            refine hx_take 23 (some 85) _ rfl (by kernel_rfl) (by kernel_rfl) (by kernel_rfl) (fun _ _ _ h => h) rfl (Or.inl ⟨by rfl, fun w hSw => by first | (go_simp; done) | (go_simp; with_reducible rfl) | (go_simp; rfl)⟩) trivial ?_
            try simp only [Act.put, List.setIfInBounds_toArray, List.set_cons_zero, List.set_cons_succ]
            refine hx_take 24 (some 86) (.pointer (some ⟨p, 1, none⟩)) rfl (by kernel_rfl) (by kernel_rfl) (by kernel_rfl) (fun _ _ _ h => h) rfl (Or.inl ⟨by rfl, fun w hSw => by first | (go_simp; done) | (go_simp; with_reducible rfl) | (go_simp; rfl)⟩) trivial ?_
            try simp only [Act.put, List.setIfInBounds_toArray, List.set_cons_zero, List.set_cons_succ]
            have f6 := hp6.frozen 1
            have k6 := hp6.cell 1 rfl
            refine hx1 25 (by kernel_rfl) ?_
            refine hx_step 25 rfl (by rfl) (fun K hK => ?_)
            go_simp
            refine hK.out _ _ trivial ?_
            clear hK K
            try simp only [Act.put, List.setIfInBounds_toArray, List.set_cons_zero, List.set_cons_succ]
            refine wpAnyH_done (by kernel_rfl) ?_ _
            go_wp2_with fail
            go_end0
            exact ⟨rfl, FIN.out w6 B6 A6 kd c6 (hBKS.out w6 (below_trans' hbn hbn.size hb6) A6 c6 (o6.base B5.size))⟩
        · refine hx_callE 13 (some 75) _ _ (dvR wa25 es vs n NL) rfl (by rfl) rfl (by go_simp) (cD.out wa25 Ba25 A4 c4 (o4.sl mkC_len) o4.cap.1) ?_
          rintro v2 wa31 ⟨Bd, kd, ckd, rfl, hbd, hb5⟩
          have Ba31 := below_trans' Ba25 Ba25.size hb5
          have hbd := hbd.base Ba25.size
          refine ⟨trivial, ?_⟩
          try simp only [Act.put, List.setIfInBounds_toArray, List.set_cons_zero, List.set_cons_succ]
          refine hx2 4 17 (by kernel_rfl) ?_ ?_
          · have q1c := keep1 Ba31 q1
            refine hx_val 4 (some 66) (.slice (some ⟨g, 0, none⟩) 1 ck) wa31 rfl (by rfl) rfl (by first | (go_simp; done) | (go_simp; with_reducible rfl)) trivial ?_
            try simp only [Act.put, List.setIfInBounds_toArray, List.set_cons_zero, List.set_cons_succ]
            clear q1c
            refine hx_take 6 (some 68) (.slice (some ⟨g, 0, none⟩) 0 ck) rfl (by kernel_rfl) (by kernel_rfl) (by kernel_rfl) (fun _ _ _ h => h) rfl (Or.inl ⟨by rfl, fun w hSw => by first | (go_simp; done) | (go_simp; with_reducible rfl) | (go_simp; rfl)⟩) trivial ?_
            try simp only [Act.put, List.setIfInBounds_toArray, List.set_cons_zero, List.set_cons_succ]
            refine hx1 17 (by kernel_rfl) ?_
            have q1c := keep1 Ba31 q1
            refine hx_val 17 (some 79) (.slice (some ⟨g, 0, none⟩) 1 ck) wa31 rfl (by rfl) rfl (by first | (go_simp; done) | (go_simp; with_reducible rfl)) trivial ?_
            try simp only [Act.put, List.setIfInBounds_toArray, List.set_cons_zero, List.set_cons_succ]
            clear q1c
            refine hx_take 20 (some 82) (.slice (cutA (some ⟨g, 0, none⟩) 1 ck 2) 0 (ck - 1)) rfl (by kernel_rfl) (by kernel_rfl) (by kernel_rfl) (fun _ _ _ h => h) rfl (Or.inl ⟨by rfl, fun w hSw => by first | (go_simp; done) | (go_simp; with_reducible rfl) | (go_simp; rfl)⟩) trivial ?_
            try simp only [Act.put, List.setIfInBounds_toArray, List.set_cons_zero, List.set_cons_succ]
            obtain ⟨bl, sbl, nbl, hBKS⟩ := bks_list hbd
            have bn2 := Blk.new wa31 57 #[.slice (some ⟨g, 0, none⟩) 0 ck, .slice Bd kd ckd, .slice (cutA (some ⟨g, 0, none⟩) 1 ck 2) 0 (ck - 1)]
            have hbn := (Below.refl wa31.heap.size wa31).alloc (Nat.le_refl _) (.cells #[.slice (some ⟨g, 0, none⟩) 0 ck, .slice Bd kd ckd, .slice (cutA (some ⟨g, 0, none⟩) 1 ck 2) 0 (ck - 1)] 57)
            refine hx1 21 (by kernel_rfl) ?_
            refine hx_val 21 (some 83) (.slice (some ⟨wa31.heap.size, 0, none⟩) 3 3) (wa31.alloc (.cells #[.slice (some ⟨g, 0, none⟩) 0 ck, .slice Bd kd ckd, .slice (cutA (some ⟨g, 0, none⟩) 1 ck 2) 0 (ck - 1)] 57)) rfl (by rfl) rfl (by first | (go_simp; done) | (go_simp; with_reducible rfl)) trivial ?_
            try simp only [Act.put, List.setIfInBounds_toArray, List.set_cons_zero, List.set_cons_succ]
            have sbl := sbl.below hbn
            obtain ⟨g5, hg5⟩ : ∃ q, wa31.heap.size = q := ⟨_, rfl⟩
            obtain ⟨w5, hw5⟩ : ∃ q, wa31.alloc (.cells #[.slice (some ⟨g, 0, none⟩) 0 ck, .slice Bd kd ckd, .slice (cutA (some ⟨g, 0, none⟩) 1 ck 2) 0 (ck - 1)] 57) = q := ⟨_, rfl⟩
            rw [hw5] at bn2 sbl hbn ⊢
            rw [hg5] at bn2 ⊢
            have B5 := below_trans' Ba31 Ba31.size hbn
            refine hx1 22 (by kernel_rfl) ?_
            refine hx_callE 22 (some 84) _ _ (cbR w5 kd bl) rfl (by rfl) rfl (by go_simp) (catB bn2 sbl nbl (bks_le hbd)) ?_
            rintro v3 w6 ⟨A6, c6, rfl, o6, hb6⟩
            have B6 := below_trans' B5 B5.size hb6
            have hp6 := hpB.below B6
            refine ⟨trivial, ?_⟩
            try simp only [Act.put, List.setIfInBounds_toArray, List.set_cons_zero, List.set_cons_succ]
            refine hx_take 23 (some 85) _ rfl (by kernel_rfl) (by kernel_rfl) (by kernel_rfl) (fun _ _ _ h => h) rfl (Or.inl ⟨by rfl, fun w hSw => by first | (go_simp; done) | (go_simp; with_reducible rfl) | (go_simp; rfl)⟩) trivial ?_
            try simp only [Act.put, List.setIfInBounds_toArray, List.set_cons_zero, List.set_cons_succ]
            refine hx_take 24 (some 86) (.pointer (some ⟨p, 1, none⟩)) rfl (by kernel_rfl) (by kernel_rfl) (by kernel_rfl) (fun _ _ _ h => h) rfl (Or.inl ⟨by rfl, fun w hSw => by first | (go_simp; done) | (go_simp; with_reducible rfl) | (go_simp; rfl)⟩) trivial ?_
            try simp only [Act.put, List.setIfInBounds_toArray, List.set_cons_zero, List.set_cons_succ]
            have f6 := hp6.frozen 1
            have k6 := hp6.cell 1 rfl
            refine hx1 25 (by kernel_rfl) ?_
            refine hx_step 25 rfl (by rfl) (fun K hK => ?_)
            go_simp
            refine hK.out _ _ trivial ?_
            clear hK K
            try simp only [Act.put, List.setIfInBounds_toArray, List.set_cons_zero, List.set_cons_succ]
            refine wpAnyH_done (by kernel_rfl) ?_ _
            go_wp2_with fail
            go_end0
            exact ⟨rfl, FIN.out w6 B6 A6 kd c6 (hBKS.out w6 (below_trans' hbn hbn.size hb6) A6 c6 (o6.base B5.size))⟩
          · have q1c := keep1 Ba31 q1
            refine hx_val 17 (some 79) (.slice (some ⟨g, 0, none⟩) 1 ck) wa31 rfl (by rfl) rfl (by first | (go_simp; done) | (go_simp; with_reducible rfl)) trivial ?_
            try simp only [Act.put, List.setIfInBounds_toArray, List.set_cons_zero, List.set_cons_succ]
            clear q1c
            refine hx_take 20 (some 82) (.slice (cutA (some ⟨g, 0, none⟩) 1 ck 2) 0 (ck - 1)) rfl (by kernel_rfl) (by kernel_rfl) (by kernel_rfl) (fun _ _ _ h => h) rfl (Or.inl ⟨by rfl, fun w hSw => by first | (go_simp; done) | (go_simp; with_reducible rfl) | (go_simp; rfl)⟩) trivial ?_
            try simp only [Act.put, List.setIfInBounds_toArray, List.set_cons_zero, List.set_cons_succ]
            refine hx1 4 (by kernel_rfl) ?_
            have q1c := keep1 Ba31 q1
            refine hx_val 4 (some 66) (.slice (some ⟨g, 0, none⟩) 1 ck) wa31 rfl (by rfl) rfl (by first | (go_simp; done) | (go_simp; with_reducible rfl)) trivial ?_
            try simp only [Act.put, List.setIfInBounds_toArray, List.set_cons_zero, List.set_cons_succ]
            clear q1c
            refine hx_take 6 (some 68) (.slice (some ⟨g, 0, none⟩) 0 ck) rfl (by kernel_rfl) (by kernel_rfl) (by kernel_rfl) (fun _ _ _ h => h) rfl (Or.inl ⟨by rfl, fun w hSw => by first | (go_simp; done) | (go_simp; with_reducible rfl) | (go_simp; rfl)⟩) trivial ?_
            try simp only [Act.put, List.setIfInBounds_toArray, List.set_cons_zero, List.set_cons_succ]
            obtain ⟨bl, sbl, nbl, hBKS⟩ := bks_list hbd
            have bn2 := Blk.new wa31 57 #[.slice (some ⟨g, 0, none⟩) 0 ck, .slice Bd kd ckd, .slice (cutA (some ⟨g, 0, none⟩) 1 ck 2) 0 (ck - 1)]
            have hbn := (Below.refl wa31.heap.size wa31).alloc (Nat.le_refl _) (.cells #[.slice (some ⟨g, 0, none⟩) 0 ck, .slice Bd kd ckd, .slice (cutA (some ⟨g, 0, none⟩) 1 ck 2) 0 (ck - 1)] 57)
            refine hx1 21 (by kernel_rfl) ?_
            refine hx_val 21 (some 83) (.slice (some ⟨wa31.heap.size, 0, none⟩) 3 3) (wa31.alloc (.cells #[.slice (some ⟨g, 0, none⟩) 0 ck, .slice Bd kd ckd, .slice (cutA (some ⟨g, 0, none⟩) 1 ck 2) 0 (ck - 1)] 57)) rfl (by rfl) rfl (by first | (go_simp; done) | (go_simp; with_reducible rfl)) trivial ?_
            try simp only [Act.put, List.setIfInBounds_toArray, List.set_cons_zero, List.set_cons_succ]
            have sbl := sbl.below hbn
            obtain ⟨g5, hg5⟩ : ∃ q, wa31.heap.size = q := ⟨_, rfl⟩
            obtain ⟨w5, hw5⟩ : ∃ q, wa31.alloc (.cells #[.slice (some ⟨g, 0, none⟩) 0 ck, .slice Bd kd ckd, .slice (cutA (some ⟨g, 0, none⟩) 1 ck 2) 0 (ck - 1)] 57) = q := ⟨_, rfl⟩
            rw [hw5] at bn2 sbl hbn ⊢
            rw [hg5] at bn2 ⊢
            have B5 := below_trans' Ba31 Ba31.size hbn
            refine hx1 22 (by kernel_rfl) ?_
            refine hx_callE 22 (some 84) _ _ (cbR w5 kd bl) rfl (by rfl) rfl (by go_simp) (catB bn2 sbl nbl (bks_le hbd)) ?_
            rintro v3 w6 ⟨A6, c6, rfl, o6, hb6⟩
            have B6 := below_trans' B5 B5.size hb6
            have hp6 := hpB.below B6
            refine ⟨trivial, ?_⟩
            try simp only [Act.put, List.setIfInBounds_toArray, List.set_cons_zero, List.set_cons_succ]
            refine hx_take 23 (some 85) _ rfl (by kernel_rfl) (by kernel_rfl) (by kernel_rfl) (fun _ _ _ h => h) rfl (Or.inl ⟨by rfl, fun w hSw => by first | (go_simp; done) | (go_simp; with_reducible rfl) | (go_simp; rfl)⟩) trivial ?_
            try simp only [Act.put, List.setIfInBounds_toArray, List.set_cons_zero, List.set_cons_succ]
            refine hx_take 24 (some 86) (.pointer (some ⟨p, 1, none⟩)) rfl (by kernel_rfl) (by kernel_rfl) (by kernel_rfl) (fun _ _ _ h => h) rfl (Or.inl ⟨by rfl, fun w hSw => by first | (go_simp; done) | (go_simp; with_reducible rfl) | (go_simp; rfl)⟩) trivial ?_
            try simp only [Act.put, List.setIfInBounds_toArray, List.set_cons_zero, List.set_cons_succ]
            have f6 := hp6.frozen 1
            have k6 := hp6.cell 1 rfl
            refine hx1 25 (by kernel_rfl) ?_
            refine hx_step 25 rfl (by rfl) (fun K hK => ?_)
            go_simp
            refine hK.out _ _ trivial ?_
            clear hK K
            try simp only [Act.put, List.setIfInBounds_toArray, List.set_cons_zero, List.set_cons_succ]
            refine wpAnyH_done (by kernel_rfl) ?_ _
            go_wp2_with fail
            go_end0
            exact ⟨rfl, FIN.out w6 B6 A6 kd c6 (hBKS.out w6 (below_trans' hbn hbn.size hb6) A6 c6 (o6.base B5.size))⟩
        · have q1c := keep1 Ba25 q1
          refine hx_val 17 (some 79) (.slice (some ⟨g, 0, none⟩) 1 ck) wa25 rfl (by rfl) rfl (by first | (go_simp; done) | (go_simp; with_reducible rfl)) trivial ?_
          try simp only [Act.put, List.setIfInBounds_toArray, List.set_cons_zero, List.set_cons_succ]
          clear q1c
          refine hx_take 20 (some 82) (.slice (cutA (some ⟨g, 0, none⟩) 1 ck 2) 0 (ck - 1)) rfl (by kernel_rfl) (by kernel_rfl) (by kernel_rfl) (fun _ _ _ h => h) rfl (Or.inl ⟨by rfl, fun w hSw => by first | (go_simp; done) | (go_simp; with_reducible rfl) | (go_simp; rfl)⟩) trivial ?_
          try simp only [Act.put, List.setIfInBounds_toArray, List.set_cons_zero, List.set_cons_succ]
          refine hx2 4 13 (by kernel_rfl) ?_ ?_
          · have q1c := keep1 Ba25 q1
            refine hx_val 4 (some 66) (.slice (some ⟨g, 0, none⟩) 1 ck) wa25 rfl (by rfl) rfl (by first | (go_simp; done) | (go_simp; with_reducible rfl)) trivial ?_
            try simp only [Act.put, List.setIfInBounds_toArray, List.set_cons_zero, List.set_cons_succ]
            clear q1c
            refine hx_take 6 (some 68) (.slice (some ⟨g, 0, none⟩) 0 ck) rfl (by kernel_rfl) (by kernel_rfl) (by kernel_rfl) (fun _ _ _ h => h) rfl (Or.inl ⟨by rfl, fun w hSw => by first | (go_simp; done) | (go_simp; with_reducible rfl) | (go_simp; rfl)⟩) trivial ?_
            try simp only [Act.put, List.setIfInBounds_toArray, List.set_cons_zero, List.set_cons_succ]
            refine hx1 13 (by kernel_rfl) ?_
            refine hx_callE 13 (some 75) _ _ (dvR wa25 es vs n NL) rfl (by rfl) rfl (by go_simp) (cD.out wa25 Ba25 A4 c4 (o4.sl mkC_len) o4.cap.1) ?_
            rintro v2 wa38 ⟨Bd, kd, ckd, rfl, hbd, hb5⟩
            have Ba38 := below_trans' Ba25 Ba25.size hb5
            have hbd := hbd.base Ba25.size
            refine ⟨trivial, ?_⟩
            try simp only [Act.put, List.setIfInBounds_toArray, List.set_cons_zero, List.set_cons_succ]
            obtain ⟨bl, sbl, nbl, hBKS⟩ := bks_list hbd
            have bn2 := Blk.new wa38 57 #[.slice (some ⟨g, 0, none⟩) 0 ck, .slice Bd kd ckd, .slice (cutA (some ⟨g, 0, none⟩) 1 ck 2) 0 (ck - 1)]
            have hbn := (Below.refl wa38.heap.size wa38).alloc (Nat.le_refl _) (.cells #[.slice (some ⟨g, 0, none⟩) 0 ck, .slice Bd kd ckd, .slice (cutA (some ⟨g, 0, none⟩) 1 ck 2) 0 (ck - 1)] 57)
            refine hx1 21 (by kernel_rfl) ?_
            refine hx_val 21 (some 83) (.slice (some ⟨wa38.heap.size, 0, none⟩) 3 3) (wa38.alloc (.cells #[.slice (some ⟨g, 0, none⟩) 0 ck, .slice Bd kd ckd, .slice (cutA (some ⟨g, 0, none⟩) 1 ck 2) 0 (ck - 1)] 57)) rfl (by rfl) rfl (by first | (go_simp; done) | (go_simp; with_reducible rfl)) trivial ?_
            try simp only [Act.put, List.setIfInBounds_toArray, List.set_cons_zero, List.set_cons_succ]
            have sbl := sbl.below hbn
            obtain ⟨g5, hg5⟩ : ∃ q, wa38.heap.size = q := ⟨_, rfl⟩
            obtain ⟨w5, hw5⟩ : ∃ q, wa38.alloc (.cells #[.slice (some ⟨g, 0, none⟩) 0 ck, .slice Bd kd ckd, .slice (cutA (some ⟨g, 0, none⟩) 1 ck 2) 0 (ck - 1)] 57) = q := ⟨_, rfl⟩
            rw [hw5] at bn2 sbl hbn ⊢
            rw [hg5] at bn2 ⊢
            have B5 := below_trans' Ba38 Ba38.size hbn
            refine hx1 22 (by kernel_rfl) ?_
            refine hx_callE 22 (some 84) _ _ (cbR w5 kd bl) rfl (by rfl) rfl (by go_simp) (catB bn2 sbl nbl (bks_le hbd)) ?_
            rintro v3 w6 ⟨A6, c6, rfl, o6, hb6⟩
            have B6 := below_trans' B5 B5.size hb6
            have hp6 := hpB.below B6
            refine ⟨trivial, ?_⟩
            try simp only [Act.put, List.setIfInBounds_toArray, List.set_cons_zero, List.set_cons_succ]
            refine hx_take 23 (some 85) _ rfl (by kernel_rfl) (by kernel_rfl) (by kernel_rfl) (fun _ _ _ h => h) rfl (Or.inl ⟨by rfl, fun w hSw => by first | (go_simp; done) | (go_simp; with_reducible rfl) | (go_simp; rfl)⟩) trivial ?_
            try simp only [Act.put, List.setIfInBounds_toArray, List.set_cons_zero, List.set_cons_succ]
            refine hx_take 24 (some 86) (.pointer (some ⟨p, 1, none⟩)) rfl (by kernel_rfl) (by kernel_rfl) (by kernel_rfl) (fun _ _ _ h => h) rfl (Or.inl ⟨by rfl, fun w hSw => by first | (go_simp; done) | (go_simp; with_reducible rfl) | (go_simp; rfl)⟩) trivial ?_
            try simp only [Act.put, List.setIfInBounds_toArray, List.set_cons_zero, List.set_cons_succ]
            have f6 := hp6.frozen 1
            have k6 := hp6.cell 1 rfl
            refine hx1 25 (by kernel_rfl) ?_
            refine hx_step 25 rfl (by rfl) (fun K hK => ?_)
            go_simp
            refine hK.out _ _ trivial ?_
            clear hK K
            try simp only [Act.put, List.setIfInBounds_toArray, List.set_cons_zero, List.set_cons_succ]
            refine wpAnyH_done (by kernel_rfl) ?_ _
            go_wp2_with fail
            go_end0
            exact ⟨rfl, FIN.out w6 B6 A6 kd c6 (hBKS.out w6 (below_trans' hbn hbn.size hb6) A6 c6 (o6.base B5.size))⟩
          · refine hx_callE 13 (some 75) _ _ (dvR wa25 es vs n NL) rfl (by rfl) rfl (by go_simp) (cD.out wa25 Ba25 A4 c4 (o4.sl mkC_len) o4.cap.1) ?_
            rintro v2 wa39 ⟨Bd, kd, ckd, rfl, hbd, hb5⟩
            have Ba39 := below_trans' Ba25 Ba25.size hb5
            have hbd := hbd.base Ba25.size
            refine ⟨trivial, ?_⟩
            try simp only [Act.put, List.setIfInBounds_toArray, List.set_cons_zero, List.set_cons_succ]
            refine hx1 4 (by kernel_rfl) ?_
            have q1c := keep1 Ba39 q1
            refine hx_val 4 (some 66) (.slice (some ⟨g, 0, none⟩) 1 ck) wa39 rfl (by rfl) rfl (by first | (go_simp; done) | (go_simp; with_reducible rfl)) trivial ?_
            try simp only [Act.put, List.setIfInBounds_toArray, List.set_cons_zero, List.set_cons_succ]
            clear q1c
            refine hx_take 6 (some 68) (.slice (some ⟨g, 0, none⟩) 0 ck) rfl (by kernel_rfl) (by kernel_rfl) (by kernel_rfl) (fun _ _ _ h => h) rfl (Or.inl ⟨by rfl, fun w hSw => by first | (go_simp; done) | (go_simp; with_reducible rfl) | (go_simp; rfl)⟩) trivial ?_
            try simp only [Act.put, List.setIfInBounds_toArray, List.set_cons_zero, List.set_cons_succ]
            obtain ⟨bl, sbl, nbl, hBKS⟩ := bks_list hbd
            have bn2 := Blk.new wa39 57 #[.slice (some ⟨g, 0, none⟩) 0 ck, .slice Bd kd ckd, .slice (cutA (some ⟨g, 0, none⟩) 1 ck 2) 0 (ck - 1)]
            have hbn := (Below.refl wa39.heap.size wa39).alloc (Nat.le_refl _) (.cells #[.slice (some ⟨g, 0, none⟩) 0 ck, .slice Bd kd ckd, .slice (cutA (some ⟨g, 0, none⟩) 1 ck 2) 0 (ck - 1)] 57)
            refine hx1 21 (by kernel_rfl) ?_
            refine hx_val 21 (some 83) (.slice (some ⟨wa39.heap.size, 0, none⟩) 3 3) (wa39.alloc (.cells #[.slice (some ⟨g, 0, none⟩) 0 ck, .slice Bd kd ckd, .slice (cutA (some ⟨g, 0, none⟩) 1 ck 2) 0 (ck - 1)] 57)) rfl (by rfl) rfl (by first | (go_simp; done) | (go_simp; with_reducible rfl)) trivial ?_
            try simp only [Act.put, List.setIfInBounds_toArray, List.set_cons_zero, List.set_cons_succ]
            have sbl := sbl.below hbn
            obtain ⟨g5, hg5⟩ : ∃ q, wa39.heap.size = q := ⟨_, rfl⟩
            obtain ⟨w5, hw5⟩ : ∃ q, wa39.alloc (.cells #[.slice (some ⟨g, 0, none⟩) 0 ck, .slice Bd kd ckd, .slice (cutA (some ⟨g, 0, none⟩) 1 ck 2) 0 (ck - 1)] 57) = q := ⟨_, rfl⟩
            rw [hw5] at bn2 sbl hbn ⊢
            rw [hg5] at bn2 ⊢
            have B5 := below_trans' Ba39 Ba39.size hbn
            refine hx1 22 (by kernel_rfl) ?_
            refine hx_callE 22 (some 84) _ _ (cbR w5 kd bl) rfl (by rfl) rfl (by go_simp) (catB bn2 sbl nbl (bks_le hbd)) ?_
            rintro v3 w6 ⟨A6, c6, rfl, o6, hb6⟩
            have B6 := below_trans' B5 B5.size hb6
            have hp6 := hpB.below B6
            refine ⟨trivial, ?_⟩
            try simp only [Act.put, List.setIfInBounds_toArray, List.set_cons_zero, List.set_cons_succ]
            refine hx_take 23 (some 85) _ rfl (by kernel_rfl) (by kernel_rfl) (by kernel_rfl) (fun _ _ _ h => h) rfl (Or.inl ⟨by rfl, fun w hSw => by first | (go_simp; done) | (go_simp; with_reducible rfl) | (go_simp; rfl)⟩) trivial ?_
            try simp only [Act.put, List.setIfInBounds_toArray, List.set_cons_zero, List.set_cons_succ]
            refine hx_take 24 (some 86) (.pointer (some ⟨p, 1, none⟩)) rfl (by kernel_rfl) (by kernel_rfl) (by kernel_rfl) (fun _ _ _ h => h) rfl (Or.inl ⟨by rfl, fun w hSw => by first | (go_simp; done) | (go_simp; with_reducible rfl) | (go_simp; rfl)⟩) trivial ?_
            try simp only [Act.put, List.setIfInBounds_toArray, List.set_cons_zero, List.set_cons_succ]
            have f6 := hp6.frozen 1
            have k6 := hp6.cell 1 rfl
            refine hx1 25 (by kernel_rfl) ?_
            refine hx_step 25 rfl (by rfl) (fun K hK => ?_)
            go_simp
            refine hK.out _ _ trivial ?_
            clear hK K
            try simp only [Act.put, List.setIfInBounds_toArray, List.set_cons_zero, List.set_cons_succ]
            refine wpAnyH_done (by kernel_rfl) ?_ _
            go_wp2_with fail
            go_end0
            exact ⟨rfl, FIN.out w6 B6 A6 kd c6 (hBKS.out w6 (below_trans' hbn hbn.size hb6) A6 c6 (o6.base B5.size))⟩
      · have q1c := keep1 Ba15 q1
        refine hx_val 17 (some 79) (.slice (some ⟨g, 0, none⟩) 1 ck) wa15 rfl (by rfl) rfl (by first | (go_simp; done) | (go_simp; with_reducible rfl)) trivial ?_
        try simp only [Act.put, List.setIfInBounds_toArray, List.set_cons_zero, List.set_cons_succ]
        clear q1c
        refine hx_take 20 (some 82) (.slice (cutA (some ⟨g, 0, none⟩) 1 ck 2) 0 (ck - 1)) rfl (by kernel_rfl) (by kernel_rfl) (by kernel_rfl) (fun _ _ _ h => h) rfl (Or.inl ⟨by rfl, fun w hSw => by first | (go_simp; done) | (go_simp; with_reducible rfl) | (go_simp; rfl)⟩) trivial ?_
        try simp only [Act.put, List.setIfInBounds_toArray, List.set_cons_zero, List.set_cons_succ]
        refine hx2 4 12 (by kernel_rfl) ?_ ?_
        · have q1c := keep1 Ba15 q1
          refine hx_val 4 (some 66) (.slice (some ⟨g, 0, none⟩) 1 ck) wa15 rfl (by rfl) rfl (by first | (go_simp; done) | (go_simp; with_reducible rfl)) trivial ?_
          try simp only [Act.put, List.setIfInBounds_toArray, List.set_cons_zero, List.set_cons_succ]
          clear q1c
          refine hx_take 6 (some 68) (.slice (some ⟨g, 0, none⟩) 0 ck) rfl (by kernel_rfl) (by kernel_rfl) (by kernel_rfl) (fun _ _ _ h => h) rfl (Or.inl ⟨by rfl, fun w hSw => by first | (go_simp; done) | (go_simp; with_reducible rfl) | (go_simp; rfl)⟩) trivial ?_
          try simp only [Act.put, List.setIfInBounds_toArray, List.set_cons_zero, List.set_cons_succ]
          refine hx1 12 (by kernel_rfl) ?_
          refine hx_callE 12 (some 74) _ _ (ccR wa15 NL) rfl (by rfl) rfl (by go_simp) (cC.out wa15 Ba15 g3 bn) ?_
          rintro v1 wa43 ⟨A4, c4, rfl, o4, hb4⟩
          have Ba43 := below_trans' Ba15 Ba15.size hb4
          refine ⟨trivial, ?_⟩
          try simp only [Act.put, List.setIfInBounds_toArray, List.set_cons_zero, List.set_cons_succ]
          refine hx1 13 (by kernel_rfl) ?_
          refine hx_callE 13 (some 75) _ _ (dvR wa43 es vs n NL) rfl (by rfl) rfl (by go_simp) (cD.out wa43 Ba43 A4 c4 (o4.sl mkC_len) o4.cap.1) ?_
          rintro v2 wa44 ⟨Bd, kd, ckd, rfl, hbd, hb5⟩
          have Ba44 := below_trans' Ba43 Ba43.size hb5
          have hbd := hbd.base Ba43.size
          refine ⟨trivial, ?_⟩
          try simp only [Act.put, List.setIfInBounds_toArray, List.set_cons_zero, List.set_cons_succ]
          obtain ⟨bl, sbl, nbl, hBKS⟩ := bks_list hbd
          have bn2 := Blk.new wa44 57 #[.slice (some ⟨g, 0, none⟩) 0 ck, .slice Bd kd ckd, .slice (cutA (some ⟨g, 0, none⟩) 1 ck 2) 0 (ck - 1)]
          have hbn := (Below.refl wa44.heap.size wa44).alloc (Nat.le_refl _) (.cells #[.slice (some ⟨g, 0, none⟩) 0 ck, .slice Bd kd ckd, .slice (cutA (some ⟨g, 0, none⟩) 1 ck 2) 0 (ck - 1)] 57)
          refine hx1 21 (by kernel_rfl) ?_
          refine hx_val 21 (some 83) (.slice (some ⟨wa44.heap.size, 0, none⟩) 3 3) (wa44.alloc (.cells #[.slice (some ⟨g, 0, none⟩) 0 ck, .slice Bd kd ckd, .slice (cutA (some ⟨g, 0, none⟩) 1 ck 2) 0 (ck - 1)] 57)) rfl (by rfl) rfl (by first | (go_simp; done) | (go_simp; with_reducible rfl)) trivial ?_
          try simp only [Act.put, List.setIfInBounds_toArray, List.set_cons_zero, List.set_cons_succ]
          have sbl := sbl.below hbn
          obtain ⟨g5, hg5⟩ : ∃ q, wa44.heap.size = q := ⟨_, rfl⟩
          obtain ⟨w5, hw5⟩ : ∃ q, wa44.alloc (.cells #[.slice (some ⟨g, 0, none⟩) 0 ck, .slice Bd kd ckd, .slice (cutA (some ⟨g, 0, none⟩) 1 ck 2) 0 (ck - 1)] 57) = q := ⟨_, rfl⟩
          rw [hw5] at bn2 sbl hbn ⊢
          rw [hg5] at bn2 ⊢
          have B5 := below_trans' Ba44 Ba44.size hbn
          refine hx1 22 (by kernel_rfl) ?_
          refine hx_callE 22 (some 84) _ _ (cbR w5 kd bl) rfl (by rfl) rfl (by go_simp) (catB bn2 sbl nbl (bks_le hbd)) ?_
          rintro v3 w6 ⟨A6, c6, rfl, o6, hb6⟩
          have B6 := below_trans' B5 B5.size hb6
          have hp6 := hpB.below B6
          refine ⟨trivial, ?_⟩
          try simp only [Act.put, List.setIfInBounds_toArray, List.set_cons_zero, List.set_cons_succ]
          refine hx_take 23 (some 85) _ rfl (by kernel_rfl) (by kernel_rfl) (by kernel_rfl) (fun _ _ _ h => h) rfl (Or.inl ⟨by rfl, fun w hSw => by first | (go_simp; done) | (go_simp; with_reducible rfl) | (go_simp; rfl)⟩) trivial ?_
          try simp only [Act.put, List.setIfInBounds_toArray, List.set_cons_zero, List.set_cons_succ]
          refine hx_take 24 (some 86) (.pointer (some ⟨p, 1, none⟩)) rfl (by kernel_rfl) (by kernel_rfl) (by kernel_rfl) (fun _ _ _ h => h) rfl (Or.inl ⟨by rfl, fun w hSw => by first | (go_simp; done) | (go_simp; with_reducible rfl) | (go_simp; rfl)⟩) trivial ?_
          try simp only [Act.put, List.setIfInBounds_toArray, List.set_cons_zero, List.set_cons_succ]
          have f6 := hp6.frozen 1
          have k6 := hp6.cell 1 rfl
          refine hx1 25 (by kernel_rfl) ?_
          refine hx_step 25 rfl (by rfl) (fun K hK => ?_)
          go_simp
          refine hK.out _ _ trivial ?_
          clear hK K
          try simp only [Act.put, List.setIfInBounds_toArray, List.set_cons_zero, List.set_cons_succ]
          refine wpAnyH_done (by kernel_rfl) ?_ _
          go_wp2_with fail
          go_end0
          exact ⟨rfl, FIN.out w6 B6 A6 kd c6 (hBKS.out w6 (below_trans' hbn hbn.size hb6) A6 c6 (o6.base B5.size))⟩
        · refine hx_callE 12 (some 74) _ _ (ccR wa15 NL) rfl (by rfl) rfl (by go_simp) (cC.out wa15 Ba15 g3 bn) ?_
          rintro v1 wa45 ⟨A4, c4, rfl, o4, hb4⟩
          have Ba45 := below_trans' Ba15 Ba15.size hb4
          refine ⟨trivial, ?_⟩
          try simp only [Act.put, List.setIfInBounds_toArray, List.set_cons_zero, List.set_cons_succ]
          refine hx2 4 13 (by kernel_rfl) ?_ ?_
          · have q1c := keep1 Ba45 q1
            refine hx_val 4 (some 66) (.slice (some ⟨g, 0, none⟩) 1 ck) wa45 rfl (by rfl) rfl (by first | (go_simp; done) | (go_simp; with_reducible rfl)) trivial ?_
            try simp only [Act.put, List.setIfInBounds_toArray, List.set_cons_zero, List.set_cons_succ]
            clear q1c
            refine hx_take 6 (some 68) (.slice (some ⟨g, 0, none⟩) 0 ck) rfl (by kernel_rfl) (by kernel_rfl) (by kernel_rfl) (fun _ _ _ h => h) rfl (Or.inl ⟨by rfl, fun w hSw => by first | (go_simp; done) | (go_simp; with_reducible rfl) | (go_simp; rfl)⟩) trivial ?_
            try simp only [Act.put, List.setIfInBounds_toArray, List.set_cons_zero, List.set_cons_succ]
            refine hx1 13 (by kernel_rfl) ?_
            refine hx_callE 13 (some 75) _ _ (dvR wa45 es vs n NL) rfl (by rfl) rfl (by go_simp) (cD.out wa45 Ba45 A4 c4 (o4.sl mkC_len) o4.cap.1) ?_
            rintro v2 wa47 ⟨Bd, kd, ckd, rfl, hbd, hb5⟩
            have Ba47 := below_trans' Ba45 Ba45.size hb5
            have hbd := hbd.base Ba45.size
            refine ⟨trivial, ?_⟩
            try simp only [Act.put, List.setIfInBounds_toArray, List.set_cons_zero, List.set_cons_succ]
            obtain ⟨bl, sbl, nbl, hBKS⟩ := bks_list hbd
            have bn2 := Blk.new wa47 57 #[.slice (some ⟨g, 0, none⟩) 0 ck, .slice Bd kd ckd, .slice (cutA (some ⟨g, 0, none⟩) 1 ck 2) 0 (ck - 1)]
            have hbn := (Below.refl wa47.heap.size wa47).alloc (Nat.le_refl _) (.cells #[.slice (some ⟨g, 0, none⟩) 0 ck, .slice Bd kd ckd, .slice (cutA (some ⟨g, 0, none⟩) 1 ck 2) 0 (ck - 1)] 57)
            refine hx1 21 (by kernel_rfl) ?_
            refine hx_val 21 (some 83) (.slice (some ⟨wa47.heap.size, 0, none⟩) 3 3) (wa47.alloc (.cells #[.slice (some ⟨g, 0, none⟩) 0 ck, .slice Bd kd ckd, .slice (cutA (some ⟨g, 0, none⟩) 1 ck 2) 0 (ck - 1)] 57)) rfl (by rfl) rfl (by first | (go_simp; done) | (go_simp; with_reducible rfl)) trivial ?_
            try simp only [Act.put, List.setIfInBounds_toArray, List.set_cons_zero, List.set_cons_succ]
            have sbl := sbl.below hbn
            obtain ⟨g5, hg5⟩ : ∃ q, wa47.heap.size = q := ⟨_, rfl⟩
            obtain ⟨w5, hw5⟩ : ∃ q, wa47.alloc (.cells #[.slice (some ⟨g, 0, none⟩) 0 ck, .slice Bd kd ckd, .slice (cutA (some ⟨g, 0, none⟩) 1 ck 2) 0 (ck - 1)] 57) = q := ⟨_, rfl⟩
            rw [hw5] at bn2 sbl hbn ⊢
            rw [hg5] at bn2 ⊢
            have B5 := below_trans' Ba47 Ba47.size hbn
            refine hx1 22 (by kernel_rfl) ?_
            refine hx_callE 22 (some 84) _ _ (cbR w5 kd bl) rfl (by rfl) rfl (by go_simp) (catB bn2 sbl nbl (bks_le hbd)) ?_
            rintro v3 w6 ⟨A6, c6, rfl, o6, hb6⟩
            have B6 := below_trans' B5 B5.size hb6
            have hp6 := hpB.below B6
            refine ⟨trivial, ?_⟩
            try simp only [Act.put, List.setIfInBounds_toArray, List.set_cons_zero, List.set_cons_succ]
            refine hx_take 23 (some 85) _ rfl (by kernel_rfl) (by kernel_rfl) (by kernel_rfl) (fun _ _ _ h => h) rfl (Or.inl ⟨by rfl, fun w hSw => by first | (go_simp; done) | (go_simp; with_reducible rfl) | (go_simp; rfl)⟩) trivial ?_
            try simp only [Act.put, List.setIfInBounds_toArray, List.set_cons_zero, List.set_cons_succ]
            refine hx_take 24 (some 86) (.pointer (some ⟨p, 1, none⟩)) rfl (by kernel_rfl) (by kernel_rfl) (by kernel_rfl) (fun _ _ _ h => h) rfl (Or.inl ⟨by rfl, fun w hSw => by first | (go_simp; done) | (go_simp; with_reducible rfl) | (go_simp; rfl)⟩) trivial ?_
            try simp only [Act.put, List.setIfInBounds_toArray, List.set_cons_zero, List.set_cons_succ]
            have f6 := hp6.frozen 1
            have k6 := hp6.cell 1 rfl
            refine hx1 25 (by kernel_rfl) ?_
            refine hx_step 25 rfl (by rfl) (fun K hK => ?_)
            go_simp
            refine hK.out _ _ trivial ?_
            clear hK K
            try simp only [Act.put, List.setIfInBounds_toArray, List.set_cons_zero, List.set_cons_succ]
            refine wpAnyH_done (by kernel_rfl) ?_ _
            go_wp2_with fail
            go_end0
            exact ⟨rfl, FIN.out w6 B6 A6 kd c6 (hBKS.out w6 (below_trans' hbn hbn.size hb6) A6 c6 (o6.base B5.size))⟩
          · refine hx_callE 13 (some 75) _ _ (dvR wa45 es vs n NL) rfl (by rfl) rfl (by go_simp) (cD.out wa45 Ba45 A4 c4 (o4.sl mkC_len) o4.cap.1) ?_
            rintro v2 wa48 ⟨Bd, kd, ckd, rfl, hbd, hb5⟩
            have Ba48 := below_trans' Ba45 Ba45.size hb5
            have hbd := hbd.base Ba45.size
            refine ⟨trivial, ?_⟩
            try simp only [Act.put, List.setIfInBounds_toArray, List.set_cons_zero, List.set_cons_succ]
            refine hx1 4 (by kernel_rfl) ?_
            have q1c := keep1 Ba48 q1
            refine hx_val 4 (some 66) (.slice (some ⟨g, 0, none⟩) 1 ck) wa48 rfl (by rfl) rfl (by first | (go_simp; done) | (go_simp; with_reducible rfl)) trivial ?_
            try simp only [Act.put, List.setIfInBounds_toArray, List.set_cons_zero, List.set_cons_succ]
            clear q1c
            refine hx_take 6 (some 68) (.slice (some ⟨g, 0, none⟩) 0 ck) rfl (by kernel_rfl) (by kernel_rfl) (by kernel_rfl) (fun _ _ _ h => h) rfl (Or.inl ⟨by rfl, fun w hSw => by first | (go_simp; done) | (go_simp; with_reducible rfl) | (go_simp; rfl)⟩) trivial ?_
            try simp only [Act.put, List.setIfInBounds_toArray, List.set_cons_zero, List.set_cons_succ]
            obtain ⟨bl, sbl, nbl, hBKS⟩ := bks_list hbd
            have bn2 := Blk.new wa48 57 #[.slice (some ⟨g, 0, none⟩) 0 ck, .slice Bd kd ckd, .slice (cutA (some ⟨g, 0, none⟩) 1 ck 2) 0 (ck - 1)]
            have hbn := (Below.refl wa48.heap.size wa48).alloc (Nat.le_refl _) (.cells #[.slice (some ⟨g, 0, none⟩) 0 ck, .slice Bd kd ckd, .slice (cutA (some ⟨g, 0, none⟩) 1 ck 2) 0 (ck - 1)] 57)
            refine hx1 21 (by kernel_rfl) ?_
            refine hx_val 21 (some 83) (.slice (some ⟨wa48.heap.size, 0, none⟩) 3 3) (wa48.alloc (.cells #[.slice (some ⟨g, 0, none⟩) 0 ck, .slice Bd kd ckd, .slice (cutA (some ⟨g, 0, none⟩) 1 ck 2) 0 (ck - 1)] 57)) rfl (by rfl) rfl (by first | (go_simp; done) | (go_simp; with_reducible rfl)) trivial ?_
            try simp only [Act.put, List.setIfInBounds_toArray, List.set_cons_zero, List.set_cons_succ]
            have sbl := sbl.below hbn
            obtain ⟨g5, hg5⟩ : ∃ q, wa48.heap.size = q := ⟨_, rfl⟩
            obtain ⟨w5, hw5⟩ : ∃ q, wa48.alloc (.cells #[.slice (some ⟨g, 0, none⟩) 0 ck, .slice Bd kd ckd, .slice (cutA (some ⟨g, 0, none⟩) 1 ck 2) 0 (ck - 1)] 57) = q := ⟨_, rfl⟩
            rw [hw5] at bn2 sbl hbn ⊢
            rw [hg5] at bn2 ⊢
            have B5 := below_trans' Ba48 Ba48.size hbn
            refine hx1 22 (by kernel_rfl) ?_
            refine hx_callE 22 (some 84) _ _ (cbR w5 kd bl) rfl (by rfl) rfl (by go_simp) (catB bn2 sbl nbl (bks_le hbd)) ?_
            rintro v3 w6 ⟨A6, c6, rfl, o6, hb6⟩
            have B6 := below_trans' B5 B5.size hb6
            have hp6 := hpB.below B6
            refine ⟨trivial, ?_⟩
            try simp only [Act.put, List.setIfInBounds_toArray, List.set_cons_zero, List.set_cons_succ]
            refine hx_take 23 (some 85) _ rfl (by kernel_rfl) (by kernel_rfl) (by kernel_rfl) (fun _ _ _ h => h) rfl (Or.inl ⟨by rfl, fun w hSw => by first | (go_simp; done) | (go_simp; with_reducible rfl) | (go_simp; rfl)⟩) trivial ?_
            try simp only [Act.put, List.setIfInBounds_toArray, List.set_cons_zero, List.set_cons_succ]
            refine hx_take 24 (some 86) (.pointer (some ⟨p, 1, none⟩)) rfl (by kernel_rfl) (by kernel_rfl) (by kernel_rfl) (fun _ _ _ h => h) rfl (Or.inl ⟨by rfl, fun w hSw => by first | (go_simp; done) | (go_simp; with_reducible rfl) | (go_simp; rfl)⟩) trivial ?_
            try simp only [Act.put, List.setIfInBounds_toArray, List.set_cons_zero, List.set_cons_succ]
            have f6 := hp6.frozen 1
            have k6 := hp6.cell 1 rfl
            refine hx1 25 (by kernel_rfl) ?_
            refine hx_step 25 rfl (by rfl) (fun K hK => ?_)
            go_simp
            refine hK.out _ _ trivial ?_
            clear hK K
            try simp only [Act.put, List.setIfInBounds_toArray, List.set_cons_zero, List.set_cons_succ]
            refine wpAnyH_done (by kernel_rfl) ?_ _
            go_wp2_with fail
            go_end0
            exact ⟨rfl, FIN.out w6 B6 A6 kd c6 (hBKS.out w6 (below_trans' hbn hbn.size hb6) A6 c6 (o6.base B5.size))⟩
    · have q1c := keep1 Bd0 q1
      refine hx_val 17 (some 79) (.slice (some ⟨g, 0, none⟩) 1 ck) wd rfl (by rfl) rfl (by first | (go_simp; done) | (go_simp; with_reducible rfl)) trivial ?_
      try simp only [Act.put, List.setIfInBounds_toArray, List.set_cons_zero, List.set_cons_succ]
      clear q1c
      refine hx_take 20 (some 82) (.slice (cutA (some ⟨g, 0, none⟩) 1 ck 2) 0 (ck - 1)) rfl (by kernel_rfl) (by kernel_rfl) (by kernel_rfl) (fun _ _ _ h => h) rfl (Or.inl ⟨by rfl, fun w hSw => by first | (go_simp; done) | (go_simp; with_reducible rfl) | (go_simp; rfl)⟩) trivial ?_
      try simp only [Act.put, List.setIfInBounds_toArray, List.set_cons_zero, List.set_cons_succ]
      refine hx2 4 11 (by kernel_rfl) ?_ ?_
      · have q1c := keep1 Bd0 q1
        refine hx_val 4 (some 66) (.slice (some ⟨g, 0, none⟩) 1 ck) wd rfl (by rfl) rfl (by first | (go_simp; done) | (go_simp; with_reducible rfl)) trivial ?_
        try simp only [Act.put, List.setIfInBounds_toArray, List.set_cons_zero, List.set_cons_succ]
        clear q1c
        refine hx_take 6 (some 68) (.slice (some ⟨g, 0, none⟩) 0 ck) rfl (by kernel_rfl) (by kernel_rfl) (by kernel_rfl) (fun _ _ _ h => h) rfl (Or.inl ⟨by rfl, fun w hSw => by first | (go_simp; done) | (go_simp; with_reducible rfl) | (go_simp; rfl)⟩) trivial ?_
        try simp only [Act.put, List.setIfInBounds_toArray, List.set_cons_zero, List.set_cons_succ]
        refine hx1 11 (by kernel_rfl) ?_
        have bn := Blk.new wd 23 #[.slice (some aM) from_ mc, .slice AM m cm, .slice (cutA (some aM) to_ mc 3) (ms.length - to_) (mc - to_)]
        have Ba52 := below_trans' Bd0 Bd0.size ((Below.refl wd.heap.size wd).alloc (Nat.le_refl _) (.cells #[.slice (some aM) from_ mc, .slice AM m cm, .slice (cutA (some aM) to_ mc 3) (ms.length - to_) (mc - to_)] 23))
        refine hx_val 11 (some 73) (.slice (some ⟨wd.heap.size, 0, none⟩) 3 3) (wd.alloc (.cells #[.slice (some aM) from_ mc, .slice AM m cm, .slice (cutA (some aM) to_ mc 3) (ms.length - to_) (mc - to_)] 23)) rfl (by rfl) rfl (by first | (go_simp; done) | (go_simp; with_reducible rfl)) trivial ?_
        try simp only [Act.put, List.setIfInBounds_toArray, List.set_cons_zero, List.set_cons_succ]
        obtain ⟨g3, hg3⟩ : ∃ q, wd.heap.size = q := ⟨_, rfl⟩
        obtain ⟨wa52, hnx⟩ : ∃ q, wd.alloc (.cells #[.slice (some aM) from_ mc, .slice AM m cm, .slice (cutA (some aM) to_ mc 3) (ms.length - to_) (mc - to_)] 23) = q := ⟨_, rfl⟩
        rw [hg3, hnx] at bn ⊢
        rw [hnx] at Ba52
        refine hx1 12 (by kernel_rfl) ?_
        refine hx_callE 12 (some 74) _ _ (ccR wa52 NL) rfl (by rfl) rfl (by go_simp) (cC.out wa52 Ba52 g3 bn) ?_
        rintro v1 wa53 ⟨A4, c4, rfl, o4, hb4⟩
        have Ba53 := below_trans' Ba52 Ba52.size hb4
        refine ⟨trivial, ?_⟩
        try simp only [Act.put, List.setIfInBounds_toArray, List.set_cons_zero, List.set_cons_succ]
        refine hx1 13 (by kernel_rfl) ?_
        refine hx_callE 13 (some 75) _ _ (dvR wa53 es vs n NL) rfl (by rfl) rfl (by go_simp) (cD.out wa53 Ba53 A4 c4 (o4.sl mkC_len) o4.cap.1) ?_
        rintro v2 wa54 ⟨Bd, kd, ckd, rfl, hbd, hb5⟩
        have Ba54 := below_trans' Ba53 Ba53.size hb5
        have hbd := hbd.base Ba53.size
        refine ⟨trivial, ?_⟩
        try simp only [Act.put, List.setIfInBounds_toArray, List.set_cons_zero, List.set_cons_succ]
        obtain ⟨bl, sbl, nbl, hBKS⟩ := bks_list hbd
        have bn2 := Blk.new wa54 57 #[.slice (some ⟨g, 0, none⟩) 0 ck, .slice Bd kd ckd, .slice (cutA (some ⟨g, 0, none⟩) 1 ck 2) 0 (ck - 1)]
        have hbn := (Below.refl wa54.heap.size wa54).alloc (Nat.le_refl _) (.cells #[.slice (some ⟨g, 0, none⟩) 0 ck, .slice Bd kd ckd, .slice (cutA (some ⟨g, 0, none⟩) 1 ck 2) 0 (ck - 1)] 57)
        refine hx1 21 (by kernel_rfl) ?_
        refine hx_val 21 (some 83) (.slice (some ⟨wa54.heap.size, 0, none⟩) 3 3) (wa54.alloc (.cells #[.slice (some ⟨g, 0, none⟩) 0 ck, .slice Bd kd ckd, .slice (cutA (some ⟨g, 0, none⟩) 1 ck 2) 0 (ck - 1)] 57)) rfl (by rfl) rfl (by first | (go_simp; done) | (go_simp; with_reducible rfl)) trivial ?_
        try simp only [Act.put, List.setIfInBounds_toArray, List.set_cons_zero, List.set_cons_succ]
        have sbl := sbl.below hbn
        obtain ⟨g5, hg5⟩ : ∃ q, wa54.heap.size = q := ⟨_, rfl⟩
        obtain ⟨w5, hw5⟩ : ∃ q, wa54.alloc (.cells #[.slice (some ⟨g, 0, none⟩) 0 ck, .slice Bd kd ckd, .slice (cutA (some ⟨g, 0, none⟩) 1 ck 2) 0 (ck - 1)] 57) = q := ⟨_, rfl⟩
        rw [hw5] at bn2 sbl hbn ⊢
        rw [hg5] at bn2 ⊢
        have B5 := below_trans' Ba54 Ba54.size hbn
        refine hx1 22 (by kernel_rfl) ?_
        refine hx_callE 22 (some 84) _ _ (cbR w5 kd bl) rfl (by rfl) rfl (by go_simp) (catB bn2 sbl nbl (bks_le hbd)) ?_
        rintro v3 w6 ⟨A6, c6, rfl, o6, hb6⟩
        have B6 := below_trans' B5 B5.size hb6
        have hp6 := hpB.below B6
        refine ⟨trivial, ?_⟩
        try simp only [Act.put, List.setIfInBounds_toArray, List.set_cons_zero, List.set_cons_succ]
        refine hx_take 23 (some 85) _ rfl (by kernel_rfl) (by kernel_rfl) (by kernel_rfl) (fun _ _ _ h => h) rfl (Or.inl ⟨by rfl, fun w hSw => by first | (go_simp; done) | (go_simp; with_reducible rfl) | (go_simp; rfl)⟩) trivial ?_
        try simp only [Act.put, List.setIfInBounds_toArray, List.set_cons_zero, List.set_cons_succ]
        refine hx_take 24 (some 86) (.pointer (some ⟨p, 1, none⟩)) rfl (by kernel_rfl) (by kernel_rfl) (by kernel_rfl) (fun _ _ _ h => h) rfl (Or.inl ⟨by rfl, fun w hSw => by first | (go_simp; done) | (go_simp; with_reducible rfl) | (go_simp; rfl)⟩) trivial ?_
        try simp only [Act.put, List.setIfInBounds_toArray, List.set_cons_zero, List.set_cons_succ]
        have f6 := hp6.frozen 1
        have k6 := hp6.cell 1 rfl
        refine hx1 25 (by kernel_rfl) ?_
        refine hx_step 25 rfl (by rfl) (fun K hK => ?_)
        go_simp
        refine hK.out _ _ trivial ?_
        clear hK K
        try simp only [Act.put, List.setIfInBounds_toArray, List.set_cons_zero, List.set_cons_succ]
        refine wpAnyH_done (by kernel_rfl) ?_ _
        go_wp2_with fail
        go_end0
        exact ⟨rfl, FIN.out w6 B6 A6 kd c6 (hBKS.out w6 (below_trans' hbn hbn.size hb6) A6 c6 (o6.base B5.size))⟩
      · have bn := Blk.new wd 23 #[.slice (some aM) from_ mc, .slice AM m cm, .slice (cutA (some aM) to_ mc 3) (ms.length - to_) (mc - to_)]
        have Ba55 := below_trans' Bd0 Bd0.size ((Below.refl wd.heap.size wd).alloc (Nat.le_refl _) (.cells #[.slice (some aM) from_ mc, .slice AM m cm, .slice (cutA (some aM) to_ mc 3) (ms.length - to_) (mc - to_)] 23))
        refine hx_val 11 (some 73) (.slice (some ⟨wd.heap.size, 0, none⟩) 3 3) (wd.alloc (.cells #[.slice (some aM) from_ mc, .slice AM m cm, .slice (cutA (some aM) to_ mc 3) (ms.length - to_) (mc - to_)] 23)) rfl (by rfl) rfl (by first | (go_simp; done) | (go_simp; with_reducible rfl)) trivial ?_
        try simp only [Act.put, List.setIfInBounds_toArray, List.set_cons_zero, List.set_cons_succ]
        obtain ⟨g3, hg3⟩ : ∃ q, wd.heap.size = q := ⟨_, rfl⟩
        obtain ⟨wa55, hnx⟩ : ∃ q, wd.alloc (.cells #[.slice (some aM) from_ mc, .slice AM m cm, .slice (cutA (some aM) to_ mc 3) (ms.length - to_) (mc - to_)] 23) = q := ⟨_, rfl⟩
        rw [hg3, hnx] at bn ⊢
        rw [hnx] at Ba55
        refine hx2 4 12 (by kernel_rfl) ?_ ?_
        · have q1c := keep1 Ba55 q1
          refine hx_val 4 (some 66) (.slice (some ⟨g, 0, none⟩) 1 ck) wa55 rfl (by rfl) rfl (by first | (go_simp; done) | (go_simp; with_reducible rfl)) trivial ?_
          try simp only [Act.put, List.setIfInBounds_toArray, List.set_cons_zero, List.set_cons_succ]
          clear q1c
          refine hx_take 6 (some 68) (.slice (some ⟨g, 0, none⟩) 0 ck) rfl (by kernel_rfl) (by kernel_rfl) (by kernel_rfl) (fun _ _ _ h => h) rfl (Or.inl ⟨by rfl, fun w hSw => by first | (go_simp; done) | (go_simp; with_reducible rfl) | (go_simp; rfl)⟩) trivial ?_
          try simp only [Act.put, List.setIfInBounds_toArray, List.set_cons_zero, List.set_cons_succ]
          refine hx1 12 (by kernel_rfl) ?_
          refine hx_callE 12 (some 74) _ _ (ccR wa55 NL) rfl (by rfl) rfl (by go_simp) (cC.out wa55 Ba55 g3 bn) ?_
          rintro v1 wa57 ⟨A4, c4, rfl, o4, hb4⟩
          have Ba57 := below_trans' Ba55 Ba55.size hb4
          refine ⟨trivial, ?_⟩
          try simp only [Act.put, List.setIfInBounds_toArray, List.set_cons_zero, List.set_cons_succ]
          refine hx1 13 (by kernel_rfl) ?_
          refine hx_callE 13 (some 75) _ _ (dvR wa57 es vs n NL) rfl (by rfl) rfl (by go_simp) (cD.out wa57 Ba57 A4 c4 (o4.sl mkC_len) o4.cap.1) ?_
          rintro v2 wa58 ⟨Bd, kd, ckd, rfl, hbd, hb5⟩
          have Ba58 := below_trans' Ba57 Ba57.size hb5
          have hbd := hbd.base Ba57.size
          refine ⟨trivial, ?_⟩
          try simp only [Act.put, List.setIfInBounds_toArray, List.set_cons_zero, List.set_cons_succ]
          obtain ⟨bl, sbl, nbl, hBKS⟩ := bks_list hbd
          have bn2 := Blk.new wa58 57 #[.slice (some ⟨g, 0, none⟩) 0 ck, .slice Bd kd ckd, .slice (cutA (some ⟨g, 0, none⟩) 1 ck 2) 0 (ck - 1)]
          have hbn := (Below.refl wa58.heap.size wa58).alloc (Nat.le_refl _) (.cells #[.slice (some ⟨g, 0, none⟩) 0 ck, .slice Bd kd ckd, .slice (cutA (some ⟨g, 0, none⟩) 1 ck 2) 0 (ck - 1)] 57)
          refine hx1 21 (by kernel_rfl) ?_
          refine hx_val 21 (some 83) (.slice (some ⟨wa58.heap.size, 0, none⟩) 3 3) (wa58.alloc (.cells #[.slice (some ⟨g, 0, none⟩) 0 ck, .slice Bd kd ckd, .slice (cutA (some ⟨g, 0, none⟩) 1 ck 2) 0 (ck - 1)] 57)) rfl (by rfl) rfl (by first | (go_simp; done) | (go_simp; with_reducible rfl)) trivial ?_
          try simp only [Act.put, List.setIfInBounds_toArray, List.set_cons_zero, List.set_cons_succ]
          have sbl := sbl.below hbn
          obtain ⟨g5, hg5⟩ : ∃ q, wa58.heap.size = q := ⟨_, rfl⟩
          obtain ⟨w5, hw5⟩ : ∃ q, wa58.alloc (.cells #[.slice (some ⟨g, 0, none⟩) 0 ck, .slice Bd kd ckd, .slice (cutA (some ⟨g, 0, none⟩) 1 ck 2) 0 (ck - 1)] 57) = q := ⟨_, rfl⟩
          rw [hw5] at bn2 sbl hbn ⊢
          rw [hg5] at bn2 ⊢
          have B5 := below_trans' Ba58 Ba58.size hbn
          refine hx1 22 (by kernel_rfl) ?_
          refine hx_callE 22 (some 84) _ _ (cbR w5 kd bl) rfl (by rfl) rfl (by go_simp) (catB bn2 sbl nbl (bks_le hbd)) ?_
          rintro v3 w6 ⟨A6, c6, rfl, o6, hb6⟩
          have B6 := below_trans' B5 B5.size hb6
          have hp6 := hpB.below B6
          refine ⟨trivial, ?_⟩
          try simp only [Act.put, List.setIfInBounds_toArray, List.set_cons_zero, List.set_cons_succ]
          refine hx_take 23 (some 85) _ rfl (by kernel_rfl) (by kernel_rfl) (by kernel_rfl) (fun _ _ _ h => h) rfl (Or.inl ⟨by rfl, fun w hSw => by first | (go_simp; done) | (go_simp; with_reducible rfl) | (go_simp; rfl)⟩) trivial ?_
          try simp only [Act.put, List.setIfInBounds_toArray, List.set_cons_zero, List.set_cons_succ]
          refine hx_take 24 (some 86) (.pointer (some ⟨p, 1, none⟩)) rfl (by kernel_rfl) (by kernel_rfl) (by kernel_rfl) (fun _ _ _ h => h) rfl (Or.inl ⟨by rfl, fun w hSw => by first | (go_simp; done) | (go_simp; with_reducible rfl) | (go_simp; rfl)⟩) trivial ?_
          try simp only [Act.put, List.setIfInBounds_toArray, List.set_cons_zero, List.set_cons_succ]
          have f6 := hp6.frozen 1
          have k6 := hp6.cell 1 rfl
          refine hx1 25 (by kernel_rfl) ?_
          refine hx_step 25 rfl (by rfl) (fun K hK => ?_)
          go_simp
          refine hK.out _ _ trivial ?_
          clear hK K
          try simp only [Act.put, List.setIfInBounds_toArray, List.set_cons_zero, List.set_cons_succ]
          refine wpAnyH_done (by kernel_rfl) ?_ _
          go_wp2_with fail
          go_end0
          exact ⟨rfl, FIN.out w6 B6 A6 kd c6 (hBKS.out w6 (below_trans' hbn hbn.size hb6) A6 c6 (o6.base B5.size))⟩
        · refine hx_callE 12 (some 74) _ _ (ccR wa55 NL) rfl (by rfl) rfl (by go_simp) (cC.out wa55 Ba55 g3 bn) ?_
          rintro v1 wa59 ⟨A4, c4, rfl, o4, hb4⟩
          have Ba59 := below_trans' Ba55 Ba55.size hb4
          refine ⟨trivial, ?_⟩
          try simp only [Act.put, List.setIfInBounds_toArray, List.set_cons_zero, List.set_cons_succ]
          refine hx2 4 13 (by kernel_rfl) ?_ ?_
          · have q1c := keep1 Ba59 q1
            refine hx_val 4 (some 66) (.slice (some ⟨g, 0, none⟩) 1 ck) wa59 rfl (by rfl) rfl (by first | (go_simp; done) | (go_simp; with_reducible rfl)) trivial ?_
            try simp only [Act.put, List.setIfInBounds_toArray, List.set_cons_zero, List.set_cons_succ]
            clear q1c
            refine hx_take 6 (some 68) (.slice (some ⟨g, 0, none⟩) 0 ck) rfl (by kernel_rfl) (by kernel_rfl) (by kernel_rfl) (fun _ _ _ h => h) rfl (Or.inl ⟨by rfl, fun w hSw => by first | (go_simp; done) | (go_simp; with_reducible rfl) | (go_simp; rfl)⟩) trivial ?_
            try simp only [Act.put, List.setIfInBounds_toArray, List.set_cons_zero, List.set_cons_succ]
            refine hx1 13 (by kernel_rfl) ?_
            refine hx_callE 13 (some 75) _ _ (dvR wa59 es vs n NL) rfl (by rfl) rfl (by go_simp) (cD.out wa59 Ba59 A4 c4 (o4.sl mkC_len) o4.cap.1) ?_
            rintro v2 wa61 ⟨Bd, kd, ckd, rfl, hbd, hb5⟩
            have Ba61 := below_trans' Ba59 Ba59.size hb5
            have hbd := hbd.base Ba59.size
            refine ⟨trivial, ?_⟩
            try simp only [Act.put, List.setIfInBounds_toArray, List.set_cons_zero, List.set_cons_succ]
            obtain ⟨bl, sbl, nbl, hBKS⟩ := bks_list hbd
            have bn2 := Blk.new wa61 57 #[.slice (some ⟨g, 0, none⟩) 0 ck, .slice Bd kd ckd, .slice (cutA (some ⟨g, 0, none⟩) 1 ck 2) 0 (ck - 1)]
            have hbn := (Below.refl wa61.heap.size wa61).alloc (Nat.le_refl _) (.cells #[.slice (some ⟨g, 0, none⟩) 0 ck, .slice Bd kd ckd, .slice (cutA (some ⟨g, 0, none⟩) 1 ck 2) 0 (ck - 1)] 57)
            refine hx1 21 (by kernel_rfl) ?_
            refine hx_val 21 (some 83) (.slice (some ⟨wa61.heap.size, 0, none⟩) 3 3) (wa61.alloc (.cells #[.slice (some ⟨g, 0, none⟩) 0 ck, .slice Bd kd ckd, .slice (cutA (some ⟨g, 0, none⟩) 1 ck 2) 0 (ck - 1)] 57)) rfl (by rfl) rfl (by first | (go_simp; done) | (go_simp; with_reducible rfl)) trivial ?_
            try simp only [Act.put, List.setIfInBounds_toArray, List.set_cons_zero, List.set_cons_succ]
            have sbl := sbl.below hbn
            obtain ⟨g5, hg5⟩ : ∃ q, wa61.heap.size = q := ⟨_, rfl⟩
            obtain ⟨w5, hw5⟩ : ∃ q, wa61.alloc (.cells #[.slice (some ⟨g, 0, none⟩) 0 ck, .slice Bd kd ckd, .slice (cutA (some ⟨g, 0, none⟩) 1 ck 2) 0 (ck - 1)] 57) = q := ⟨_, rfl⟩
            rw [hw5] at bn2 sbl hbn ⊢
            rw [hg5] at bn2 ⊢
            have B5 := below_trans' Ba61 Ba61.size hbn
            refine hx1 22 (by kernel_rfl) ?_
            refine hx_callE 22 (some 84) _ _ (cbR w5 kd bl) rfl (by rfl) rfl (by go_simp) (catB bn2 sbl nbl (bks_le hbd)) ?_
            rintro v3 w6 ⟨A6, c6, rfl, o6, hb6⟩
            have B6 := below_trans' B5 B5.size hb6
            have hp6 := hpB.below B6
            refine ⟨trivial, ?_⟩
            try simp only [Act.put, List.setIfInBounds_toArray, List.set_cons_zero, List.set_cons_succ]
            refine hx_take 23 (some 85) _ rfl (by kernel_rfl) (by kernel_rfl) (by kernel_rfl) (fun _ _ _ h => h) rfl (Or.inl ⟨by rfl, fun w hSw => by first | (go_simp; done) | (go_simp; with_reducible rfl) | (go_simp; rfl)⟩) trivial ?_
            try simp only [Act.put, List.setIfInBounds_toArray, List.set_cons_zero, List.set_cons_succ]
            refine hx_take 24 (some 86) (.pointer (some ⟨p, 1, none⟩)) rfl (by kernel_rfl) (by kernel_rfl) (by kernel_rfl) (fun _ _ _ h => h) rfl (Or.inl ⟨by rfl, fun w hSw => by first | (go_simp; done) | (go_simp; with_reducible rfl) | (go_simp; rfl)⟩) trivial ?_
            try simp only [Act.put, List.setIfInBounds_toArray, List.set_cons_zero, List.set_cons_succ]
            have f6 := hp6.frozen 1
            have k6 := hp6.cell 1 rfl
            refine hx1 25 (by kernel_rfl) ?_
            refine hx_step 25 rfl (by rfl) (fun K hK => ?_)
            go_simp
            refine hK.out _ _ trivial ?_
            clear hK K
            try simp only [Act.put, List.setIfInBounds_toArray, List.set_cons_zero, List.set_cons_succ]
            refine wpAnyH_done (by kernel_rfl) ?_ _
            go_wp2_with fail
            go_end0
            exact ⟨rfl, FIN.out w6 B6 A6 kd c6 (hBKS.out w6 (below_trans' hbn hbn.size hb6) A6 c6 (o6.base B5.size))⟩
          · refine hx_callE 13 (some 75) _ _ (dvR wa59 es vs n NL) rfl (by rfl) rfl (by go_simp) (cD.out wa59 Ba59 A4 c4 (o4.sl mkC_len) o4.cap.1) ?_
            rintro v2 wa62 ⟨Bd, kd, ckd, rfl, hbd, hb5⟩
            have Ba62 := below_trans' Ba59 Ba59.size hb5
            have hbd := hbd.base Ba59.size
            refine ⟨trivial, ?_⟩
            try simp only [Act.put, List.setIfInBounds_toArray, List.set_cons_zero, List.set_cons_succ]
            refine hx1 4 (by kernel_rfl) ?_
            have q1c := keep1 Ba62 q1
            refine hx_val 4 (some 66) (.slice (some ⟨g, 0, none⟩) 1 ck) wa62 rfl (by rfl) rfl (by first | (go_simp; done) | (go_simp; with_reducible rfl)) trivial ?_
            try simp only [Act.put, List.setIfInBounds_toArray, List.set_cons_zero, List.set_cons_succ]
            clear q1c
            refine hx_take 6 (some 68) (.slice (some ⟨g, 0, none⟩) 0 ck) rfl (by kernel_rfl) (by kernel_rfl) (by kernel_rfl) (fun _ _ _ h => h) rfl (Or.inl ⟨by rfl, fun w hSw => by first | (go_simp; done) | (go_simp; with_reducible rfl) | (go_simp; rfl)⟩) trivial ?_
            try simp only [Act.put, List.setIfInBounds_toArray, List.set_cons_zero, List.set_cons_succ]
            obtain ⟨bl, sbl, nbl, hBKS⟩ := bks_list hbd
            have bn2 := Blk.new wa62 57 #[.slice (some ⟨g, 0, none⟩) 0 ck, .slice Bd kd ckd, .slice (cutA (some ⟨g, 0, none⟩) 1 ck 2) 0 (ck - 1)]
            have hbn := (Below.refl wa62.heap.size wa62).alloc (Nat.le_refl _) (.cells #[.slice (some ⟨g, 0, none⟩) 0 ck, .slice Bd kd ckd, .slice (cutA (some ⟨g, 0, none⟩) 1 ck 2) 0 (ck - 1)] 57)
            refine hx1 21 (by kernel_rfl) ?_
            refine hx_val 21 (some 83) (.slice (some ⟨wa62.heap.size, 0, none⟩) 3 3) (wa62.alloc (.cells #[.slice (some ⟨g, 0, none⟩) 0 ck, .slice Bd kd ckd, .slice (cutA (some ⟨g, 0, none⟩) 1 ck 2) 0 (ck - 1)] 57)) rfl (by rfl) rfl (by first | (go_simp; done) | (go_simp; with_reducible rfl)) trivial ?_
            try simp only [Act.put, List.setIfInBounds_toArray, List.set_cons_zero, List.set_cons_succ]
            have sbl := sbl.below hbn
            obtain ⟨g5, hg5⟩ : ∃ q, wa62.heap.size = q := ⟨_, rfl⟩
            obtain ⟨w5, hw5⟩ : ∃ q, wa62.alloc (.cells #[.slice (some ⟨g, 0, none⟩) 0 ck, .slice Bd kd ckd, .slice (cutA (some ⟨g, 0, none⟩) 1 ck 2) 0 (ck - 1)] 57) = q := ⟨_, rfl⟩
            rw [hw5] at bn2 sbl hbn ⊢
            rw [hg5] at bn2 ⊢
            have B5 := below_trans' Ba62 Ba62.size hbn
            refine hx1 22 (by kernel_rfl) ?_
            refine hx_callE 22 (some 84) _ _ (cbR w5 kd bl) rfl (by rfl) rfl (by go_simp) (catB bn2 sbl nbl (bks_le hbd)) ?_
            rintro v3 w6 ⟨A6, c6, rfl, o6, hb6⟩
            have B6 := below_trans' B5 B5.size hb6
            have hp6 := hpB.below B6
            refine ⟨trivial, ?_⟩
            try simp only [Act.put, List.setIfInBounds_toArray, List.set_cons_zero, List.set_cons_succ]
            refine hx_take 23 (some 85) _ rfl (by kernel_rfl) (by kernel_rfl) (by kernel_rfl) (fun _ _ _ h => h) rfl (Or.inl ⟨by rfl, fun w hSw => by first | (go_simp; done) | (go_simp; with_reducible rfl) | (go_simp; rfl)⟩) trivial ?_
            try simp only [Act.put, List.setIfInBounds_toArray, List.set_cons_zero, List.set_cons_succ]
            refine hx_take 24 (some 86) (.pointer (some ⟨p, 1, none⟩)) rfl (by kernel_rfl) (by kernel_rfl) (by kernel_rfl) (fun _ _ _ h => h) rfl (Or.inl ⟨by rfl, fun w hSw => by first | (go_simp; done) | (go_simp; with_reducible rfl) | (go_simp; rfl)⟩) trivial ?_
            try simp only [Act.put, List.setIfInBounds_toArray, List.set_cons_zero, List.set_cons_succ]
            have f6 := hp6.frozen 1
            have k6 := hp6.cell 1 rfl
            refine hx1 25 (by kernel_rfl) ?_
            refine hx_step 25 rfl (by rfl) (fun K hK => ?_)
            go_simp
            refine hK.out _ _ trivial ?_
            clear hK K
            try simp only [Act.put, List.setIfInBounds_toArray, List.set_cons_zero, List.set_cons_succ]
            refine wpAnyH_done (by kernel_rfl) ?_ _
            go_wp2_with fail
            go_end0
            exact ⟨rfl, FIN.out w6 B6 A6 kd c6 (hBKS.out w6 (below_trans' hbn hbn.size hb6) A6 c6 (o6.base B5.size))⟩
end Go.Proofs.YtbpodnhebjjkaaaGreatDoor
