/- run.divide, where every item has one unit. -/
import Derived.Test.YthbodpjkckminaaGreatDoorm12
namespace Go.Proofs.YthbodpjkckminaaGreatDoor
open Go.RowKit
attribute [local go_sem] Oper.semAt_some

theorem KpI.refl_ (N0 : Nat) (W : World) : KpI N0 W W := ⟨fun _ _ => rfl, fun _ _ _ _ => rfl⟩
section
variable {w W v v' : World} {p3 p po n c n2 c2 : Nat} {a : Int} {u : Value} {A A2 : Option Addr} {zs ys : List It}
theorem PS.rebase (h : PS w W v p3 p po a u A n c zs A2 n2 c2 ys) : PS w v v p3 p po a u A n c zs A2 n2 c2 ys :=
  ⟨h.b3, h.bp, h.bo, h.own, h.oo, h.ap, h.ne, h.lo, Nat.le_trans h.wW h.sz, h.bel, KpI.refl_ _ _, Nat.le_refl _, KeepsOthers.refl _⟩
theorem PS.swap (h : PS w W v p3 p po a (.slice A n c) A n c zs A2 n2 c2 ys) : PS w W v p3 po p a (.slice A2 n2 c2) A2 n2 c2 ys A n c zs :=
  ⟨h.b3, h.bo, h.bp, h.oo, h.own, h.ap.symm, ⟨h.ne.2.1, h.ne.1, h.ne.2.2.symm⟩, ⟨h.lo.1, h.lo.2.2, h.lo.2.1⟩, h.wW, h.bel, h.kp, h.sz, h.ko⟩
theorem PS.own_ {D : Nat} (hD : w.heap.size ≤ D) {X Y : World} {row : Option Nat} (h : PS w X X p3 p po a u A n c zs A2 n2 c2 ys) (hg : X.grownBy Y row) (hr : ∀ r, row = some r → D ≤ r ∧ ∃ o : Obj, X.heap[r]? = some o ∧ o.isCells = false) : PS w Y Y p3 p po a u A n c zs A2 n2 c2 ys :=
  ⟨ownFrom_blk D p3 _ (fun _ : Unit => _) () X Y row h.b3 hg hr, ownFrom_blk D p _ (fun _ : Unit => _) () X Y row h.bp hg hr, ownFrom_blk D po _ (fun _ : Unit => _) () X Y row h.bo hg hr, h.own.others_ hg (fun r e => (hr r e).2), h.oo.others_ hg (fun r e => (hr r e).2), h.ap, h.ne, h.lo, Nat.le_trans h.wW hg.size, h.bel.grown hg h.bel.size (fun k e => Nat.le_trans hD (hr k e).1), KpI.refl_ _ _, Nat.le_refl _, KeepsOthers.refl _⟩
end
/-- the items before a unit, and those from it on, of those that have come. -/
def dvB (a : Int) (y : Nat) : Bool := decide (((min y 1000000 : Nat) : Int) + 1 ≤ a)
def dvL (xs : List It) (a : Int) (pre : List Nat) : List It := (pre.filter (dvB a)).map (gIt xs)
def dvR (xs : List It) (a : Int) (pre : List Nat) : List It := (pre.filter (fun y => !dvB a y)).map (gIt xs)
theorem dvL_yes {xs : List It} {a : Int} {pre : List Nat} {y : Nat} (h : dvB a y = true) : dvL xs a (pre ++ [y]) = dvL xs a pre ++ [gIt xs y] ∧ dvR xs a (pre ++ [y]) = dvR xs a pre := by
  unfold dvL dvR; simp [List.filter_append, h]
theorem dvL_no {xs : List It} {a : Int} {pre : List Nat} {y : Nat} (h : dvB a y = false) : dvL xs a (pre ++ [y]) = dvL xs a pre ∧ dvR xs a (pre ++ [y]) = dvR xs a pre ++ [gIt xs y] := by
  unfold dvL dvR; simp [List.filter_append, h]
theorem dv_len (xs : List It) (a : Int) (pre : List Nat) : (dvL xs a pre).length ≤ pre.length ∧ (dvR xs a pre).length ≤ pre.length := by
  unfold dvL dvR
  rw [List.length_map, List.length_map]
  exact ⟨List.length_filter_le _ _, List.length_filter_le _ _⟩
theorem map_range_take (xs : List It) : ∀ k, k ≤ xs.length → (List.range k).map (gIt xs) = xs.take k
  | 0, _ => by simp
  | k + 1, h => by
    rw [List.range_succ, List.map_append, map_range_take xs k (by omega), List.take_succ_eq_append_getElem (by omega)]
    have : gIt xs k = xs[k] := by unfold gIt; rw [List.getD_eq_getElem?_getD, List.getElem?_eq_getElem (by omega)]; rfl
    simp [this]
theorem dv_range (xs : List It) (a : Nat) (h : xs.length ≤ 1000000) (ha : a ≤ xs.length) : ∀ k, k ≤ xs.length → dvL xs a (List.range k) = xs.take (min a k) ∧ dvR xs a (List.range k) = (xs.take k).drop a
  | 0, _ => ⟨by simp [dvL], by simp [dvR]⟩
  | k + 1, hk => by
    have ih := dv_range xs a h ha k (by omega)
    have hg : gIt xs k = xs[k] := by unfold gIt; rw [List.getD_eq_getElem?_getD, List.getElem?_eq_getElem (by omega)]; rfl
    have ht := List.take_succ_eq_append_getElem (l := xs) (i := k) (by omega)
    rw [List.range_succ]
    by_cases hb : k + 1 ≤ a
    · have hB : dvB a k = true := by unfold dvB; rw [decide_eq_true_iff]; omega
      rw [(dvL_yes hB).1, (dvL_yes hB).2, ih.1, ih.2, show min a (k + 1) = k + 1 by omega, show min a k = k by omega, hg, ht]
      refine ⟨rfl, ?_⟩
      rw [List.drop_of_length_le (by rw [List.length_take]; omega), List.drop_of_length_le (by simp; omega)]
    · have hB : dvB a k = false := by unfold dvB; rw [decide_eq_false_iff_not]; omega
      rw [(dvL_no hB).1, (dvL_no hB).2, ih.1, ih.2, show min a (k + 1) = a by omega, show min a k = a by omega, hg, ht]
      refine ⟨rfl, ?_⟩
      rw [List.drop_append_of_le_length (by rw [List.length_take]; omega)]
def DvI (w : World) (p3 p4 p5 : Nat) (a : Int) (xs : List It) (pre : List Nat) (W : World) : Prop := ∃ AL cL AR cR, PS w W W p3 p4 p5 a (.slice AL (dvL xs a pre).length cL) AL (dvL xs a pre).length cL (dvL xs a pre) AR (dvR xs a pre).length cR (dvR xs a pre) ∧ (dvL xs a pre = [] → AL = none) ∧ (dvR xs a pre = [] → AR = none)
def DvPost (w : World) (L R : List It) (e : Ending) (w' : World) : Prop := ∃ (AL : Option Addr) (cL : Nat) (AR : Option Addr) (cR : Nat), e = .returned (.tuple #[.slice AL L.length cL, .slice AR R.length cR]) ∧ Own w' w.heap.size 102 11 itC AL L.length cL L ∧ Own w' w.heap.size 102 11 itC AR R.length cR R ∧ Below w.heap.size w w'
theorem results_dv (tmps : Array Value) (w w0 W : World) (p3 p4 p5 : Nat) (a : Int) (A A2 : Option Addr) (n c n2 c2 : Nat) (zs ys : List It) (h : PS w0 W w p3 p4 p5 a (.slice A n c) A n c zs A2 n2 c2 ys) (h4 : tmps.getD 4 undef = .pointer (some ⟨p4, 0, none⟩)) (h5 : tmps.getD 5 undef = .pointer (some ⟨p5, 0, none⟩)) :
    (results Tryz.f177 tmps).run Tryz.prog w = .ok (.tuple #[.slice A n c, .slice A2 n2 c2]) w := by
  have q4 := h.bp.cell 0 rfl
  have q5 := h.bo.cell 0 rfl
  have h4' : tmps[4]?.getD undef = .pointer (some ⟨p4, 0, none⟩) := by simpa using h4
  have h5' : tmps[5]?.getD undef = .pointer (some ⟨p5, 0, none⟩) := by simpa using h5
  simp [results, h4', h5', asAddr, go_sem, q4, q5]
set_option maxRecDepth 100000 in
set_option maxHeartbeats 16000000 in
theorem divide_any (A : Option Addr) (m c : Nat) (xs : List It) (a : Int) (w : World) (ha : Its w A m xs) (hn : m ≤ 1000000) (ht : ∀ x ∈ xs, One x) (ha0 : 0 ≤ a) (ham : a ≤ m) :
    Calls Tryz.prog 177 #[.slice A m c, .int .i64 a] w (DvPost w (xs.take a.toNat) (xs.drop a.toNat)) := by
  have hLow := Lib.hid ha.lowW
  have hxl := ha.len
  refine (callsIn_wide (n := 8)).1 ?_
  refine callsIn_of_wp_marks Tryz.func177 rfl trivial ?_ rfl
  simp only [Tryz.ntmps177, List.size_toArray, List.length_cons, List.length_nil, Nat.reduceAdd, Nat.reduceSub, Array.replicate_succ, Array.replicate_zero, List.push_toArray, List.append_toArray, List.nil_append, List.cons_append]
  gi_upto_region 0 with fail
  gi_cut [3, 4, 5] from 74 (fun v3 v4 v5 wx => ∃ p3 p4 p5, v3 = .pointer (some ⟨p3, 0, none⟩) ∧ v4 = .pointer (some ⟨p4, 0, none⟩) ∧ v5 = .pointer (some ⟨p5, 0, none⟩) ∧ PS w wx wx p3 p4 p5 a (.slice none 0 0) none 0 0 [] none 0 0 [])
  case first =>
    have B3 := Blk.new w 3 #[.int .i64 a]
    have B4 := Blk.new (w.alloc (.cells #[.int .i64 a] 3)) 54 #[.slice none 0 0]
    have B5 := Blk.new ((w.alloc (.cells #[.int .i64 a] 3)).alloc (.cells #[.slice none 0 0] 54)) 54 #[.slice none 0 0]
    have hb := (((Below.refl w.heap.size w).alloc (Nat.le_refl _) (.cells #[.int .i64 a] 3)).alloc (by simp) (.cells #[.slice none 0 0] 54)).alloc (by simp; omega) (.cells #[.slice none 0 0] 54)
    have HX := Lib.hid (show PS w (((w.alloc (.cells #[.int .i64 a] 3)).alloc (.cells #[.slice none 0 0] 54)).alloc (.cells #[.slice none 0 0] 54)) (((w.alloc (.cells #[.int .i64 a] 3)).alloc (.cells #[.slice none 0 0] 54)).alloc (.cells #[.slice none 0 0] 54)) w.heap.size (w.heap.size + 1) (w.heap.size + 1 + 1) a (.slice none 0 0) none 0 0 [] none 0 0 [] from
      ⟨(B3.alloc _).alloc _, by have := B4.alloc (.cells #[.slice none 0 0] 54); simpa using this, by simpa using B5, Own.nil_ _ _ _ _ _, Own.nil_ _ _ _ _ _, Apart.none_l, ⟨by omega, by omega, by omega⟩, ⟨by omega, by omega, by omega⟩, hb.size, hb, KpI.refl_ _ _, Nat.le_refl _, KeepsOthers.refl _⟩)
    clear B3 B4 B5 hb
    gi_wp2
    gi_meet
    case rel => exact ⟨_, _, _, rfl, rfl, rfl, HX.out⟩
  case rest =>
  obtain ⟨p3, p4, p5, rfl, rfl, rfl, X0⟩ := hcut
  gi_wp2_with (refine ⟨trivial, ?_⟩; gi_at_call 154; refine (callsIn_wide.2 (items_any2 A m c _)).mono ?_; rintro e w4 ⟨pq, rfl, Nq, hpq, hb4⟩)
  have X4 := (X0.below hb4).rebase
  have hA4 := ha.below X4.bel
  have hsz4 := X4.bel.size
  clear X0
  refine wpIn_rangeFunc_ownH rfl (by omega) (gf := 182) (lb := #[.pointer (some ⟨pq, 0, none⟩)]) rfl trivial (enters_of Tryz.func182 (by kernel_rfl) rfl)
    (items_stops _ pq w.heap.size A m c xs w4 hn ht hA4 hLow.out (Nq.cell 0 rfl)) KpI.trans_ (KpI.put_ hsz4) (Below.refl _ _) (fun _ => rfl)
    (DvI w p3 p4 p5 a xs) (fun _ _ _ => False) (fun pre X Y row h hg hr => by
      obtain ⟨AL, cL, AR, cR, h1, h2, h3⟩ := h
      exact ⟨AL, cL, AR, cR, h1.own_ hsz4 hg hr, h2, h3⟩)
    (fun _ _ _ _ _ h _ _ => h)
    ⟨none, 0, none, 0, X4, fun _ => rfl, fun _ => rfl⟩
    (fun y a' W => ∃ q, Blk W q 102 (itA (gIt xs y)) ∧ a' = { tmps := #[.slice A m c, .int .i64 a, undef, .pointer (some ⟨p3, 0, none⟩), .pointer (some ⟨p4, 0, none⟩), .pointer (some ⟨p5, 0, none⟩), .int .i64 (min y 1000000 : Nat), .pointer (some ⟨q, 0, none⟩), undef, undef, undef, undef, undef, .slice A m c, .func (.func 182) #[] #[.pointer (some ⟨pq, 0, none⟩)], .int .i64 (min y 1000000 : Nat), .agg (itA (gIt xs y)), undef, undef, undef, undef, undef, undef, undef, undef, undef, undef, undef, undef, undef, undef, undef, undef, undef, undef, undef, undef, undef, undef, undef, undef, undef, undef, undef, undef, undef, undef, undef, undef, undef, undef, undef, undef, undef, undef, undef, undef, undef, undef, undef, undef, undef, undef, undef, undef, undef, undef, undef, undef, undef, undef, undef, undef, undef], defers := [] })
    (fun y a' => fun _ X Y row h hg hr => by
      obtain ⟨q, h1, h2⟩ := h
      exact ⟨q, ownFrom_blk _ q _ (fun _ : Unit => _) () X Y row h1 hg hr, h2⟩) ?assign ?body ?done ?stop
  case assign =>
    intro l pre y W K hI hK
    have NZ := newZ W
    have ho := itA_one (gIt xs y)
    obtain ⟨BX, hBx⟩ := boxed_it W (gIt xs y)
    obtain ⟨AL, cL, AR, cR, h1, h2, h3⟩ := hI
    have hI2 : DvI w p3 p4 p5 a xs pre ((W.alloc (.cells itZA 102)).setRow W.heap.size (itA (gIt xs y))) := ⟨AL, cL, AR, cR, (h1.below hBx).rebase, h2, h3⟩
    have hk1 := (others_below hBx).from w4.heap.size
    have hk2 : KpI w.heap.size W _ := KpI.of_below hBx h1.bel.size
    have HK := Lib.hid (fun a' => hK a' _ hk1 hk2 hI2)
    clear hK hk1 hk2 hI2 h1 h2 h3
    gi_wp2_with (refine wlF_store rfl 102 _ _ rfl W.heap.size (itA (gIt xs y)) rfl rfl 102 _ NZ (by kernel_rfl) rfl ho ?_)
    exact HK.out _ ⟨_, BX, rfl⟩
  case body =>
    rintro l pre y a' W hl _ ⟨AL, cL, AR, cR, X5, hL0, hR0⟩ ⟨q, Bq, rfl⟩ hlt
    have rq := Blk.rng Bq
    have hsz := size_it
    have hu := fun W => units_one (gIt xs y) W (gIt_one ht y)
    obtain ⟨hl1, hl2⟩ := dv_len xs a pre
    have YES := Lib.hid (fun h => dvL_yes (xs := xs) (a := a) (pre := pre) (y := y) h)
    have NO := Lib.hid (fun h => dvL_no (xs := xs) (a := a) (pre := pre) (y := y) h)
    have HBd := Lib.hid (show dvB a y = decide (((min y 1000000 : Nat) : Int) + 1 ≤ a) from rfl)
    clear X4 Nq hb4 hA4 hpq
    rw [show itA (gIt xs y) = (itC (gIt xs y)).toArray from rfl] at hu
    rw [show itA (gIt xs y) = (itC (gIt xs y)).toArray from rfl]
    have Bq : Blk W q 102 (itA (gIt xs y)) := Bq
    have hzl : (dvL xs a pre).length = (dvL xs a pre).length := rfl
    have hzr : (dvR xs a pre).length = (dvR xs a pre).length := rfl
    generalize gIt xs y = x at *
    have HD := Lib.hid (show ∀ v AL cL AR cR, PS w v v p3 p4 p5 a (.slice AL (dvL xs a (pre ++ [y])).length cL) AL (dvL xs a (pre ++ [y])).length cL (dvL xs a (pre ++ [y])) AR (dvR xs a (pre ++ [y])).length cR (dvR xs a (pre ++ [y])) → (dvL xs a (pre ++ [y]) = [] → AL = none) → (dvR xs a (pre ++ [y]) = [] → AR = none) → DvI w p3 p4 p5 a xs (pre ++ [y]) v from fun v AL cL AR cR h1 h2 h3 => ⟨AL, cL, AR, cR, h1, h2, h3⟩)
    generalize hLd : dvL xs a pre = zsL at *
    generalize hRd : dvR xs a pre = zsR at *
    obtain ⟨f, hf⟩ : ∃ f : Nat, min y 1000000 = f := ⟨_, rfl⟩
    have hf1 : f ≤ 1000000 := by omega
    have hbd := HBd.out
    rw [hf] at hbd
    rw [hf]
    clear HBd hf hLd hRd hzl hzr
    have HBd := Lib.hid hbd
    clear hbd
    have hw1 : IntKind.i64.wrap ((f : Int) + 1) = (f : Int) + 1 := IntWalk.i64_in _ (by omega)
    gi_upto_region 9 with (first | (refine wlF_load rfl 102 _ rfl q 0 rfl (itC x) _ rq Tryz.underlying102 rfl hsz ?_) | (refine ⟨trivial, ?_⟩; gi_at_call 155; refine (CallsIn.inRound l (callsIn_wide.2 (hu _))).mono ?_; rintro e w5 ⟨rfl, hb5⟩))
    have X6 := X5.below hb5
    have q3 := X6.b3.cell 0 rfl
    clear X5 rq hu
    by_cases hc : (f : Int) + 1 ≤ a
    · have hy := Lib.hid (YES.out (HBd.out.trans (decide_eq_true hc)))
      have FIN := Lib.hid (show ∀ v g1 c', PS w W v p3 p4 p5 a (.slice (some ⟨g1, 0, none⟩) (zsL.length + 1) c') (some ⟨g1, 0, none⟩) (zsL.length + 1) c' ((zsL ++ [itZ]).set zsL.length x) AR zsR.length cR zsR → ownPostG w4.heap.size (KpI w.heap.size) (DvI w p3 p4 p5 a xs) (fun _ _ _ => False) (pre ++ [y]) W .normal { tmps := #[], defers := [] } v from fun v g1 c' h => by
        refine ⟨h.ko.from _, h.kp, HD.out v (some ⟨g1, 0, none⟩) c' AR cR ?_ (fun e => by rw [hy.out.1] at e; simp at e) (by rw [hy.out.2]; exact hR0)⟩
        rw [hy.out.1, hy.out.2, List.length_append]
        have e : (zsL ++ [itZ]).set zsL.length x = zsL ++ [x] := by simp
        rw [e] at h
        exact h.rebase)
      have X7 := X6.below (bDrew (Below.refl _ w5))
      have h0 : zsL.length = 0 → AL = none := fun h => hL0 (List.eq_nil_of_length_eq_zero h)
      have RQ : ∀ {v : World} {u : Value} {A : Option Addr} {n c : Nat} {zs : List It}, PS w W v p3 p4 p5 a u A n c zs AR zsR.length cR zsR → v.rangeAt q 0 (itC x) := fun h => Blk.rng ((h.kp.one q _ Bq rfl).trans Bq)
      clear YES NO HD hy hL0 hR0 HBd X6
      generalize hk : zsL.length = k at *
      obtain ⟨AP, hAP⟩ : ∃ AP, AP = AL := ⟨_, rfl⟩
      obtain ⟨cP, hcP⟩ : ∃ cP, cP = cL := ⟨_, rfl⟩
      rw [← hAP, ← hcP] at X7
      rw [← hAP] at h0
      clear hAP hcP hk
      gi_upto_region 10 with fail
      refine wpIn_region_hand (S := fun w' => w'.rangeAt q 0 (itC x)) l _ (by kernel_rfl) (by kernel_rfl) (RQ X7) (fun hHeld => ?_)
      clear q3
      generalize w5.drew = wd at *
      have H7 := X7.below (alloc1 wd (.cells itZA 102))
      have NZ : Blk (wd.alloc (.cells itZA 102)) wd.heap.size 102 (itC itZ).toArray := Blk.new _ _ _
      have cp0 := X7.bp.cell 0 rfl
      have cp7 := H7.bp.cell 0 rfl
      have R7 := RQ H7
      have hki : ¬ ((k : Int) + 1 ≤ (k : Int)) := by omega
      refine hx_take 1 (some 57) (.agg (itC x).toArray) rfl (by kernel_rfl) (by kernel_rfl) (by kernel_rfl) (fun _ _ _ h => by cases h.1) rfl (yieldsIf_load_mid (by rfl) _ _ rfl q 0 rfl (itC x) _ (fun w hSw => hSw) Tryz.underlying102 rfl size_it) (by assumption) ?_
      try simp only [Act.put, List.setIfInBounds_toArray, List.set_cons_zero, List.set_cons_succ]
      refine hx2 0 3 (by kernel_rfl) ?_ ?_
      · refine hx_val 0 (some 56) (.slice AP k cP) wd rfl (by rfl) rfl (by first | (go_simp; done) | (go_simp; with_reducible rfl) | (go_simp; rfl)) hHeld ?_
        try simp only [Act.put, List.setIfInBounds_toArray, List.set_cons_zero, List.set_cons_succ]
        refine hx_take 2 (some 58) _ rfl (by kernel_rfl) (by kernel_rfl) (by kernel_rfl) (fun _ _ _ h => by cases h.1) rfl (Or.inl ⟨by rfl, fun w hSw => by first | (go_simp; done) | (go_simp; with_reducible rfl) | (go_simp; rfl)⟩) (by assumption) ?_
        try simp only [Act.put, List.setIfInBounds_toArray, List.set_cons_zero, List.set_cons_succ]
        refine hx1 3 (by kernel_rfl) ?_
        refine hx_val 3 (some 59) (.slice (some ⟨wd.heap.size, 0, none⟩) 1 1) (wd.alloc (.cells itZA 102)) rfl (by rfl) rfl (by first | (go_simp; done) | (go_simp; with_reducible rfl) | (go_simp; rfl)) (RQ H7) ?_
        try simp only [Act.put, List.setIfInBounds_toArray, List.set_cons_zero, List.set_cons_succ]
        refine hx1 4 (by kernel_rfl) ?_
        refine hx_pushS 4 (some 60) elemIt _ _ rfl (by rfl) rfl rfl rfl wd.heap.size rfl H7.own h0 itZ NZ (itC_one _) rfl ⟨by omega, by unfold maxLen; omega⟩ (Nat.le_trans H7.wW H7.sz) ?_
        rintro A' c' w8 row hO hg hc
        obtain ⟨g1, rfl, hg1, H8⟩ := H7.push h0 hO hg hc
        have R8 := RQ H8
        refine ⟨R8, ?_⟩
        try simp only [Act.put, List.setIfInBounds_toArray, List.set_cons_zero, List.set_cons_succ]
        clear hO hg hc
        refine hx_take 5 (some 61) (.pointer (some ⟨g1, k * 11, none⟩)) rfl (by kernel_rfl) (by kernel_rfl) (by kernel_rfl) (fun _ _ _ h => by cases h.1) rfl (Or.inl ⟨by rfl, fun w hSw => by first | (go_simp; done) | (go_simp; with_reducible rfl) | (go_simp; rfl)⟩) (by assumption) ?_
        try simp only [Act.put, List.setIfInBounds_toArray, List.set_cons_zero, List.set_cons_succ]
        have fp := H8.bp.frozen 0
        have cp := H8.bp.cell 0 rfl
        have H9 := H8.putRow hg1 (k := k) (by omega) x
        have H9' := H8.putCell (.slice (some ⟨g1, 0, none⟩) (k + 1) c')
        have HA := Lib.hid (H9.putCell (.slice (some ⟨g1, 0, none⟩) (k + 1) c'))
        have HB := Lib.hid (H9'.putRow hg1 (k := k) (by omega) x)
        have T8 := H8.own.thereQ itC_len (k := k) (by omega)
        have T9 := H9'.own.thereQ itC_len (k := k) (by omega)
        have R9 := RQ H9
        have R9' := RQ H9'
        have RA := RQ HA.out
        have RB := RQ HB.out
        have fq := H9.bp.frozen 0
        have cq := H9.bp.cell 0 rfl
        clear H8 H9 H9' RQ
        refine hx2 6 7 (by kernel_rfl) ?_ ?_
        · refine hx_storeQ 6 _ _ _ g1 (k * 11) (itC x) rfl (by rfl) rfl rfl rfl rfl T8 size_it (itC_one x) R9 ?_
          try simp only [Act.put, List.setIfInBounds_toArray, List.set_cons_zero, List.set_cons_succ]
          generalize w8.setCells g1 (k * 11) (itC x) = wq at *
          clear fp cp
          refine hx1 7 (by kernel_rfl) ?_
          refine hx_store1 7 p4 (.slice (some ⟨g1, 0, none⟩) (k + 1) c') rfl (by rfl) rfl (by first | (go_simp; done) | (go_simp; with_reducible rfl) | (go_simp; rfl)) RA ?_
          refine wpAnyH_done (by kernel_rfl) ?_ _
          generalize wq.setCell ⟨p4, 0, none⟩ (.slice (some ⟨g1, 0, none⟩) (k + 1) c') = wz at *
          refine ⟨rfl, ?_⟩
          gi_wp2
          exact FIN.out _ _ _ HA.out
        · refine hx_store1 7 p4 (.slice (some ⟨g1, 0, none⟩) (k + 1) c') rfl (by rfl) rfl (by first | (go_simp; done) | (go_simp; with_reducible rfl) | (go_simp; rfl)) R9' ?_
          generalize w8.setCell ⟨p4, 0, none⟩ (.slice (some ⟨g1, 0, none⟩) (k + 1) c') = wq at *
          refine hx1 6 (by kernel_rfl) ?_
          refine hx_storeQ 6 _ _ _ g1 (k * 11) (itC x) rfl (by rfl) rfl rfl rfl rfl T9 size_it (itC_one x) RB ?_
          try simp only [Act.put, List.setIfInBounds_toArray, List.set_cons_zero, List.set_cons_succ]
          refine wpAnyH_done (by kernel_rfl) ?_ _
          generalize wq.setCells g1 (k * 11) (itC x) = wz at *
          refine ⟨rfl, ?_⟩
          gi_wp2
          exact FIN.out _ _ _ HB.out
      · refine hx_val 3 (some 59) (.slice (some ⟨wd.heap.size, 0, none⟩) 1 1) (wd.alloc (.cells itZA 102)) rfl (by rfl) rfl (by first | (go_simp; done) | (go_simp; with_reducible rfl) | (go_simp; rfl)) (RQ H7) ?_
        try simp only [Act.put, List.setIfInBounds_toArray, List.set_cons_zero, List.set_cons_succ]
        refine hx1 0 (by kernel_rfl) ?_
        refine hx_val 0 (some 56) (.slice AP k cP) (wd.alloc (.cells itZA 102)) rfl (by rfl) rfl (by first | (go_simp; done) | (go_simp; with_reducible rfl) | (go_simp; rfl)) (RQ H7) ?_
        try simp only [Act.put, List.setIfInBounds_toArray, List.set_cons_zero, List.set_cons_succ]
        refine hx_take 2 (some 58) _ rfl (by kernel_rfl) (by kernel_rfl) (by kernel_rfl) (fun _ _ _ h => by cases h.1) rfl (Or.inl ⟨by rfl, fun w hSw => by first | (go_simp; done) | (go_simp; with_reducible rfl) | (go_simp; rfl)⟩) (by assumption) ?_
        try simp only [Act.put, List.setIfInBounds_toArray, List.set_cons_zero, List.set_cons_succ]
        refine hx1 4 (by kernel_rfl) ?_
        refine hx_pushS 4 (some 60) elemIt _ _ rfl (by rfl) rfl rfl rfl wd.heap.size rfl H7.own h0 itZ NZ (itC_one _) rfl ⟨by omega, by unfold maxLen; omega⟩ (Nat.le_trans H7.wW H7.sz) ?_
        rintro A' c' w8 row hO hg hc
        obtain ⟨g1, rfl, hg1, H8⟩ := H7.push h0 hO hg hc
        have R8 := RQ H8
        refine ⟨R8, ?_⟩
        try simp only [Act.put, List.setIfInBounds_toArray, List.set_cons_zero, List.set_cons_succ]
        clear hO hg hc
        refine hx_take 5 (some 61) (.pointer (some ⟨g1, k * 11, none⟩)) rfl (by kernel_rfl) (by kernel_rfl) (by kernel_rfl) (fun _ _ _ h => by cases h.1) rfl (Or.inl ⟨by rfl, fun w hSw => by first | (go_simp; done) | (go_simp; with_reducible rfl) | (go_simp; rfl)⟩) (by assumption) ?_
        try simp only [Act.put, List.setIfInBounds_toArray, List.set_cons_zero, List.set_cons_succ]
        have fp := H8.bp.frozen 0
        have cp := H8.bp.cell 0 rfl
        have H9 := H8.putRow hg1 (k := k) (by omega) x
        have H9' := H8.putCell (.slice (some ⟨g1, 0, none⟩) (k + 1) c')
        have HA := Lib.hid (H9.putCell (.slice (some ⟨g1, 0, none⟩) (k + 1) c'))
        have HB := Lib.hid (H9'.putRow hg1 (k := k) (by omega) x)
        have T8 := H8.own.thereQ itC_len (k := k) (by omega)
        have T9 := H9'.own.thereQ itC_len (k := k) (by omega)
        have R9 := RQ H9
        have R9' := RQ H9'
        have RA := RQ HA.out
        have RB := RQ HB.out
        have fq := H9.bp.frozen 0
        have cq := H9.bp.cell 0 rfl
        clear H8 H9 H9' RQ
        refine hx2 6 7 (by kernel_rfl) ?_ ?_
        · refine hx_storeQ 6 _ _ _ g1 (k * 11) (itC x) rfl (by rfl) rfl rfl rfl rfl T8 size_it (itC_one x) R9 ?_
          try simp only [Act.put, List.setIfInBounds_toArray, List.set_cons_zero, List.set_cons_succ]
          generalize w8.setCells g1 (k * 11) (itC x) = wq at *
          clear fp cp
          refine hx1 7 (by kernel_rfl) ?_
          refine hx_store1 7 p4 (.slice (some ⟨g1, 0, none⟩) (k + 1) c') rfl (by rfl) rfl (by first | (go_simp; done) | (go_simp; with_reducible rfl) | (go_simp; rfl)) RA ?_
          refine wpAnyH_done (by kernel_rfl) ?_ _
          generalize wq.setCell ⟨p4, 0, none⟩ (.slice (some ⟨g1, 0, none⟩) (k + 1) c') = wz at *
          refine ⟨rfl, ?_⟩
          gi_wp2
          exact FIN.out _ _ _ HA.out
        · refine hx_store1 7 p4 (.slice (some ⟨g1, 0, none⟩) (k + 1) c') rfl (by rfl) rfl (by first | (go_simp; done) | (go_simp; with_reducible rfl) | (go_simp; rfl)) R9' ?_
          generalize w8.setCell ⟨p4, 0, none⟩ (.slice (some ⟨g1, 0, none⟩) (k + 1) c') = wq at *
          refine hx1 6 (by kernel_rfl) ?_
          refine hx_storeQ 6 _ _ _ g1 (k * 11) (itC x) rfl (by rfl) rfl rfl rfl rfl T9 size_it (itC_one x) RB ?_
          try simp only [Act.put, List.setIfInBounds_toArray, List.set_cons_zero, List.set_cons_succ]
          refine wpAnyH_done (by kernel_rfl) ?_ _
          generalize wq.setCells g1 (k * 11) (itC x) = wz at *
          refine ⟨rfl, ?_⟩
          gi_wp2
          exact FIN.out _ _ _ HB.out
    · have hc2 : a ≤ (f : Int) := by omega
      have hy := Lib.hid (NO.out (HBd.out.trans (decide_eq_false hc)))
      have FIN := Lib.hid (show ∀ v g1 c', PS w W v p3 p5 p4 a (.slice (some ⟨g1, 0, none⟩) (zsR.length + 1) c') (some ⟨g1, 0, none⟩) (zsR.length + 1) c' ((zsR ++ [itZ]).set zsR.length x) AL zsL.length cL zsL → ownPostG w4.heap.size (KpI w.heap.size) (DvI w p3 p4 p5 a xs) (fun _ _ _ => False) (pre ++ [y]) W .normal { tmps := #[], defers := [] } v from fun v g1 c' h => by
        refine ⟨h.ko.from _, h.kp, HD.out v AL cL (some ⟨g1, 0, none⟩) c' ?_ (by rw [hy.out.1]; exact hL0) (fun e => by rw [hy.out.2] at e; simp at e)⟩
        rw [hy.out.1, hy.out.2, List.length_append]
        have e : (zsR ++ [itZ]).set zsR.length x = zsR ++ [x] := by simp
        rw [e] at h
        exact h.swap.rebase)
      have X7 := X6.swap.below (bDrew (Below.refl _ w5))
      have h0 : zsR.length = 0 → AR = none := fun h => hR0 (List.eq_nil_of_length_eq_zero h)
      have RQ : ∀ {v : World} {u : Value} {A : Option Addr} {n c : Nat} {zs : List It}, PS w W v p3 p5 p4 a u A n c zs AL zsL.length cL zsL → v.rangeAt q 0 (itC x) := fun h => Blk.rng ((h.kp.one q _ Bq rfl).trans Bq)
      clear YES NO HD hy hL0 hR0 HBd X6
      generalize hk : zsR.length = k at *
      obtain ⟨AP, hAP⟩ : ∃ AP, AP = AR := ⟨_, rfl⟩
      obtain ⟨cP, hcP⟩ : ∃ cP, cP = cR := ⟨_, rfl⟩
      rw [← hAP, ← hcP] at X7
      rw [← hAP] at h0
      clear hAP hcP hk
      gi_upto_region 12 with fail
      refine wpIn_region_hand (S := fun w' => w'.rangeAt q 0 (itC x)) l _ (by kernel_rfl) (by kernel_rfl) (RQ X7) (fun hHeld => ?_)
      clear q3
      generalize w5.drew = wd at *
      have H7 := X7.below (alloc1 wd (.cells itZA 102))
      have NZ : Blk (wd.alloc (.cells itZA 102)) wd.heap.size 102 (itC itZ).toArray := Blk.new _ _ _
      have cp0 := X7.bp.cell 0 rfl
      have cp7 := H7.bp.cell 0 rfl
      have R7 := RQ H7
      have hki : ¬ ((k : Int) + 1 ≤ (k : Int)) := by omega
      refine hx_take 1 (some 67) (.agg (itC x).toArray) rfl (by kernel_rfl) (by kernel_rfl) (by kernel_rfl) (fun _ _ _ h => by cases h.1) rfl (yieldsIf_load_mid (by rfl) _ _ rfl q 0 rfl (itC x) _ (fun w hSw => hSw) Tryz.underlying102 rfl size_it) (by assumption) ?_
      try simp only [Act.put, List.setIfInBounds_toArray, List.set_cons_zero, List.set_cons_succ]
      refine hx2 0 3 (by kernel_rfl) ?_ ?_
      · refine hx_val 0 (some 66) (.slice AP k cP) wd rfl (by rfl) rfl (by first | (go_simp; done) | (go_simp; with_reducible rfl) | (go_simp; rfl)) hHeld ?_
        try simp only [Act.put, List.setIfInBounds_toArray, List.set_cons_zero, List.set_cons_succ]
        refine hx_take 2 (some 68) _ rfl (by kernel_rfl) (by kernel_rfl) (by kernel_rfl) (fun _ _ _ h => by cases h.1) rfl (Or.inl ⟨by rfl, fun w hSw => by first | (go_simp; done) | (go_simp; with_reducible rfl) | (go_simp; rfl)⟩) (by assumption) ?_
        try simp only [Act.put, List.setIfInBounds_toArray, List.set_cons_zero, List.set_cons_succ]
        refine hx1 3 (by kernel_rfl) ?_
        refine hx_val 3 (some 69) (.slice (some ⟨wd.heap.size, 0, none⟩) 1 1) (wd.alloc (.cells itZA 102)) rfl (by rfl) rfl (by first | (go_simp; done) | (go_simp; with_reducible rfl) | (go_simp; rfl)) (RQ H7) ?_
        try simp only [Act.put, List.setIfInBounds_toArray, List.set_cons_zero, List.set_cons_succ]
        refine hx1 4 (by kernel_rfl) ?_
        refine hx_pushS 4 (some 70) elemIt _ _ rfl (by rfl) rfl rfl rfl wd.heap.size rfl H7.own h0 itZ NZ (itC_one _) rfl ⟨by omega, by unfold maxLen; omega⟩ (Nat.le_trans H7.wW H7.sz) ?_
        rintro A' c' w8 row hO hg hc
        obtain ⟨g1, rfl, hg1, H8⟩ := H7.push h0 hO hg hc
        have R8 := RQ H8
        refine ⟨R8, ?_⟩
        try simp only [Act.put, List.setIfInBounds_toArray, List.set_cons_zero, List.set_cons_succ]
        clear hO hg hc
        refine hx_take 5 (some 71) (.pointer (some ⟨g1, k * 11, none⟩)) rfl (by kernel_rfl) (by kernel_rfl) (by kernel_rfl) (fun _ _ _ h => by cases h.1) rfl (Or.inl ⟨by rfl, fun w hSw => by first | (go_simp; done) | (go_simp; with_reducible rfl) | (go_simp; rfl)⟩) (by assumption) ?_
        try simp only [Act.put, List.setIfInBounds_toArray, List.set_cons_zero, List.set_cons_succ]
        have fp := H8.bp.frozen 0
        have cp := H8.bp.cell 0 rfl
        have H9 := H8.putRow hg1 (k := k) (by omega) x
        have H9' := H8.putCell (.slice (some ⟨g1, 0, none⟩) (k + 1) c')
        have HA := Lib.hid (H9.putCell (.slice (some ⟨g1, 0, none⟩) (k + 1) c'))
        have HB := Lib.hid (H9'.putRow hg1 (k := k) (by omega) x)
        have T8 := H8.own.thereQ itC_len (k := k) (by omega)
        have T9 := H9'.own.thereQ itC_len (k := k) (by omega)
        have R9 := RQ H9
        have R9' := RQ H9'
        have RA := RQ HA.out
        have RB := RQ HB.out
        have fq := H9.bp.frozen 0
        have cq := H9.bp.cell 0 rfl
        clear H8 H9 H9' RQ
        refine hx2 6 7 (by kernel_rfl) ?_ ?_
        · refine hx_storeQ 6 _ _ _ g1 (k * 11) (itC x) rfl (by rfl) rfl rfl rfl rfl T8 size_it (itC_one x) R9 ?_
          try simp only [Act.put, List.setIfInBounds_toArray, List.set_cons_zero, List.set_cons_succ]
          generalize w8.setCells g1 (k * 11) (itC x) = wq at *
          clear fp cp
          refine hx1 7 (by kernel_rfl) ?_
          refine hx_store1 7 p5 (.slice (some ⟨g1, 0, none⟩) (k + 1) c') rfl (by rfl) rfl (by first | (go_simp; done) | (go_simp; with_reducible rfl) | (go_simp; rfl)) RA ?_
          refine wpAnyH_done (by kernel_rfl) ?_ _
          generalize wq.setCell ⟨p5, 0, none⟩ (.slice (some ⟨g1, 0, none⟩) (k + 1) c') = wz at *
          refine ⟨rfl, ?_⟩
          gi_wp2
          exact FIN.out _ _ _ HA.out
        · refine hx_store1 7 p5 (.slice (some ⟨g1, 0, none⟩) (k + 1) c') rfl (by rfl) rfl (by first | (go_simp; done) | (go_simp; with_reducible rfl) | (go_simp; rfl)) R9' ?_
          generalize w8.setCell ⟨p5, 0, none⟩ (.slice (some ⟨g1, 0, none⟩) (k + 1) c') = wq at *
          refine hx1 6 (by kernel_rfl) ?_
          refine hx_storeQ 6 _ _ _ g1 (k * 11) (itC x) rfl (by rfl) rfl rfl rfl rfl T9 size_it (itC_one x) RB ?_
          try simp only [Act.put, List.setIfInBounds_toArray, List.set_cons_zero, List.set_cons_succ]
          refine wpAnyH_done (by kernel_rfl) ?_ _
          generalize wq.setCells g1 (k * 11) (itC x) = wz at *
          refine ⟨rfl, ?_⟩
          gi_wp2
          exact FIN.out _ _ _ HB.out
      · refine hx_val 3 (some 69) (.slice (some ⟨wd.heap.size, 0, none⟩) 1 1) (wd.alloc (.cells itZA 102)) rfl (by rfl) rfl (by first | (go_simp; done) | (go_simp; with_reducible rfl) | (go_simp; rfl)) (RQ H7) ?_
        try simp only [Act.put, List.setIfInBounds_toArray, List.set_cons_zero, List.set_cons_succ]
        refine hx1 0 (by kernel_rfl) ?_
        refine hx_val 0 (some 66) (.slice AP k cP) (wd.alloc (.cells itZA 102)) rfl (by rfl) rfl (by first | (go_simp; done) | (go_simp; with_reducible rfl) | (go_simp; rfl)) (RQ H7) ?_
        try simp only [Act.put, List.setIfInBounds_toArray, List.set_cons_zero, List.set_cons_succ]
        refine hx_take 2 (some 68) _ rfl (by kernel_rfl) (by kernel_rfl) (by kernel_rfl) (fun _ _ _ h => by cases h.1) rfl (Or.inl ⟨by rfl, fun w hSw => by first | (go_simp; done) | (go_simp; with_reducible rfl) | (go_simp; rfl)⟩) (by assumption) ?_
        try simp only [Act.put, List.setIfInBounds_toArray, List.set_cons_zero, List.set_cons_succ]
        refine hx1 4 (by kernel_rfl) ?_
        refine hx_pushS 4 (some 70) elemIt _ _ rfl (by rfl) rfl rfl rfl wd.heap.size rfl H7.own h0 itZ NZ (itC_one _) rfl ⟨by omega, by unfold maxLen; omega⟩ (Nat.le_trans H7.wW H7.sz) ?_
        rintro A' c' w8 row hO hg hc
        obtain ⟨g1, rfl, hg1, H8⟩ := H7.push h0 hO hg hc
        have R8 := RQ H8
        refine ⟨R8, ?_⟩
        try simp only [Act.put, List.setIfInBounds_toArray, List.set_cons_zero, List.set_cons_succ]
        clear hO hg hc
        refine hx_take 5 (some 71) (.pointer (some ⟨g1, k * 11, none⟩)) rfl (by kernel_rfl) (by kernel_rfl) (by kernel_rfl) (fun _ _ _ h => by cases h.1) rfl (Or.inl ⟨by rfl, fun w hSw => by first | (go_simp; done) | (go_simp; with_reducible rfl) | (go_simp; rfl)⟩) (by assumption) ?_
        try simp only [Act.put, List.setIfInBounds_toArray, List.set_cons_zero, List.set_cons_succ]
        have fp := H8.bp.frozen 0
        have cp := H8.bp.cell 0 rfl
        have H9 := H8.putRow hg1 (k := k) (by omega) x
        have H9' := H8.putCell (.slice (some ⟨g1, 0, none⟩) (k + 1) c')
        have HA := Lib.hid (H9.putCell (.slice (some ⟨g1, 0, none⟩) (k + 1) c'))
        have HB := Lib.hid (H9'.putRow hg1 (k := k) (by omega) x)
        have T8 := H8.own.thereQ itC_len (k := k) (by omega)
        have T9 := H9'.own.thereQ itC_len (k := k) (by omega)
        have R9 := RQ H9
        have R9' := RQ H9'
        have RA := RQ HA.out
        have RB := RQ HB.out
        have fq := H9.bp.frozen 0
        have cq := H9.bp.cell 0 rfl
        clear H8 H9 H9' RQ
        refine hx2 6 7 (by kernel_rfl) ?_ ?_
        · refine hx_storeQ 6 _ _ _ g1 (k * 11) (itC x) rfl (by rfl) rfl rfl rfl rfl T8 size_it (itC_one x) R9 ?_
          try simp only [Act.put, List.setIfInBounds_toArray, List.set_cons_zero, List.set_cons_succ]
          generalize w8.setCells g1 (k * 11) (itC x) = wq at *
          clear fp cp
          refine hx1 7 (by kernel_rfl) ?_
          refine hx_store1 7 p5 (.slice (some ⟨g1, 0, none⟩) (k + 1) c') rfl (by rfl) rfl (by first | (go_simp; done) | (go_simp; with_reducible rfl) | (go_simp; rfl)) RA ?_
          refine wpAnyH_done (by kernel_rfl) ?_ _
          generalize wq.setCell ⟨p5, 0, none⟩ (.slice (some ⟨g1, 0, none⟩) (k + 1) c') = wz at *
          refine ⟨rfl, ?_⟩
          gi_wp2
          exact FIN.out _ _ _ HA.out
        · refine hx_store1 7 p5 (.slice (some ⟨g1, 0, none⟩) (k + 1) c') rfl (by rfl) rfl (by first | (go_simp; done) | (go_simp; with_reducible rfl) | (go_simp; rfl)) R9' ?_
          generalize w8.setCell ⟨p5, 0, none⟩ (.slice (some ⟨g1, 0, none⟩) (k + 1) c') = wq at *
          refine hx1 6 (by kernel_rfl) ?_
          refine hx_storeQ 6 _ _ _ g1 (k * 11) (itC x) rfl (by rfl) rfl rfl rfl rfl T9 size_it (itC_one x) RB ?_
          try simp only [Act.put, List.setIfInBounds_toArray, List.set_cons_zero, List.set_cons_succ]
          refine wpAnyH_done (by kernel_rfl) ?_ _
          generalize wq.setCells g1 (k * 11) (itC x) = wz at *
          refine ⟨rfl, ?_⟩
          gi_wp2
          exact FIN.out _ _ _ HB.out
  case done =>
    rintro D ys W hD rfl ⟨AL, cL, AR, cR, X5, _, _⟩ hK
    obtain ⟨d1, d2⟩ := dv_range xs a.toNat (by omega) (by omega) m (by omega)
    rw [show ((a.toNat : Nat) : Int) = a by omega] at d1 d2
    rw [show min a.toNat m = a.toNat by omega] at d1
    rw [List.take_of_length_le (by omega)] at d2
    rw [d1, d2] at X5
    clear d1 d2
    generalize xs.take a.toNat = L at *
    generalize xs.drop a.toNat = R at *
    clear X4 hA4 Nq
    have nD4 : p4 ≠ D := fun e => by have := X5.bp; unfold Blk at this; rw [e, hK] at this; cases this
    have nD5 : p5 ≠ D := fun e => by have := X5.bo; unfold Blk at this; rw [e, hK] at this; cases this
    have hDl : D < W.heap.size := (Array.getElem?_eq_some_iff.1 hK).1
    have Y2 := X5.putCell (.slice AL L.length cL)
    have Y3 := Lib.hid (((Y2.swap.putCell (.slice AR R.length cR)).swap.below (bDrew (Below.refl _ _))).rebase)
    have HK2 := Lib.hid (show ((W.setCell ⟨p4, 0, none⟩ (.slice AL L.length cL)).setCell ⟨p5, 0, none⟩ (.slice AR R.length cR)).drew.heap[D]? = some (.deferred (some [])) from
      ((gset _ p5 0 _).block D (Nat.lt_of_lt_of_le hDl (gset W p4 0 (.slice AL L.length cL)).size) (by simp; exact fun e => nD5 e.symm)).trans (((gset W p4 0 _).block D hDl (by simp; exact fun e => nD4 e.symm)).trans hK))
    have q4 := X5.bp.cell 0 rfl
    have q5 := X5.bo.cell 0 rfl
    have f4 := X5.bp.frozen 0
    have f5 := X5.bo.frozen 0
    have q5' : (W.setCell ⟨p4, 0, none⟩ (.slice AL L.length cL)).cell? ⟨p5, 0, none⟩ = some (.slice AR R.length cR) := cell_set q5 X5.ne.2.2.symm
    have f5' : (W.setCell ⟨p4, 0, none⟩ (.slice AL L.length cL)).frozen? ⟨p5, 0, none⟩ = false := Y2.bo.frozen 0
    clear hK Y2 X5
    gi_upto_region 13 with fail
    gi_region
    generalize ((W.setCell ⟨p4, 0, none⟩ (.slice AL L.length cL)).setCell ⟨p5, 0, none⟩ (.slice AR R.length cR)).drew = wz at *
    gi_wp2
    refine ⟨by simp, .inl ⟨_, _, rfl, run_takeDeferred HK2.out, ?_⟩⟩
    have Z := Y3.out.own_ hsz4 (grownBy_putObj' wz D (.deferred none)) (fun r e => by cases e; exact ⟨hD, _, HK2.out, rfl⟩)
    exact ⟨_, results_dv _ _ w _ p3 p4 p5 a _ _ _ _ _ _ _ _ Z rfl rfl, AL, cL, AR, cR, rfl, Z.own, Z.oo, Z.bel⟩
  case stop =>
    rintro D c pre W _ _ h _
    exact h.elim
end Go.Proofs.YthbodpjkckminaaGreatDoor
