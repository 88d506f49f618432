/- Blocks of a sequence: plain facts, what memory holds. renumber: (*Seq).divide, for at most 64 marks. -/
import Derived.Test.YtbpodnhebjjkaaaGreatDoorm10
import Derived.Test.YtbpodnhebjjkaaaGreatDoorm11
namespace Go.Proofs.YtbpodnhebjjkaaaGreatDoor
open Go.RowKit

section
variable {P : Program} {ops : Array Oper} {Q : Exit → Act → World → Prop} {md : Region.Mode} {S : World → Prop} {fuel : Nat} {listed : Array Bool} {a : Act} {w : World} {o : Oper}
/-- a call of a Go function whose contract says of its value what it says. -/
theorem hx_callE (i : Nat) (d : Option Tmp) (f : Nat) (args : Array Value) (R : Value → World → Prop) (ho : ops[i]? = some o) (hw : Region.wanted o (yielded ops a.tmps) = true) (hd : o.dst = d) (he : (execOp a.eval o).run P w = .ok (.enter f args) w)
    (hc : Calls P f args w fun e w' => ∃ v, e = .returned v ∧ R v w') (h : ∀ v w', R v w' → S w' ∧ wpAnyH P md ops Q S fuel (listed.setIfInBounds i true) (a.put d v) w') : StepH P md ops Q S fuel listed a w i := by
  refine hx_wp i ho hw ?_
  unfold Oper.wp
  rw [he, Oper.upon_enter]
  refine hc.mono ?_
  rintro e w' ⟨v, rfl, hR⟩
  subst hd
  exact h v w' hR
end

section
variable {α : Type} {w w' : World} {s : Nat} {enc : α → List Value} {A : Option Addr} {n c g : Nat} {xs : List α} {B : Nat} {e : TypeId}
theorem Own.heap_at (h : Own w B e s enc A n c xs) {g : Nat} (hg : blk A = some g) : ∃ cur, w.heap[g]? = some (.cells cur e (0, 0)) := by
  rcases h.row.2 with ⟨h', _⟩ | ⟨g', cap', cur, h', _, hgb, _⟩
  · injection h' with h1
    subst h1
    simp [blk] at hg
  · injection h' with h1
    subst h1
    injection hg with hg
    subst hg
    exact ⟨cur, hgb⟩
/-- a row's block is no block of another type. -/
theorem Own.ne_blk {t : TypeId} {cs : Array Value} (h : Own w B e s enc A n c xs) (hb : Blk w g t cs) (hte : t ≠ e) : blk A ≠ some g := fun hg => by
  obtain ⟨cur, hc⟩ := h.heap_at hg
  rw [show w.heap[g]? = _ from hb] at hc
  simp at hc
  exact hte hc.2
/-- what a row owns it owns whatever turns that is no cells. -/
theorem Own.others_ {row : Option Nat} (h : Own w B e s enc A n c xs) (hg : w.grownBy w' row) (hr : ∀ r, row = some r → ∃ o : Obj, w.heap[r]? = some o ∧ o.isCells = false) : Own w' B e s enc A n c xs :=
  h.keep hg (fun k hk he => by
    obtain ⟨o, ho, hc⟩ := hr k hk
    obtain ⟨cur, hcur⟩ := h.heap_at he
    rw [hcur] at ho
    injection ho with ho
    subst ho
    cases hc)
theorem Blk.others_ {t : TypeId} {cs : Array Value} {row : Option Nat} (h : Blk w g t cs) (hg : w.grownBy w' row) (hr : ∀ r, row = some r → ∃ o : Obj, w.heap[r]? = some o ∧ o.isCells = false) : Blk w' g t cs :=
  h.keep hg (fun e => by
    obtain ⟨o, ho, hc⟩ := hr g e
    rw [show w.heap[g]? = _ from h] at ho
    injection ho with ho
    subst ho
    cases hc)
end

theorem flat_replicate {α : Type} {s : Nat} (enc : α → List Value) (henc : ∀ x : α, (enc x).length = s) (hs : 0 < s) (x : α) (z : Array Value) (hz : z.toList = enc x) (n : Nat) : (madeCells z (n * s)).toList = (List.replicate n x).flatMap enc := by
  have hzs : z.size = s := by rw [← Array.length_toList, hz, henc]
  apply List.ext_getElem?
  intro j
  by_cases hj : j < n * s
  · have h1 : j / s < n := Nat.div_lt_of_lt_mul (by rw [Nat.mul_comm]; exact hj)
    have h2 : j % s < s := Nat.mod_lt _ hs
    have h3 : j % s < (enc x).length := by rw [henc]; exact h2
    have := getElem?_flat henc (List.replicate n x) (j / s) x (by rw [List.getElem?_replicate, if_pos h1]) (j % s) _ (List.getElem?_eq_getElem h3)
    rw [Nat.div_add_mod' j s] at this
    rw [this]
    unfold madeCells
    simp only [Array.toList_map, Array.toList_range, List.getElem?_map, List.getElem?_range hj, Option.map_some]
    congr 1
    have h4 : j % z.size < z.size := by rw [hzs]; exact h2
    rw [getElem!_pos z _ h4]
    have : z[j % z.size] = z.toList[j % z.size]'(by simpa using h4) := by simp
    rw [this]
    simp only [hz, hzs]
  · have l1 : (madeCells z (n * s)).toList.length ≤ j := by rw [Array.length_toList, size_madeCells]; omega
    have l2 : ((List.replicate n x).flatMap enc).length ≤ j := by rw [flat_len henc, List.length_replicate]; omega
    rw [List.getElem?_eq_none l1, List.getElem?_eq_none l2]

theorem infoEff : (Tryz.prog.info? 51).map (fun i => (i.zero, i.size, i.bytes)) = some (some (.agg (effA effZ)), 36, 216) := by kernel_rfl
/-- make([]Effect, n). -/
theorem makeEff (n : Nat) (w : World) (hn : n ≤ 1000000) : ∃ w', (Instr.makeSlice 101 (.int .i64 n) (.int .i64 n)).run Tryz.prog w = .ok (.slice (some ⟨w.heap.size, 0, none⟩) n n) w' ∧
    Own w' w.heap.size 51 36 effL (some ⟨w.heap.size, 0, none⟩) n n (List.replicate n effZ) ∧ Below w.heap.size w w' := by
  obtain ⟨i, hi, hz, hs, hb⟩ := info_parts infoEff
  obtain ⟨w', h1, h2, h3⟩ := run_make_full w w.heap.size 101 51 i (.agg (effA effZ)) 36 Tryz.underlying101 hi hz hs .i64 .i64 n (by rw [hb]; omega) (by unfold maxLen; omega) (Nat.le_refl _)
  refine ⟨w', h1, ⟨List.length_replicate, ?_⟩, (Below.refl _ _).grown h3 (Nat.le_refl _) (fun k e => by cases e)⟩
  rw [← flat_replicate effL effL_len (by omega) effZ (effA effZ) (by simp [effA]) n]
  exact h2

structure BkE where
  M : Option Addr
  m : Nat
  mc : Nat
  E : Option Addr
  n : Nat
  nc : Nat
def bkC (b : BkE) : List Value := [.slice b.M b.m b.mc, .slice b.E b.n b.nc]
theorem bkC_len (b : BkE) : (bkC b).length = 2 := rfl
theorem bkC_one (b : BkE) : ∀ u ∈ bkC b, u.oneCell' = true := by intro u hu; simp [bkC] at hu; rcases hu with rfl | rfl <;> rfl
theorem elemBlk : Elem Tryz.prog 57 103 2 48 := Elem.mk Tryz.underlying57 (z := .agg #[.slice none 0 0, .slice none 0 0]) (by kernel_rfl) rfl (by omega)
theorem sizeB : (Tryz.prog.info? 103).map (·.size) = some 2 := by kernel_rfl

def effsF (es : List LsE) (vs : List (List Lv)) (n : Nat) (ms : List Mk) : List Eff := ms.foldl (addF es vs) (List.replicate n effZ)
theorem effsF_take (es : List LsE) (vs : List (List Lv)) (n : Nat) (ms : List Mk) {i : Nat} (h : i < ms.length) : effsF es vs n (ms.take (i + 1)) = addF es vs (effsF es vs n (ms.take i)) (gM ms i) := by
  unfold effsF
  rw [← List.take_append_getElem h, List.foldl_append]
  have : gM ms i = ms[i] := by unfold gM; rw [List.getD_eq_getElem?_getD, List.getElem?_eq_getElem h]; rfl
  rw [this]; rfl
theorem ChOk.mono {M K : Int} {c : Ch} (h : ChOk M c) (hMK : M ≤ K) : ChOk K c := by unfold ChOk at *; omega
theorem gF_set {xs : List Eff} {k j : Nat} (x : Eff) (hk : k < xs.length) : gF (xs.set k x) j = if j = k then x else gF xs j := by
  unfold gF
  rw [List.getD_eq_getElem?_getD, List.getD_eq_getElem?_getD, List.getElem?_set]
  by_cases h : k = j
  · subst h; simp [hk]
  · rw [if_neg h, if_neg (Ne.symm h)]
theorem gF_set_out {xs : List Eff} {k j : Nat} (x : Eff) (hk : ¬ k < xs.length) : gF (xs.set k x) j = gF xs j := by
  rw [List.set_eq_of_length_le (by omega)]
theorem gF_replicate (n k : Nat) : gF (List.replicate n effZ) k = effZ := by
  unfold gF
  rw [List.getD_eq_getElem?_getD, List.getElem?_replicate]
  split <;> rfl
/-- the lists' levels are right. -/
structure LvsOk (es : List LsE) (vs : List (List Lv)) (n : Nat) : Prop where
  c : ∀ k, k < n → clE (vs.getD k []) = 0
  l : ∀ k, k < n → (vs.getD k []).length = (gE es k).n
theorem addF_ok {es : List LsE} {vs : List (List Lv)} {n : Nat} {xs : List Eff} {m : Mk} {M : Int} (he : es.length = n) (hC : LvsOk es vs n) (hm : MkIn es m) (hM : 0 ≤ M) (hx : ∀ k i, ChOk M (gF xs k i)) : ∀ k i, ChOk (M + 1) (gF (addF es vs xs m) k i) := by
  intro k i
  unfold addF
  by_cases h : m.list ∈ idsL es
  · rw [if_pos h]
    have hik : (idsL es).idxOf m.list < n := by
      have := List.idxOf_lt_length_iff.2 h
      rw [idsL_len] at this
      omega
    have hmk := mkE_zero_iff (hm h)
    generalize (idsL es).idxOf m.list = j at *
    by_cases hj : j < xs.length
    · rw [gF_set _ hj]
      by_cases hkj : k = j
      · rw [if_pos hkj]
        refine thenE_ok (lvok_of (hC.l j hik) (hC.c j hik)) (hx j) ?_ hM (by omega) i
        exact effF_ok _ _ _ hmk.2.2.1 hmk.2.2.2
      · rw [if_neg hkj]
        exact (hx k i).mono (by omega)
    · rw [gF_set_out _ hj]
      exact (hx k i).mono (by omega)
  · rw [if_neg h]
    exact (hx k i).mono (by omega)
theorem effsF_ok {es : List LsE} {vs : List (List Lv)} {n : Nat} {ms : List Mk} (he : es.length = n) (hC : LvsOk es vs n) (hm : ∀ x ∈ ms, MkIn es x) : ∀ i, i ≤ ms.length → ∀ k j, ChOk i (gF (effsF es vs n (ms.take i)) k j)
  | 0, _ => fun k j => by
    rw [List.take_zero]
    show ChOk _ (gF (List.replicate n effZ) k j)
    rw [gF_replicate]
    exact chZ_ok (by omega)
  | i + 1, h => by
    have h1 : i < ms.length := by omega
    rw [effsF_take es vs n ms h1]
    have hmi : gM ms i ∈ ms := by unfold gM; rw [List.getD_eq_getElem?_getD, List.getElem?_eq_getElem h1]; exact List.getElem_mem h1
    have := addF_ok he hC (hm _ hmi) (by omega) (effsF_ok he hC hm i (by omega))
    intro k j
    have := this k j
    rw [show ((i + 1 : Nat) : Int) = (i : Int) + 1 by omega]
    exact this

/-- the blocks of a sequence whose marks are few: none, or one. -/
def Bks (w : World) (B : Nat) (Bv : Option Addr) (k ck : Nat) (es : List LsE) (vs : List (List Lv)) (n : Nat) (ms : List Mk) : Prop :=
  (k = 0 ∧ ms = [] ∧ (Bv = none → ck = 0)) ∨ (k = 1 ∧ ∃ b : BkE, Own w B 103 2 bkC Bv 1 ck [b] ∧ Own w B 81 3 mkC b.M b.m b.mc ms ∧ Own w B 51 36 effL b.E n b.nc (effsF es vs n ms) ∧ b.n = n ∧ ms ≠ [])
end Go.Proofs.YtbpodnhebjjkaaaGreatDoor

namespace Go.Proofs.YtbpodnhebjjkaaaGreatDoor
open Go.RowKit
attribute [local go_sem] Oper.semAt_some

theorem Own.apart_ty {α β : Type} {w : World} {s s' : Nat} {enc : α → List Value} {enc' : β → List Value} {A A' : Option Addr} {n c n' c' B B' : Nat} {e e' : TypeId} {xs : List α} {ys : List β} (h : Own w B e s enc A n c xs) (h' : Own w B' e' s' enc' A' n' c' ys) (he : e ≠ e') : ∀ k, blk A' = some k → blk A ≠ some k := fun k hk hk2 => by
  obtain ⟨cur, hc⟩ := h.heap_at hk2
  obtain ⟨cur', hc'⟩ := h'.heap_at hk
  rw [hc] at hc'
  simp at hc'
  exact he hc'.2
/-- what a round of divide has laid: the block's struct, its marks, its effects. -/
def BlkIn (W wx : World) (q m n : Nat) (ms : List Mk) (xs : List Eff) : Prop := ∃ M mc E cE, Blk wx q 103 #[.slice M m mc, .slice E n cE] ∧ Own wx W.heap.size 81 3 mkC M m mc ms ∧ Own wx W.heap.size 51 36 effL E n cE xs ∧ Below W.heap.size W wx ∧ W.heap.size ≤ q
def clR (m : Nat) (ms : List Mk) (w3 : World) (v : Value) (w' : World) : Prop := ∃ A' c', v = .slice A' m c' ∧ Own w' w3.heap.size 81 3 mkC A' m c' ms ∧ Below w3.heap.size w3 w'
theorem there2_of {w : World} {g : Nat} {t : TypeId} {u v : Value} (h : Blk w g t #[u, v]) : w.there g 0 2 := fun j hj => by
  rw [Nat.zero_add]
  refine ⟨?_, h.frozen j⟩
  rcases (by omega : j = 0 ∨ j = 1) with rfl | rfl
  · rw [h.cell 0 rfl]; rfl
  · rw [h.cell 1 rfl]; rfl
theorem fin4 {W cur : World} {M E : Option Addr} {m mc n cE p7 Bs p : Nat} {ms : List Mk} {xs : List Eff} {u v x y : Value} (oM : Own cur W.heap.size 81 3 mkC M m mc ms) (oE : Own cur W.heap.size 51 36 effL E n cE xs) (bp : Blk cur p7 103 #[u, v]) (hb : Below W.heap.size W cur) (hp : W.heap.size ≤ p7) (hs : Bs < W.heap.size) (hq : p < W.heap.size)
    (h2 : cur.cell? ⟨Bs, 0, none⟩ = some x ∧ cur.cell? ⟨p, 0, none⟩ = some y) :
    ((cur.setCells p7 0 [.slice M m mc, .slice E n cE]).cell? ⟨Bs, 0, none⟩ = some x ∧ (cur.setCells p7 0 [.slice M m mc, .slice E n cE]).cell? ⟨p, 0, none⟩ = some y) ∧ BlkIn W (cur.setCells p7 0 [.slice M m mc, .slice E n cE]) p7 m n ms xs := by
  refine ⟨⟨cell_setCells h2.1 (by show Bs ≠ p7; omega), cell_setCells h2.2 (by show p ≠ p7; omega)⟩, M, mc, E, cE, ?_, ?_, ?_, below_setC hb (Nat.le_refl _) hp _, hp⟩
  · exact Blk.setCells_ [.slice M m mc, .slice E n cE] [] [u, v] cur bp rfl
  · exact oM.keep (only_setCells p7 _ 0 cur) (fun k hk => by injection hk with hk; subst hk; exact oM.ne_blk bp (by decide))
  · exact oE.keep (only_setCells p7 _ 0 cur) (fun k hk => by injection hk with hk; subst hk; exact oE.ne_blk bp (by decide))
def DivI (w : World) (s0 p Bs Bx n : Nat) (es : List LsE) (vs : List (List Lv)) (ms : List Mk) (pre : List Unit) (W : World) : Prop :=
  (Blk W Bs 28 #[.pointer (some ⟨p, 0, none⟩)] ∧ s0 ≤ W.heap.size ∧ Below w.heap.size w W) ∧ ((pre = [] → Blk W Bx 57 #[.slice none 0 0]) ∧ (pre ≠ [] → ∃ g ck b, Blk W Bx 57 #[.slice (some ⟨g, 0, none⟩) 1 ck] ∧ Own W w.heap.size 103 2 bkC (some ⟨g, 0, none⟩) 1 ck [b] ∧ Own W w.heap.size 81 3 mkC b.M b.m b.mc ms ∧ Own W w.heap.size 51 36 effL b.E n b.nc (effsF es vs n ms) ∧ b.n = n))
theorem DivI_own {w : World} {s0 p Bs Bx n D : Nat} {es : List LsE} {vs : List (List Lv)} {ms : List Mk} (hD : w.heap.size ≤ D) : OwnFrom D (DivI w s0 p Bs Bx n es vs ms) := fun pre X Y row ⟨⟨h1, h2, h3⟩, h4, h5⟩ hg hr => by
  have hr' := fun r e => (hr r e).2
  refine ⟨⟨h1.others_ hg hr', Nat.le_trans h2 hg.size, h3.grown hg h3.size (fun k e => by have := (hr k e).1; omega)⟩, fun e => (h4 e).others_ hg hr', fun e => ?_⟩
  obtain ⟨g, ck, b, k1, k2, k3, k4, k5⟩ := h5 e
  exact ⟨g, ck, b, k1.others_ hg hr', k2.others_ hg hr', k3.others_ hg hr', k4.others_ hg hr', k5⟩

set_option maxHeartbeats 8000000 in
set_option maxRecDepth 100000 in
theorem divide_any (p : Nat) (A : Option Addr) (n c : Nat) (es : List LsE) (vB : Value) (vs : List (List Lv)) (AM : Option Addr) (m cm : Nat) (ms : List Mk) (w : World) (hp : Blk w p 59 #[.slice A n c, vB]) (ha : LsT w A n es vs) (hbig : n ≤ 1000000) (hs : Up (idsL es))
    (hm : Sl w 3 mkC AM m ms) (hm1 : m ≤ 64) (hmc : m ≤ cm) (hC : LvsOk es vs n) (hk : ∀ x ∈ ms, MkIn es x) :
    Calls Tryz.prog 18 #[.pointer (some ⟨p, 0, none⟩), .slice AM m cm] w fun e w' => ∃ Bv k ck, e = .returned (.slice Bv k ck) ∧ Bks w' w.heap.size Bv k ck es vs n ms ∧ Below w.heap.size w w' := by
  have hlm := hm.len
  have hes := ha.l.len
  have hA : 0 < m → ∃ ad, AM = some ad := fun h => by obtain ⟨ad, e, _⟩ := hm.rd h; exact ⟨ad, e⟩
  have cC := chunk_any2 AM m cm ((w.alloc (.cells #[.pointer (some ⟨p, 0, none⟩)] 28)).alloc (.cells #[.slice none 0 0] 57))
  have bs := (Blk.new w 28 #[.pointer (some ⟨p, 0, none⟩)]).alloc (.cells #[.slice none 0 0] 57)
  have bx := Blk.new (w.alloc (.cells #[.pointer (some ⟨p, 0, none⟩)] 28)) 57 #[.slice none 0 0]
  have hbW := ((Below.refl w.heap.size w).alloc (Nat.le_refl _) (.cells #[.pointer (some ⟨p, 0, none⟩)] 28)).alloc (by simp) (.cells #[.slice none 0 0] 57)
  have hsz : ((w.alloc (.cells #[.pointer (some ⟨p, 0, none⟩)] 28)).alloc (.cells #[.slice none 0 0] 57)).heap.size = w.heap.size + 2 := by simp
  rw [World.size_alloc] at bx
  have hplt := hp.lt
  refine (callsIn_wide (n := 8)).1 ?_
  refine callsIn_of_wp_marks Tryz.func18 rfl trivial ?_ rfl
  simp only [Tryz.ntmps18, List.size_toArray, List.length_cons, List.length_nil, Nat.reduceAdd, Nat.reduceSub, Array.replicate_succ, Array.replicate_zero, List.push_toArray, List.append_toArray, List.nil_append, List.cons_append]
  gi_wp2_with (refine ⟨trivial, ?_⟩; gi_at_call 35; refine (callsIn_wide.2 cC).mono ?_; rintro e W0 ⟨p2, p3, rfl, c2, c3, hpp, hbC⟩)
  have bs := bs.below hbC
  have bx := bx.below hbC
  have hsC := hbC.size
  rw [hsz] at hsC hpp
  have hb0 := below_trans' hbW hbW.size hbC
  refine wpIn_rangeFunc_ownF rfl (by omega) (gf := 51) (lb := #[.pointer (some ⟨p2, 0, none⟩), .pointer (some ⟨p3, 0, none⟩)]) rfl trivial (enters_of Tryz.func51 (by kernel_rfl) rfl)
    (chunk_stops _ p2 p3 AM m cm hm1 hmc W0 hA c2 c3 hpp.1 hpp.2.1) Kq.trans_ (Kq.put_ hpp.1 hpp.2.1) (Below.refl _ _) (fun _ => rfl)
    (DivI w W0.heap.size p w.heap.size (w.heap.size + 1) n es vs ms) (fun _ _ _ => False) (DivI_own (by omega)) (fun _ _ _ _ _ hs _ _ => hs)
    ⟨⟨bs, Nat.le_refl _, hb0⟩, fun _ => bx, fun e => absurd rfl e⟩
    (fun _ => { tmps := #[.pointer (some ⟨p, 0, none⟩), .slice AM m cm, .pointer (some ⟨w.heap.size, 0, none⟩), undef, .slice none 0 0, .pointer (some ⟨w.heap.size + 1, 0, none⟩), .slice AM m m, undef, undef, undef, .slice AM m cm, .func (.func 51) #[] #[.pointer (some ⟨p2, 0, none⟩), .pointer (some ⟨p3, 0, none⟩)], .slice AM m m, undef, undef, undef, undef, undef, undef, undef, undef, undef, undef, undef, undef, undef, undef, undef, undef, undef, undef, undef, undef, undef, undef, undef, undef, undef, undef], defers := [] }) ?assign ?body ?done ?stop
  case assign =>
    intro l x W K hK
    gi_wp2
    exact hK
  case body =>
    rintro l pre x W ⟨⟨bs1, hsz1, hB1⟩, hI, _⟩ hlt
    obtain rfl : pre = [] := by cases pre with | nil => rfl | cons _ _ => simp at hlt
    have bx1 := hI rfl
    clear hI hlt bs bx c2 c3 hbC cC hbW hsz
    have q2 : W.drew.cell? ⟨w.heap.size, 0, none⟩ = some (.pointer (some ⟨p, 0, none⟩)) := bs1.cell 0 rfl
    have q0 : W.drew.cell? ⟨p, 0, none⟩ = some (.slice A n c) := (hp.below hB1).cell 0 rfl
    have hb0 : Below W.heap.size W W.drew := bDrew (Below.refl _ _)
    have cM := Lib.hid (fun w3 (hb : Below W.heap.size W w3) => (cloneMk_any AM m m ms w3 (hm.below (below_trans' hB1 hB1.size hb)) (by omega)).mono (R' := fun e w' => ∃ v, e = .returned v ∧ clR m ms w3 v w') (fun e w' h => by obtain ⟨A', c', he, h1, _, h2⟩ := h; exact ⟨_, he, A', c', rfl, h1, h2⟩))
    have F4 := Lib.hid (fun cur M mc E cE p7 (u v : Value) oM oE bp hb hp7 h2 => fin4 (W := W) (cur := cur) (M := M) (E := E) (m := m) (mc := mc) (n := n) (cE := cE) (p7 := p7) (Bs := w.heap.size) (p := p) (ms := ms) (xs := List.replicate n effZ) (u := u) (v := v) (x := .pointer (some ⟨p, 0, none⟩)) (y := .slice A n c) oM oE bp hb hp7 (by omega) (by omega) h2)
    have SK : ∀ {w0 w1 : World}, (w0.cell? ⟨w.heap.size, 0, none⟩ = some (.pointer (some ⟨p, 0, none⟩)) ∧ w0.cell? ⟨p, 0, none⟩ = some (.slice A n c)) → Below w0.heap.size w0 w1 → (w1.cell? ⟨w.heap.size, 0, none⟩ = some (.pointer (some ⟨p, 0, none⟩)) ∧ w1.cell? ⟨p, 0, none⟩ = some (.slice A n c)) := fun h hb => ⟨keep1 hb h.1, keep1 hb h.2⟩
    dsimp only
    gi_upto_region 4 with fail

    gi_cut [7] from 39 (fun v7 wx => ∃ q, v7 = .pointer (some ⟨q, 0, none⟩) ∧ BlkIn W wx q m n ms (List.replicate n effZ))
    case first =>
      refine wpIn_region_hand (S := fun w' => w'.cell? ⟨w.heap.size, 0, none⟩ = some (.pointer (some ⟨p, 0, none⟩)) ∧ w'.cell? ⟨p, 0, none⟩ = some (.slice A n c)) l _ (by kernel_rfl) (by kernel_rfl) ⟨q2, q0⟩ (fun hHeld => ?_)
      clear q2 q0
      generalize W.drew = Wd at *
      refine hx_take 0 (some 13) _ rfl (by kernel_rfl) (by kernel_rfl) (by kernel_rfl) (fun _ _ _ h => by cases h.1) rfl (Or.inl ⟨by rfl, fun w hSw => by first | (go_simp; done) | (go_simp; with_reducible rfl)⟩) (by assumption) ?_
      try simp only [Act.put, List.setIfInBounds_toArray, List.set_cons_zero, List.set_cons_succ]
      refine hx_take 2 (some 15) _ rfl (by kernel_rfl) (by kernel_rfl) (by kernel_rfl) (fun _ _ _ h => by cases h.1) rfl (Or.inl ⟨by rfl, fun w hSw => by first | (go_simp; done) | (go_simp; with_reducible rfl)⟩) (by assumption) ?_
      try simp only [Act.put, List.setIfInBounds_toArray, List.set_cons_zero, List.set_cons_succ]
      refine hx_take 3 (some 16) _ rfl (by kernel_rfl) (by kernel_rfl) (by kernel_rfl) (fun _ _ _ h => by cases h.1) rfl (Or.inl ⟨by rfl, fun w hSw => by first | (go_simp; done) | (go_simp; with_reducible rfl)⟩) (by assumption) ?_
      try simp only [Act.put, List.setIfInBounds_toArray, List.set_cons_zero, List.set_cons_succ]
      refine hx_take 4 (some 17) _ rfl (by kernel_rfl) (by kernel_rfl) (by kernel_rfl) (fun _ _ _ h => by cases h.1) rfl (Or.inl ⟨by rfl, fun w hSw => by first | (go_simp; done) | (go_simp; with_reducible rfl)⟩) (by assumption) ?_
      try simp only [Act.put, List.setIfInBounds_toArray, List.set_cons_zero, List.set_cons_succ]
      refine hx_take 5 (some 18) _ rfl (by kernel_rfl) (by kernel_rfl) (by kernel_rfl) (fun _ _ _ h => by cases h.1) rfl (Or.inl ⟨by rfl, fun w hSw => by first | (go_simp; done) | (go_simp; with_reducible rfl)⟩) (by assumption) ?_
      try simp only [Act.put, List.setIfInBounds_toArray, List.set_cons_zero, List.set_cons_succ]
      refine hx_take 6 (some 19) _ rfl (by kernel_rfl) (by kernel_rfl) (by kernel_rfl) (fun _ _ _ h => by cases h.1) rfl (Or.inl ⟨by rfl, fun w hSw => by first | (go_simp; done) | (go_simp; with_reducible rfl)⟩) (by assumption) ?_
      try simp only [Act.put, List.setIfInBounds_toArray, List.set_cons_zero, List.set_cons_succ]
      refine hx3 1 7 9 (by kernel_rfl) ?_ ?_ ?_
      · refine hx_callE 1 (some 14) _ _ (clR m ms Wd) rfl (by rfl) rfl (by go_simp) (cM.out Wd hb0) ?_
        rintro v1 w1_1 ⟨M', mc', rfl, oM, hbs⟩
        have oM := oM.base hb0.size
        have hSS := SK (by assumption) hbs
        have hb0n := below_trans' hb0 hb0.size hbs
        refine ⟨hSS, ?_⟩
        try simp only [Act.put, List.setIfInBounds_toArray, List.set_cons_zero, List.set_cons_succ]
        refine hx2 7 9 (by kernel_rfl) ?_ ?_
        · obtain ⟨w7_2, hmk, oE, hbs⟩ := makeEff n w1_1 hbig
          refine hx_val 7 (some 20) _ w7_2 rfl (by rfl) rfl (by first | (go_simp; done) | (go_simp; with_reducible rfl) | (go_simp; rw [hmk]) | (go_simp; rw [hmk]; with_reducible rfl)) (SK (by assumption) hbs) ?_
          have oM := oM.below hbs
          have oE := oE.base hb0n.size
          have hSS := SK (by assumption) hbs
          have hb0nn := below_trans' hb0n hb0n.size hbs
          try simp only [Act.put, List.setIfInBounds_toArray, List.set_cons_zero, List.set_cons_succ]
          refine hx_take 8 (some 21) _ rfl (by kernel_rfl) (by kernel_rfl) (by kernel_rfl) (fun _ _ _ h => by cases h.1) rfl (Or.inl ⟨by rfl, fun w hSw => by first | (go_simp; done) | (go_simp; with_reducible rfl)⟩) (by assumption) ?_
          try simp only [Act.put, List.setIfInBounds_toArray, List.set_cons_zero, List.set_cons_succ]
          refine hx1 9 (by kernel_rfl) ?_
          have hbs := (Below.refl w7_2.heap.size w7_2).alloc (Nat.le_refl _) (.cells #[.slice none 0 0, .slice none 0 0] 103)
          have bp := Blk.new w7_2 103 #[.slice none 0 0, .slice none 0 0]
          refine hx_val 9 (some 7) _ (w7_2.alloc (.cells #[.slice none 0 0, .slice none 0 0] 103)) rfl (by rfl) rfl (by first | (go_simp; done) | (go_simp; with_reducible rfl)) (SK (by assumption) hbs) ?_
          obtain ⟨p7, hgp⟩ : ∃ q, w7_2.heap.size = q := ⟨_, rfl⟩
          have hp7 : W.heap.size ≤ p7 := by rw [← hgp]; exact hb0nn.size
          rw [hgp] at bp ⊢
          obtain ⟨w9_3, hnx⟩ : ∃ w', w7_2.alloc (.cells #[.slice none 0 0, .slice none 0 0] 103) = w' := ⟨_, rfl⟩
          rw [hnx] at bp hbs ⊢
          have oM := oM.below hbs
          have oE := oE.below hbs
          have hSS := SK (by assumption) hbs
          have hb0nnn := below_trans' hb0nn hb0nn.size hbs
          try simp only [Act.put, List.setIfInBounds_toArray, List.set_cons_zero, List.set_cons_succ]
          refine hx1 10 (by kernel_rfl) ?_
          obtain ⟨hS4, hR4⟩ := F4.out w9_3 _ _ _ _ _ _ _ oM oE bp hb0nnn hp7 (by assumption)
          refine hx_store 10 _ _ _ _ [.slice M' m mc', .slice _ n _] rfl (by rfl) rfl rfl rfl rfl (there2_of bp) sizeB (bkC_one ⟨_, _, _, _, _, _⟩) hS4 ?_
          try simp only [Act.put, List.setIfInBounds_toArray, List.set_cons_zero, List.set_cons_succ]
          refine wpAnyH_done (by kernel_rfl) ⟨rfl, ?_⟩ _
          gi_wp2
          gi_meet
          case rel => exact ⟨_, rfl, hR4⟩
        · have hbs := (Below.refl w1_1.heap.size w1_1).alloc (Nat.le_refl _) (.cells #[.slice none 0 0, .slice none 0 0] 103)
          have bp := Blk.new w1_1 103 #[.slice none 0 0, .slice none 0 0]
          refine hx_val 9 (some 7) _ (w1_1.alloc (.cells #[.slice none 0 0, .slice none 0 0] 103)) rfl (by rfl) rfl (by first | (go_simp; done) | (go_simp; with_reducible rfl)) (SK (by assumption) hbs) ?_
          obtain ⟨p7, hgp⟩ : ∃ q, w1_1.heap.size = q := ⟨_, rfl⟩
          have hp7 : W.heap.size ≤ p7 := by rw [← hgp]; exact hb0n.size
          rw [hgp] at bp ⊢
          obtain ⟨w9_4, hnx⟩ : ∃ w', w1_1.alloc (.cells #[.slice none 0 0, .slice none 0 0] 103) = w' := ⟨_, rfl⟩
          rw [hnx] at bp hbs ⊢
          have oM := oM.below hbs
          have hSS := SK (by assumption) hbs
          have hb0nn := below_trans' hb0n hb0n.size hbs
          try simp only [Act.put, List.setIfInBounds_toArray, List.set_cons_zero, List.set_cons_succ]
          refine hx1 7 (by kernel_rfl) ?_
          obtain ⟨w7_5, hmk, oE, hbs⟩ := makeEff n w9_4 hbig
          refine hx_val 7 (some 20) _ w7_5 rfl (by rfl) rfl (by first | (go_simp; done) | (go_simp; with_reducible rfl) | (go_simp; rw [hmk]) | (go_simp; rw [hmk]; with_reducible rfl)) (SK (by assumption) hbs) ?_
          have oM := oM.below hbs
          have bp := bp.below hbs
          have oE := oE.base hb0nn.size
          have hSS := SK (by assumption) hbs
          have hb0nnn := below_trans' hb0nn hb0nn.size hbs
          try simp only [Act.put, List.setIfInBounds_toArray, List.set_cons_zero, List.set_cons_succ]
          refine hx_take 8 (some 21) _ rfl (by kernel_rfl) (by kernel_rfl) (by kernel_rfl) (fun _ _ _ h => by cases h.1) rfl (Or.inl ⟨by rfl, fun w hSw => by first | (go_simp; done) | (go_simp; with_reducible rfl)⟩) (by assumption) ?_
          try simp only [Act.put, List.setIfInBounds_toArray, List.set_cons_zero, List.set_cons_succ]
          refine hx1 10 (by kernel_rfl) ?_
          obtain ⟨hS4, hR4⟩ := F4.out w7_5 _ _ _ _ _ _ _ oM oE bp hb0nnn hp7 (by assumption)
          refine hx_store 10 _ _ _ _ [.slice M' m mc', .slice _ n _] rfl (by rfl) rfl rfl rfl rfl (there2_of bp) sizeB (bkC_one ⟨_, _, _, _, _, _⟩) hS4 ?_
          try simp only [Act.put, List.setIfInBounds_toArray, List.set_cons_zero, List.set_cons_succ]
          refine wpAnyH_done (by kernel_rfl) ⟨rfl, ?_⟩ _
          gi_wp2
          gi_meet
          case rel => exact ⟨_, rfl, hR4⟩
      · obtain ⟨w7_6, hmk, oE, hbs⟩ := makeEff n Wd hbig
        refine hx_val 7 (some 20) _ w7_6 rfl (by rfl) rfl (by first | (go_simp; done) | (go_simp; with_reducible rfl) | (go_simp; rw [hmk]) | (go_simp; rw [hmk]; with_reducible rfl)) (SK (by assumption) hbs) ?_
        have oE := oE.base hb0.size
        have hSS := SK (by assumption) hbs
        have hb0n := below_trans' hb0 hb0.size hbs
        try simp only [Act.put, List.setIfInBounds_toArray, List.set_cons_zero, List.set_cons_succ]
        refine hx2 1 9 (by kernel_rfl) ?_ ?_
        · refine hx_callE 1 (some 14) _ _ (clR m ms w7_6) rfl (by rfl) rfl (by go_simp) (cM.out w7_6 hb0n) ?_
          rintro v1 w1_7 ⟨M', mc', rfl, oM, hbs⟩
          have oE := oE.below hbs
          have oM := oM.base hb0n.size
          have hSS := SK (by assumption) hbs
          have hb0nn := below_trans' hb0n hb0n.size hbs
          refine ⟨hSS, ?_⟩
          try simp only [Act.put, List.setIfInBounds_toArray, List.set_cons_zero, List.set_cons_succ]
          refine hx_take 8 (some 21) _ rfl (by kernel_rfl) (by kernel_rfl) (by kernel_rfl) (fun _ _ _ h => by cases h.1) rfl (Or.inl ⟨by rfl, fun w hSw => by first | (go_simp; done) | (go_simp; with_reducible rfl)⟩) (by assumption) ?_
          try simp only [Act.put, List.setIfInBounds_toArray, List.set_cons_zero, List.set_cons_succ]
          refine hx1 9 (by kernel_rfl) ?_
          have hbs := (Below.refl w1_7.heap.size w1_7).alloc (Nat.le_refl _) (.cells #[.slice none 0 0, .slice none 0 0] 103)
          have bp := Blk.new w1_7 103 #[.slice none 0 0, .slice none 0 0]
          refine hx_val 9 (some 7) _ (w1_7.alloc (.cells #[.slice none 0 0, .slice none 0 0] 103)) rfl (by rfl) rfl (by first | (go_simp; done) | (go_simp; with_reducible rfl)) (SK (by assumption) hbs) ?_
          obtain ⟨p7, hgp⟩ : ∃ q, w1_7.heap.size = q := ⟨_, rfl⟩
          have hp7 : W.heap.size ≤ p7 := by rw [← hgp]; exact hb0nn.size
          rw [hgp] at bp ⊢
          obtain ⟨w9_8, hnx⟩ : ∃ w', w1_7.alloc (.cells #[.slice none 0 0, .slice none 0 0] 103) = w' := ⟨_, rfl⟩
          rw [hnx] at bp hbs ⊢
          have oE := oE.below hbs
          have oM := oM.below hbs
          have hSS := SK (by assumption) hbs
          have hb0nnn := below_trans' hb0nn hb0nn.size hbs
          try simp only [Act.put, List.setIfInBounds_toArray, List.set_cons_zero, List.set_cons_succ]
          refine hx1 10 (by kernel_rfl) ?_
          obtain ⟨hS4, hR4⟩ := F4.out w9_8 _ _ _ _ _ _ _ oM oE bp hb0nnn hp7 (by assumption)
          refine hx_store 10 _ _ _ _ [.slice M' m mc', .slice _ n _] rfl (by rfl) rfl rfl rfl rfl (there2_of bp) sizeB (bkC_one ⟨_, _, _, _, _, _⟩) hS4 ?_
          try simp only [Act.put, List.setIfInBounds_toArray, List.set_cons_zero, List.set_cons_succ]
          refine wpAnyH_done (by kernel_rfl) ⟨rfl, ?_⟩ _
          gi_wp2
          gi_meet
          case rel => exact ⟨_, rfl, hR4⟩
        · have hbs := (Below.refl w7_6.heap.size w7_6).alloc (Nat.le_refl _) (.cells #[.slice none 0 0, .slice none 0 0] 103)
          have bp := Blk.new w7_6 103 #[.slice none 0 0, .slice none 0 0]
          refine hx_val 9 (some 7) _ (w7_6.alloc (.cells #[.slice none 0 0, .slice none 0 0] 103)) rfl (by rfl) rfl (by first | (go_simp; done) | (go_simp; with_reducible rfl)) (SK (by assumption) hbs) ?_
          obtain ⟨p7, hgp⟩ : ∃ q, w7_6.heap.size = q := ⟨_, rfl⟩
          have hp7 : W.heap.size ≤ p7 := by rw [← hgp]; exact hb0n.size
          rw [hgp] at bp ⊢
          obtain ⟨w9_9, hnx⟩ : ∃ w', w7_6.alloc (.cells #[.slice none 0 0, .slice none 0 0] 103) = w' := ⟨_, rfl⟩
          rw [hnx] at bp hbs ⊢
          have oE := oE.below hbs
          have hSS := SK (by assumption) hbs
          have hb0nn := below_trans' hb0n hb0n.size hbs
          try simp only [Act.put, List.setIfInBounds_toArray, List.set_cons_zero, List.set_cons_succ]
          refine hx1 1 (by kernel_rfl) ?_
          refine hx_callE 1 (some 14) _ _ (clR m ms w9_9) rfl (by rfl) rfl (by go_simp) (cM.out w9_9 hb0nn) ?_
          rintro v1 w1_10 ⟨M', mc', rfl, oM, hbs⟩
          have oE := oE.below hbs
          have bp := bp.below hbs
          have oM := oM.base hb0nn.size
          have hSS := SK (by assumption) hbs
          have hb0nnn := below_trans' hb0nn hb0nn.size hbs
          refine ⟨hSS, ?_⟩
          try simp only [Act.put, List.setIfInBounds_toArray, List.set_cons_zero, List.set_cons_succ]
          refine hx_take 8 (some 21) _ rfl (by kernel_rfl) (by kernel_rfl) (by kernel_rfl) (fun _ _ _ h => by cases h.1) rfl (Or.inl ⟨by rfl, fun w hSw => by first | (go_simp; done) | (go_simp; with_reducible rfl)⟩) (by assumption) ?_
          try simp only [Act.put, List.setIfInBounds_toArray, List.set_cons_zero, List.set_cons_succ]
          refine hx1 10 (by kernel_rfl) ?_
          obtain ⟨hS4, hR4⟩ := F4.out w1_10 _ _ _ _ _ _ _ oM oE bp hb0nnn hp7 (by assumption)
          refine hx_store 10 _ _ _ _ [.slice M' m mc', .slice _ n _] rfl (by rfl) rfl rfl rfl rfl (there2_of bp) sizeB (bkC_one ⟨_, _, _, _, _, _⟩) hS4 ?_
          try simp only [Act.put, List.setIfInBounds_toArray, List.set_cons_zero, List.set_cons_succ]
          refine wpAnyH_done (by kernel_rfl) ⟨rfl, ?_⟩ _
          gi_wp2
          gi_meet
          case rel => exact ⟨_, rfl, hR4⟩
      · have hbs := (Below.refl Wd.heap.size Wd).alloc (Nat.le_refl _) (.cells #[.slice none 0 0, .slice none 0 0] 103)
        have bp := Blk.new Wd 103 #[.slice none 0 0, .slice none 0 0]
        refine hx_val 9 (some 7) _ (Wd.alloc (.cells #[.slice none 0 0, .slice none 0 0] 103)) rfl (by rfl) rfl (by first | (go_simp; done) | (go_simp; with_reducible rfl)) (SK (by assumption) hbs) ?_
        obtain ⟨p7, hgp⟩ : ∃ q, Wd.heap.size = q := ⟨_, rfl⟩
        have hp7 : W.heap.size ≤ p7 := by rw [← hgp]; exact hb0.size
        rw [hgp] at bp ⊢
        obtain ⟨w9_11, hnx⟩ : ∃ w', Wd.alloc (.cells #[.slice none 0 0, .slice none 0 0] 103) = w' := ⟨_, rfl⟩
        rw [hnx] at bp hbs ⊢
        have hSS := SK (by assumption) hbs
        have hb0n := below_trans' hb0 hb0.size hbs
        try simp only [Act.put, List.setIfInBounds_toArray, List.set_cons_zero, List.set_cons_succ]
        refine hx2 1 7 (by kernel_rfl) ?_ ?_
        · refine hx_callE 1 (some 14) _ _ (clR m ms w9_11) rfl (by rfl) rfl (by go_simp) (cM.out w9_11 hb0n) ?_
          rintro v1 w1_12 ⟨M', mc', rfl, oM, hbs⟩
          have bp := bp.below hbs
          have oM := oM.base hb0n.size
          have hSS := SK (by assumption) hbs
          have hb0nn := below_trans' hb0n hb0n.size hbs
          refine ⟨hSS, ?_⟩
          try simp only [Act.put, List.setIfInBounds_toArray, List.set_cons_zero, List.set_cons_succ]
          refine hx1 7 (by kernel_rfl) ?_
          obtain ⟨w7_13, hmk, oE, hbs⟩ := makeEff n w1_12 hbig
          refine hx_val 7 (some 20) _ w7_13 rfl (by rfl) rfl (by first | (go_simp; done) | (go_simp; with_reducible rfl) | (go_simp; rw [hmk]) | (go_simp; rw [hmk]; with_reducible rfl)) (SK (by assumption) hbs) ?_
          have bp := bp.below hbs
          have oM := oM.below hbs
          have oE := oE.base hb0nn.size
          have hSS := SK (by assumption) hbs
          have hb0nnn := below_trans' hb0nn hb0nn.size hbs
          try simp only [Act.put, List.setIfInBounds_toArray, List.set_cons_zero, List.set_cons_succ]
          refine hx_take 8 (some 21) _ rfl (by kernel_rfl) (by kernel_rfl) (by kernel_rfl) (fun _ _ _ h => by cases h.1) rfl (Or.inl ⟨by rfl, fun w hSw => by first | (go_simp; done) | (go_simp; with_reducible rfl)⟩) (by assumption) ?_
          try simp only [Act.put, List.setIfInBounds_toArray, List.set_cons_zero, List.set_cons_succ]
          refine hx1 10 (by kernel_rfl) ?_
          obtain ⟨hS4, hR4⟩ := F4.out w7_13 _ _ _ _ _ _ _ oM oE bp hb0nnn hp7 (by assumption)
          refine hx_store 10 _ _ _ _ [.slice M' m mc', .slice _ n _] rfl (by rfl) rfl rfl rfl rfl (there2_of bp) sizeB (bkC_one ⟨_, _, _, _, _, _⟩) hS4 ?_
          try simp only [Act.put, List.setIfInBounds_toArray, List.set_cons_zero, List.set_cons_succ]
          refine wpAnyH_done (by kernel_rfl) ⟨rfl, ?_⟩ _
          gi_wp2
          gi_meet
          case rel => exact ⟨_, rfl, hR4⟩
        · obtain ⟨w7_14, hmk, oE, hbs⟩ := makeEff n w9_11 hbig
          refine hx_val 7 (some 20) _ w7_14 rfl (by rfl) rfl (by first | (go_simp; done) | (go_simp; with_reducible rfl) | (go_simp; rw [hmk]) | (go_simp; rw [hmk]; with_reducible rfl)) (SK (by assumption) hbs) ?_
          have bp := bp.below hbs
          have oE := oE.base hb0n.size
          have hSS := SK (by assumption) hbs
          have hb0nn := below_trans' hb0n hb0n.size hbs
          try simp only [Act.put, List.setIfInBounds_toArray, List.set_cons_zero, List.set_cons_succ]
          refine hx1 1 (by kernel_rfl) ?_
          refine hx_callE 1 (some 14) _ _ (clR m ms w7_14) rfl (by rfl) rfl (by go_simp) (cM.out w7_14 hb0nn) ?_
          rintro v1 w1_15 ⟨M', mc', rfl, oM, hbs⟩
          have bp := bp.below hbs
          have oE := oE.below hbs
          have oM := oM.base hb0nn.size
          have hSS := SK (by assumption) hbs
          have hb0nnn := below_trans' hb0nn hb0nn.size hbs
          refine ⟨hSS, ?_⟩
          try simp only [Act.put, List.setIfInBounds_toArray, List.set_cons_zero, List.set_cons_succ]
          refine hx_take 8 (some 21) _ rfl (by kernel_rfl) (by kernel_rfl) (by kernel_rfl) (fun _ _ _ h => by cases h.1) rfl (Or.inl ⟨by rfl, fun w hSw => by first | (go_simp; done) | (go_simp; with_reducible rfl)⟩) (by assumption) ?_
          try simp only [Act.put, List.setIfInBounds_toArray, List.set_cons_zero, List.set_cons_succ]
          refine hx1 10 (by kernel_rfl) ?_
          obtain ⟨hS4, hR4⟩ := F4.out w1_15 _ _ _ _ _ _ _ oM oE bp hb0nnn hp7 (by assumption)
          refine hx_store 10 _ _ _ _ [.slice M' m mc', .slice _ n _] rfl (by rfl) rfl rfl rfl rfl (there2_of bp) sizeB (bkC_one ⟨_, _, _, _, _, _⟩) hS4 ?_
          try simp only [Act.put, List.setIfInBounds_toArray, List.set_cons_zero, List.set_cons_succ]
          refine wpAnyH_done (by kernel_rfl) ⟨rfl, ?_⟩ _
          gi_wp2
          gi_meet
          case rel => exact ⟨_, rfl, hR4⟩
    case rest =>
    obtain ⟨q, rfl, M, mc, E, cE, bq, oM, oE, hbw, hqW⟩ := hcut
    clear cM F4 SK q2 q0 hb0
    have T0 : effsF es vs n (ms.take 0) = List.replicate n effZ := by rw [List.take_zero]; rfl
    rw [← T0] at oE
    clear T0
    gi_wp2
    gi_loopw [24] (fun vi wr => ∃ i : Nat, vi = .int .i64 i ∧ i ≤ m ∧ Blk wr q 103 #[.slice M m mc, .slice E n cE] ∧ Own wr W.heap.size 81 3 mkC M m mc ms ∧ Own wr W.heap.size 51 36 effL E n cE (effsF es vs n (ms.take i)) ∧ Below W.heap.size W wr) (fun vi _ => m - (intOf vi).toNat)
    case atStart => exact ⟨0, rfl, Nat.zero_le _, bq, oM, oE, hbw⟩
    case round =>
      obtain ⟨i, rfl, hi, bq, oM, oE, hbr⟩ := hrel
      clear hbw
      have hwr := below_trans' hB1 hB1.size hbr
      by_cases hlt : i < m
      · obtain ⟨ad, e, hl2, k0, k1, k2⟩ := (hm.below hwr).mk_ hlt
        subst e
        have hil : i < ms.length := by omega
        have hmi : gM ms i ∈ ms := by unfold gM; rw [List.getD_eq_getElem?_getD, List.getElem?_eq_getElem hil]; exact List.getElem_mem hil
        have ht := Lib.hid (effsF_take es vs n ms hil)
        have hmk := hk _ hmi
        have hok := effsF_ok hes hC hk i (by omega)
        clear hmi
        generalize effsF es vs n (ms.take i) = X1 at *
        generalize gM ms i = x at *
        have ca := Lib.hid (fun W2 hb (oE2 : Own W2 W.heap.size 51 36 effL E n cE X1) => add_any p A n c es vB vs E cE X1 x i W.heap.size W2 (hp.below hb) (ha.below hb) hbig hs oE2 hC.c hmk hok (by omega))
        clear hok hmk
        obtain ⟨x0, x1, x2⟩ := x
        simp only at k0 k1 k2
        simp only [mkC] at ca
        gi_upto_region 7 with fail
        gi_cut [9] from 39 (fun v wx => ∃ q9, v = .pointer (some ⟨q9, 0, none⟩) ∧ Blk wx q9 81 #[.int .i64 x0, .int .i64 x1, .int .i64 x2] ∧ Below wr.heap.size wr wx)
        case first =>
          gi_wp2
          gi_meet
          case rel => exact ⟨_, rfl, Blk.new _ _ _, (Below.refl _ _).alloc (Nat.le_refl _) _⟩
        case rest =>
        obtain ⟨q9, rfl, B9, hb9⟩ := hcut
        clear k0 k1 k2
        have hbx := below_trans' hbr hbr.size hb9
        have hwx := below_trans' hB1 hB1.size hbx
        have k0 := B9.cell 0 rfl
        have k1 := B9.cell 1 rfl
        have k2 := B9.cell 2 rfl
        have j2 := (bs1.below hbx).cell 0 rfl
        have bq := bq.below hb9
        have oM := oM.below hb9
        have oE := oE.below hb9
        have j7 := bq.cell 1 rfl
        have ca := ca.out wc hwx oE
        gi_wp2_with (refine ⟨trivial, ?_⟩; gi_at_call 37; refine (CallsIn.inRound l (callsIn_wide.2 ca)).mono ?_; rintro e w3 ⟨rfl, oE3, hg3⟩)
        go_roundw
        case rel => exact ⟨i + 1, by simp, hlt, bq.keep hg3 (oE.ne_blk bq (by decide)), oM.keep hg3 (oM.apart_ty oE (by decide)), by rw [ht.out]; exact oE3, hbx.grown hg3 hbx.size (fun k e => (oE.lt k e).1)⟩
        case measure => rw [intOf, intOf]; omega
      · have him : i = m := by omega
        subst him
        rw [List.take_of_length_le (by omega)] at oE
        gi_upto_region 10 with fail
        have c5 := (bx1.below hbr).cell 0 rfl
        have c0 := bq.cell 0 rfl
        have c1 := bq.cell 1 rfl
        have hx5 := bx1.below hbr
        have ho := Own.nil_ wr w.heap.size 103 2 bkC
        have hn2 := hwr.size
        refine wpIn_region_plain l _ (by kernel_rfl) ?_
        go_wp2_with (at_builtin; refine wpList_push elemBlk rfl (.tmp 34) (.tmp 36) rfl rfl _ rfl (ho.alloc _) ⟨M, i, mc, E, n, cE⟩ _ rfl rfl (bkC_one _) rfl (by unfold maxLen; omega) (Nat.le_trans hn2 (by simp)) ?_; intro A2 c2 w2 ho2 hg2 ha2; have hx6 := (hx5.alloc _).keep hg2 (by simp [blk]); have f5 := hx6.frozen 0; have c6 := hx6.cell 0 rfl)
        have hb2 : Below W.heap.size W w2 := (hbr.alloc hbr.size _).grown hg2 (Nat.le_trans hbr.size (by simp)) (fun k e => by simp [blk] at e)
        obtain ⟨g, rfl, hgB, hgl⟩ := ho2.form (by omega)
        have hW1 : Below w.heap.size w w2 := below_trans' hB1 hB1.size hb2
        have hgx : some g ≠ some (w.heap.size + 1) := ho2.ne_blk hx6 (by decide)
        have hne : ∀ {α : Type} {B' s' n' c' : Nat} {e' : TypeId} {enc' : α → List Value} {A' : Option Addr} {xs' : List α}, Own w2 B' e' s' enc' A' n' c' xs' → 57 ≠ e' → Own (w2.setCell ⟨w.heap.size + 1, 0, none⟩ (.slice (some ⟨g, 0, none⟩) 1 c2)) B' e' s' enc' A' n' c' xs' := fun h he => h.keep (gset _ _ _ _) (fun k hk => by injection hk with hk; subst hk; exact h.ne_blk hx6 he)
        refine ⟨rfl, ?_⟩
        gi_wp2
        refine ⟨?_, ?_, ⟨(bs1.below hb2).keep (gset _ _ _ _) (by simp), ?_, hW1.setCell (p := ⟨w.heap.size + 1, 0, none⟩) (by simp) _⟩, fun e => by simp at e, fun _ => ⟨g, c2, _, hx6.set_ 0 _, hne ho2 (by decide), hne (((oM.alloc _).keep hg2 (fun k hk => by simp [blk] at hk)).base hB1.size) (by decide), hne (((oE.alloc _).keep hg2 (fun k hk => by simp [blk] at hk)).base hB1.size) (by decide), rfl⟩⟩
        · exact (KeepsOthers.of_grownBy (grown_below (row := none) hb2) (fun j o e => by cases e)).trans (KeepsOthers.setCell _ _ _)
        · have hs1 := (gset w2 (w.heap.size + 1) 0 (.slice (some ⟨g, 0, none⟩) 1 c2))
          have := hb2.size
          exact ⟨(hs1.block p2 (by omega) (by simp; omega)).trans (hb2.block p2 (by omega)), (hs1.block p3 (by omega) (by simp; omega)).trans (hb2.block p3 (by omega))⟩
        · exact Nat.le_trans hsz1 (Nat.le_trans hb2.size (gset w2 (w.heap.size + 1) 0 _).size)
  case done =>
    rintro D ys W hD rfl ⟨⟨_, _, hB1⟩, h4, h5⟩ hK
    have hBD := hB1.trans (belowK_b (w := w) (Nat.le_refl _) W D _ (.deferred none) (by omega) hK rfl rfl)
    by_cases h0 : m = 0
    · have bx := h4 (by rw [if_pos h0])
      have cx := bx.cell 0 rfl
      gi_wp2
      refine ⟨by simp, .inl ⟨_, _, rfl, run_takeDeferred hK, ?_⟩⟩
      exact ⟨_, results_tmp rfl _ _ _, none, 0, 0, rfl, .inl ⟨rfl, List.eq_nil_of_length_eq_zero (by omega), fun _ => rfl⟩, hBD⟩
    · obtain ⟨g, ck, b, bx, o1, o2, o3, e1⟩ := h5 (by rw [if_neg h0]; simp)
      have cx := bx.cell 0 rfl
      have hg := grownBy_putObj' W D (.deferred none)
      have hr : ∀ r, some D = some r → ∃ o : Obj, W.heap[r]? = some o ∧ o.isCells = false := fun r e => by injection e with e; subst e; exact ⟨_, hK, rfl⟩
      have o1 := o1.others_ hg hr
      have o2 := o2.others_ hg hr
      have o3 := o3.others_ hg hr
      gi_wp2
      refine ⟨by simp, .inl ⟨_, _, rfl, run_takeDeferred hK, ?_⟩⟩
      exact ⟨_, results_tmp rfl _ _ _, _, _, _, rfl, .inr ⟨rfl, b, o1, o2, o3, e1, fun e => by rw [e] at hlm; simp at hlm; omega⟩, hBD⟩
  case stop =>
    rintro D c pre W _ _ h _
    exact h.elim
end Go.Proofs.YtbpodnhebjjkaaaGreatDoor
