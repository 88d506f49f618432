/- append(s, x...), x any slice that reads; slices.Clone. slices.Chunk of few elements: one round at most. Stores into an owned slice; renumber.cloneLists. The law's counted. renumber: (*Seq).add. Blocks of a sequence: plain facts, what memory holds. a slice of items that a variable holds, appended to in a round of the iterator over items. -/
import Derived.Test.YthbodpjkckminaaGreatDoorm11
import Derived.Lib.SliceRun
import Derived.Test.YthbodpjkckminaaGreatDoorm10
import Derived.Laws.OwnMore
import Derived.Test.YthbodpjkckminaaGreatDoorm6
import Derived.Test.YthbodpjkckminaaGreatDoorm9
import Derived.Test.YthbodpjkckminaaGreatDoorm1
namespace Go.Proofs.YthbodpjkckminaaGreatDoor
open Go.RowKit

section
variable {α : Type} {w w' : World} {s : Nat} {enc : α → List Value} {A : Option Addr} {n c : Nat} {xs : List α} {B : Nat} {e : TypeId} {P : Program} {t : TypeId} {b : Nat}
theorem Sl.flat {ad : Addr} (h : Sl w s enc (some ad) n xs) (henc : ∀ x : α, (enc x).length = s) : ∀ j u, (xs.flatMap enc)[j]? = some u → ad.block < w.heap.size ∧ w.cell? (ad.add j) = some u := by
  intro j u hu
  have hj : j < n * s := by
    have := (List.getElem?_eq_some_iff.1 hu).1
    rwa [flat_len henc, h.len] at this
  have hs : 0 < s := by
    rcases Nat.eq_zero_or_pos s with h0 | h0
    · subst h0; omega
    · exact h0
  have hi : j / s < n := (Nat.div_lt_iff_lt_mul hs).2 hj
  obtain ⟨ad', e', hl, x, hx, hc⟩ := h.at_ hi
  have hr : j % s < s := Nat.mod_lt _ hs
  have hv : (enc x)[j % s]? = some ((enc x)[j % s]'(by rw [henc]; exact hr)) := List.getElem?_eq_getElem _
  have hf := getElem?_flat henc xs _ x hx _ _ hv
  have hk := hc _ _ hv
  have hd : j / s * s + j % s = j := by rw [Nat.mul_comm]; exact Nat.div_add_mod j s
  rw [hd] at hf hk
  injection e' with e'
  subst e'
  rw [hf] at hu
  injection hu with hu
  subst hu
  exact ⟨hl, hk⟩
theorem wpList_pushSl (T : Elem P t e s b) (henc : ∀ x : α, (enc x).length = s) (hone : ∀ x : α, ∀ u ∈ enc x, u.oneCell' = true) {ops : Array Oper} {rest : List Oper} {o : Oper} {a : Act} {Q : Exit → Act → World → Prop} (hgd : o.guard = none) (sx ox : Operand)
    (ho : o.op = .call { callee := .builtin .append, args := #[sx, ox], argTypes := #[t, t] })
    (hs : a.eval sx = .slice A n c) (ad : Addr) (m cm : Nat) (hx : a.eval ox = .slice (some ad) m cm) (hown : Own w B e s enc A n c xs) (ys : List α) (hy : Sl w s enc (some ad) m ys)
    (hn : (n + m) * b ≤ 140737488355328 ∧ n + m ≤ maxLen) (hB : B ≤ w.heap.size)
    (h : ∀ A' c' w', Own w' B e s enc A' (n + m) c' (xs ++ ys) → w.grownBy w' (blk A) → (blk A' = blk A ∨ blk A' = some w.heap.size) → wpList P ops Q rest (a.put o.dst (.slice A' (n + m) c')) w') :
    wpList P ops Q (o :: rest) a w := by
  obtain ⟨ht, i, z, hi, hz, hsz, hb, hzs, hs0⟩ := T
  refine wpList_append_own_at w hgd sx ox t ho B e i z s b ht hi hz hsz hb hzs hs0 (.slice A n c) n (xs.flatMap enc) hs hown.row ad m cm (ys.flatMap enc) hx (by rw [flat_len henc, hy.len]) ?_ ?_ hn.2 hn.1 hB ?_
  · intro j u hu
    exact (hy.flat henc j u hu).2
  · intro u hu
    obtain ⟨y, _, hy⟩ := List.mem_flatMap.1 hu
    exact hone y u hy
  · intro v' w' hown' hg hnil hat
    have hlen : (xs ++ ys).length = n + m := by rw [List.length_append, hown.len, hy.len]
    have hO : (xs ++ ys).flatMap enc = xs.flatMap enc ++ ys.flatMap enc := List.flatMap_append
    rcases hown'.2 with ⟨hv, h0⟩ | ⟨g', cap, cur, hv, _⟩
    · subst hv
      have e0 : n + m = 0 := h0
      rw [blk_own] at hg hat
      have := h none 0 w' ⟨hlen, by rw [hO, e0]; rw [e0] at hown'; exact hown'⟩ hg (by rw [blk_own] at hat; exact hat)
      rw [e0] at this
      exact this
    · subst hv
      rw [blk_own] at hg hat
      exact h (some ⟨g', 0, none⟩) cap w' ⟨hlen, by rw [hO]; exact hown'⟩ hg (by rw [blk_own] at hat; exact hat)
end
theorem Own.made (w : World) (e : TypeId) {α : Type} (s : Nat) (enc : α → List Value) : Own (w.alloc (.cells #[] e)) w.heap.size e s enc (some ⟨w.heap.size, 0, none⟩) 0 0 ([] : List α) :=
  ⟨rfl, World.ownsRow_made w #[] 0 (Nat.le_refl _) (Nat.zero_le _) (by simp)⟩
theorem Sl.none_zero {α : Type} {w : World} {s n : Nat} {enc : α → List Value} {xs : List α} (h : Sl w s enc none n xs) : n = 0 ∧ xs = [] := by
  rcases Nat.eq_zero_or_pos n with h0 | h0
  · exact ⟨h0, List.eq_nil_of_length_eq_zero (by rw [h.len, h0])⟩
  · obtain ⟨ad, e, _⟩ := h.rd h0
    exact absurd e (by simp)
theorem elemLs : Elem Tryz.prog 42 96 2 32 := Elem.mk Tryz.underlying42 (z := .agg #[.int .i64 0, .slice none 0 0]) (by kernel_rfl) rfl (by omega)
theorem elemV : Elem Tryz.prog 22 30 4 40 := Elem.mk Tryz.underlying22 (z := .agg #[.int .i64 0, .int .i64 0, .string ⟨#[]⟩, .int .i64 0]) (by kernel_rfl) rfl (by omega)
end Go.Proofs.YthbodpjkckminaaGreatDoor

namespace Go.Proofs.YthbodpjkckminaaGreatDoor
open Go.RowKit
attribute [local go_sem] Oper.semAt_some

theorem cell_two (w : World) (v1 v2 : Value) (t1 t2 : TypeId) :
    ((w.alloc (.cells #[v1] t1)).alloc (.cells #[v2] t2)).cell? ⟨w.heap.size, 0, none⟩ = some v1 ∧ ((w.alloc (.cells #[v1] t1)).alloc (.cells #[v2] t2)).cell? ⟨w.heap.size + 1, 0, none⟩ = some v2 := by
  have b1 := (Blk.new w t1 #[v1]).alloc (.cells #[v2] t2)
  have b2 := Blk.new (w.alloc (.cells #[v1] t1)) t2 #[v2]
  rw [World.size_alloc] at b2
  exact ⟨b1.cell 0 rfl, b2.cell 0 rfl⟩
/-- what the closure of Chunk asks of a round: that its two variables lie on. -/
def Kq (p2 p3 : Nat) (W W' : World) : Prop := W'.heap[p2]? = W.heap[p2]? ∧ W'.heap[p3]? = W.heap[p3]?
theorem Kq.trans_ {p2 p3 : Nat} {X Y Z : World} (h : Kq p2 p3 X Y) (k : Kq p2 p3 Y Z) : Kq p2 p3 X Z := ⟨k.1.trans h.1, k.2.trans h.2⟩
theorem Kq.put_ {p2 p3 : Nat} {w : World} (h2 : p2 < w.heap.size) (h3 : p3 < w.heap.size) (W : World) (l : Nat) (o o' : Obj) (hl : w.heap.size ≤ l) (_ : W.heap[l]? = some o) (_ : o.isCells = false) (_ : o.isWalk = false) : Kq p2 p3 W (W.putObj l o') := by
  have hg := grownBy_putObj' W l o'
  have hlt : l < W.heap.size := by
    rename_i h _ _
    exact (Array.getElem?_eq_some_iff.1 h).1
  exact ⟨hg.block p2 (by omega) (by simp; omega), hg.block p3 (by omega) (by simp; omega)⟩
theorem run_cut_0mm {P : Program} {t e : TypeId} {s : Nat} (ht : P.underlying t = some (.slice e)) (hs : ∀ w, (sizeOf e).run P w = .ok s w) (ad : Addr) {n c m : Nat} (h0 : 0 < m) (hc : m ≤ c) (w : World) :
    (Instr.slice t (.slice (some ad) n c) (some (.int .i64 0)) (some (.int .i64 m)) (some (.int .i64 m))).run P w = .ok (.slice (some ad) m m) w := by
  have he : P.elem t = e := by unfold Program.elem; rw [ht]
  rw [run_slice_lhm w t (some ad) n c (by rw [he]; exact ht) _ _ _ _ _ _ (by omega) (by omega) (by omega) (by omega), he, hs]
  simp only [Result.andThen, sliced, Int.toNat_natCast, Int.toNat_zero, Nat.sub_zero, Nat.zero_mul]
  congr 2
  rw [if_neg (by omega)]
  rfl
end Go.Proofs.YthbodpjkckminaaGreatDoor

namespace Go.Proofs.YthbodpjkckminaaGreatDoor
open Go.RowKit

section
variable {α : Type} {w w' : World} {s : Nat} {enc : α → List Value} {A : Option Addr} {n c g : Nat} {xs : List α} {B : Nat} {e : TypeId}
theorem flat_rep (henc : ∀ x : α, (enc x).length = s) {k : Nat} (hk : k < xs.length) (x' : α) : ∃ pre post : List Value, xs.flatMap enc = pre ++ enc xs[k] ++ post ∧ pre.length = k * s ∧ (xs.set k x').flatMap enc = pre ++ enc x' ++ post := by
  refine ⟨(xs.take k).flatMap enc, (xs.drop (k + 1)).flatMap enc, ?_, ?_, ?_⟩
  · conv => lhs; rw [← List.take_append_drop k xs, List.drop_eq_getElem_cons hk]
    rw [List.flatMap_append, List.flatMap_cons, List.append_assoc]
  · rw [flat_len henc, List.length_take]; congr 1; omega
  · rw [List.set_eq_take_append_cons_drop, if_pos hk, List.flatMap_append, List.flatMap_cons, List.append_assoc]
theorem row_set {pre old post : List Value} {j : Nat} (hj : j < old.length) (u : Value) : (pre ++ old ++ post).set (pre.length + j) u = pre ++ old.set j u ++ post := by
  rw [List.append_assoc, List.set_append_right _ _ (by omega), Nat.add_sub_cancel_left, List.set_append_left _ _ hj, List.append_assoc]
theorem Own.set1 (h : Own w B e s enc (some ⟨g, 0, none⟩) n c xs) (henc : ∀ x : α, (enc x).length = s) {k : Nat} (hk : k < n) {x : α} (hx : xs[k]? = some x) {j : Nat} (hj : j < s) (u : Value) (x' : α) (he : enc x' = (enc x).set j u) :
    Own (w.setCell ⟨g, k * s + j, none⟩ u) B e s enc (some ⟨g, 0, none⟩) n c (xs.set k x') := by
  have hkl : k < xs.length := by rw [h.len]; exact hk
  have hxx : xs[k] = x := by rw [List.getElem?_eq_getElem hkl] at hx; injection hx
  obtain ⟨pre, post, e1, e2, e3⟩ := flat_rep henc hkl x'
  have hs := (h.row.stored (k * s + j) u).1
  rw [e1, hxx, ← e2, row_set (by rw [henc]; exact hj), ← he, ← e3, e2] at hs
  exact ⟨by rw [List.length_set]; exact h.len, hs⟩
theorem rowSets {g n cap size : Nat} {e : TypeId} {base : Nat} : ∀ (vs pre old post : List Value) (w : World), w.ownsRow base e size (.slice (some ⟨g, 0, none⟩) n cap) n (pre ++ old ++ post) → old.length = vs.length → (w.setCells g pre.length vs).ownsRow base e size (.slice (some ⟨g, 0, none⟩) n cap) n (pre ++ vs ++ post)
  | [], pre, [], _, w, h, _ => h
  | [], _, _ :: _, _, _, _, hl => by simp at hl
  | _ :: _, _, [], _, _, _, hl => by simp at hl
  | v :: r, pre, u :: old, post, w, h, hl => by
    have h1 := (h.stored pre.length v).1
    have e := row_set (pre := pre) (old := u :: old) (post := post) (j := 0) (by simp) v
    rw [Nat.add_zero] at e
    rw [e] at h1
    have e2 : pre ++ (u :: old).set 0 v ++ post = (pre ++ [v]) ++ old ++ post := by simp
    rw [e2] at h1
    have := rowSets r (pre ++ [v]) old post _ h1 (by simpa using hl)
    rw [List.length_append] at this
    rw [show pre ++ v :: r ++ post = pre ++ [v] ++ r ++ post by simp]
    exact this
theorem Own.setAll (h : Own w B e s enc (some ⟨g, 0, none⟩) n c xs) (henc : ∀ x : α, (enc x).length = s) {k : Nat} (hk : k < n) (x' : α) :
    Own (w.setCells g (k * s) (enc x')) B e s enc (some ⟨g, 0, none⟩) n c (xs.set k x') := by
  have hkl : k < xs.length := by rw [h.len]; exact hk
  obtain ⟨pre, post, e1, e2, e3⟩ := flat_rep henc hkl x'
  have h2 := h.row
  rw [e1] at h2
  have := rowSets (enc x') pre _ post w h2 (by rw [henc, henc])
  rw [e2, ← e3] at this
  exact ⟨by rw [List.length_set]; exact h.len, this⟩
end
theorem gE_set {es : List LsE} {k j : Nat} (hk : k < es.length) (x : LsE) : gE (es.set k x) j = if j = k then x else gE es j := by
  unfold gE
  rw [List.getD_eq_getElem?_getD, List.getD_eq_getElem?_getD, List.getElem?_set]
  by_cases h : k = j
  · subst h; simp [hk]
  · rw [if_neg h, if_neg (Ne.symm h)]
theorem gE_get {es : List LsE} {k : Nat} (hk : k < es.length) : es[k]? = some (gE es k) := by
  unfold gE
  rw [List.getD_eq_getElem?_getD, List.getElem?_eq_getElem hk]; rfl
theorem idsL_set {es : List LsE} {k : Nat} (hk : k < es.length) (x : LsE) (hx : x.id = (gE es k).id) : idsL (es.set k x) = idsL es := by
  unfold idsL
  rw [List.map_set, hx]
  have h1 : k < (es.map (·.id)).length := by rw [List.length_map]; exact hk
  have : (gE es k).id = (es.map (·.id))[k] := by
    have := gE_get hk
    rw [List.getElem?_eq_getElem hk] at this
    injection this with this
    rw [List.getElem_map, this]
  rw [this, List.set_getElem_self]
/-- the levels of a list, in memory of one's own. -/
structure LvO (w : World) (B g : Nat) (x : LsE) (v : List Lv) : Prop where
  o : Own w B 30 4 lvC x.A x.n x.c v
  d : blk x.A ≠ some g
theorem LvO.below {w w' : World} {B g : Nat} {x : LsE} {v : List Lv} (h : LvO w B g x v) (hb : Below w.heap.size w w') : LvO w' B g x v := ⟨h.o.below hb, h.d⟩
theorem LvO.set {w : World} {B g : Nat} {x : LsE} {v : List Lv} (h : LvO w B g x v) (i : Nat) (u : Value) : LvO (w.setCell ⟨g, i, none⟩ u) B g x v := ⟨h.o.keep (gset w g i u) (fun k hk => by injection hk with hk; subst hk; exact h.d), h.d⟩
structure ClP (w wr : World) (A : Option Addr) (n c : Nat) (es ei : List LsE) (vs : List (List Lv)) (i : Nat) : Prop where
  o : Own wr w.heap.size 96 2 lsC A n c ei
  ids : idsL ei = idsL es
  ns : ∀ k, (gE ei k).n = (gE es k).n
  old : ∀ k, i ≤ k → gE ei k = gE es k
  new : ∀ k, k < i → ∀ g, blk A = some g → LvO wr w.heap.size g (gE ei k) (vs.getD k [])
  b : Below w.heap.size w wr
end Go.Proofs.YthbodpjkckminaaGreatDoor

namespace Go.Proofs.YthbodpjkckminaaGreatDoor
open Go.RowKit

theorem Blk.thereN {w : World} {g : Nat} {t : TypeId} {c : Cn} (h : Blk w g t (cnA c)) : w.there g 0 18 := fun j hj => by
  rw [Nat.zero_add]
  refine ⟨?_, h.frozen j⟩
  have e : (cnA c)[j]? = some ((cnA c)[j]'(by rw [cnA_size]; exact hj)) := Array.getElem?_eq_getElem _
  rw [h.cell j e]
  rfl
theorem Blk.cn_set {w : World} {g : Nat} {t : TypeId} (h : Blk w g t (cnA cnZ)) (X : Cn) {l : List Value} (e : l = cnL X) : Blk (w.setCells g 0 l) g t (cnA X) := by
  subst e
  exact Blk.setCells_ (cnL X) [] (cnL cnZ) w h rfl
theorem Blk.rangeN {w : World} {g : Nat} {t : TypeId} {X : Cn} (h : Blk w g t (cnA X)) {lX : List Value} (e : lX = cnL X) : w.rangeAt g 0 lX := fun j v hv => by
  subst e
  rw [Nat.zero_add]
  exact h.cell j (by unfold cnA; simpa using hv)
theorem size48 : (Tryz.prog.info? 26).map (·.size) = some 18 := by kernel_rfl
theorem CW.setC {w : World} {B p5 p8 g : Nat} {Z : Cn} {vs : List Value} (h : CW w B p5 p8 Z) (h5 : g ≠ p5) (h8 : g ≠ p8) : CW (w.setCells g 0 vs) B p5 p8 Z :=
  ⟨h.b5.keep (only_setCells g vs 0 w) (fun e => h5 (by injection e)), h.b8.keep (only_setCells g vs 0 w) (fun e => h8 (by injection e)), h.n, h.m5, h.m8⟩
theorem CW.row {w : World} {B p5 p8 : Nat} {Z : Cn} (h : CW w B p5 p8 Z) (Z' : Cn) : CW (w.setRow p5 (cnA Z')) B p5 p8 Z' :=
  ⟨setRow_heap w p5 _ _ _ _ h.b5, (setRow_other w p5 p8 _ (Ne.symm h.n)).trans h.b8, h.n, h.m5, h.m8⟩
theorem nx_ok {ls : List Lv} {n : Nat} {c : Cn} {L : Nat} {r K : Int} (hC : clE ls = 0) (hL : L < n) (h0 : 0 ≤ r) (h1 : r ≤ 32767) (hc : CnOk K c) (hK : K ≤ 1099511627776) : nxE ls n c ((L : Int) + 1) r = 0 ∧ nxF ls n c ((L : Int) + 1) r = nextC ls n c L r := by
  have e : nxE ls n c ((L : Int) + 1) r = 0 := by
    unfold nxE ckE
    rw [if_neg (by simp [hC]; omega), if_neg (by omega), if_neg (by rw [ovB_no (fun i _ => by have := hc i; omega)]; simp)]
  refine ⟨e, ?_⟩
  unfold nxF
  rw [if_pos e, show ((L : Int) + 1 - 1).toNat = L by omega]
end Go.Proofs.YthbodpjkckminaaGreatDoor

namespace Go.Proofs.YthbodpjkckminaaGreatDoor
open Go.RowKit

section
variable {P : Program} {ops : Array Oper} {Q : Exit → Act → World → Prop} {md : Region.Mode} {S : World → Prop} {fuel : Nat} {listed : Array Bool} {a : Act} {w : World} {o : Oper}
/-- the store of a row into a block, anywhere. -/
theorem hx_storeQ (i : Nat) (ty : TypeId) (x y : Operand) (g q : Nat) (l : List Value) (ho : ops[i]? = some o) (hw : Region.wanted o (yielded ops a.tmps) = true) (hd : o.dst = none) (hop : o.op = .store ty x y) (hx : a.eval x = .pointer (some ⟨g, q, none⟩)) (hy : a.eval y = .agg l.toArray)
    (ht : w.there g q l.length) (hi : (P.info? ty).map (·.size) = some l.length) (h1 : ∀ v ∈ l, v.oneCell' = true) (hS : S (w.setCells g q l))
    (h : wpAnyH P md ops Q S fuel (listed.setIfInBounds i true) a (w.setCells g q l)) : StepH P md ops Q S fuel listed a w i := by
  refine hx_wp i ho hw ?_
  refine wp_store_mid ty x y hop g q l.toArray hx hy (by simpa using ht) (by simpa using hi) (all_oneCell_toArray h1) ?_
  rw [hd]
  exact ⟨hS, by simpa [Act.put] using h⟩
/-- the load of a row. -/
theorem hx_loadQ (i : Nat) (d : Option Tmp) (ty : TypeId) (x : Operand) (g q : Nat) (l : List Value) (td : TypeDesc) (ho : ops[i]? = some o) (hw : Region.wanted o (yielded ops a.tmps) = true) (hd : o.dst = d) (hop : o.op = .load ty x) (hx : a.eval x = .pointer (some ⟨g, q, none⟩))
    (hc : w.rangeAt g q l) (hu : P.underlying ty = some td) (hr : td.isRow = true) (hi : (P.info? ty).map (·.size) = some l.length) (hS : S w)
    (h : wpAnyH P md ops Q S fuel (listed.setIfInBounds i true) (a.put d (.agg l.toArray)) w) : StepH P md ops Q S fuel listed a w i := by
  refine hx_val i d (.agg l.toArray) w ho hw hd ?_ hS h
  unfold execOp
  simp only [hop, hx, Instr.loadAt, Instr.sureAddr, Sem.run_bind, Sem.run_pure, Result.andThen_ok, run_loadVar_mid w g q ty l td hc hu hr hi]
end

section
variable {α : Type} {w w' : World} {s : Nat} {enc : α → List Value} {A : Option Addr} {n c g : Nat} {xs : List α} {B : Nat} {e : TypeId}
theorem Own.range (h : Own w B e s enc (some ⟨g, 0, none⟩) n c xs) (henc : ∀ x : α, (enc x).length = s) {k : Nat} (hk : k < n) {x : α} (hx : xs[k]? = some x) : w.rangeAt g (k * s) (enc x) := by
  obtain ⟨g', x', e1, _, _, hx', hc⟩ := h.field henc hk
  injection e1 with e1
  injection e1 with e1
  subst e1
  rw [hx] at hx'
  injection hx' with hx'
  subst hx'
  exact fun j v hv => hc j v hv
theorem Own.thereQ (h : Own w B e s enc (some ⟨g, 0, none⟩) n c xs) (henc : ∀ x : α, (enc x).length = s) {k : Nat} (hk : k < n) : w.there g (k * s) s := fun j hj => by
  have hkl : k < xs.length := by rw [h.len]; exact hk
  have hl : j < (enc xs[k]).length := by rw [henc]; exact hj
  have := h.range henc hk (List.getElem?_eq_getElem hkl) j _ (List.getElem?_eq_getElem hl)
  exact ⟨by rw [this]; rfl, h.row.frozenAt _⟩
end
theorem grown_below {w w' : World} {row : Option Nat} (h : Below w.heap.size w w') : w.grownBy w' row := ⟨h.os, h.tape, h.output, h.size, fun k hk _ => h.block k hk⟩
def gF (xs : List Eff) (k : Nat) : Eff := xs.getD k effZ
theorem gF_get {xs : List Eff} {k : Nat} (h : k < xs.length) : xs[k]? = some (gF xs k) := by
  unfold gF
  rw [List.getD_eq_getElem?_getD, List.getElem?_eq_getElem h]; rfl
def addF (es : List LsE) (vs : List (List Lv)) (xs : List Eff) (m : Mk) : List Eff :=
  if m.list ∈ idsL es then xs.set ((idsL es).idxOf m.list) (thenE (vs.getD ((idsL es).idxOf m.list) []) (gE es ((idsL es).idxOf m.list)).n (gF xs ((idsL es).idxOf m.list)) (effM (vs.getD ((idsL es).idxOf m.list) []) (gE es ((idsL es).idxOf m.list)).n m)) else xs
/-- what a mark must be that is right for its list. -/
def MkIn (es : List LsE) (m : Mk) : Prop := m.list ∈ idsL es → mkE (gE es ((idsL es).idxOf m.list)).n m.level m.restart = 0
theorem lvok_of {ls : List Lv} {n : Nat} (hn : ls.length = n) (h : clE ls = 0) : LvOk n ls := fun i hi => by
  have := lv_right h (i := i) (by omega)
  exact ⟨this.2.2.1, this.2.2.2.1⟩
theorem mkE_zero_iff {n : Nat} {a b : Int} (h : mkE n a b = 0) : 1 ≤ a ∧ a ≤ n ∧ 0 ≤ b ∧ b ≤ 32767 := by
  unfold mkE at h
  by_cases h1 : a < 1 ∨ (n : Int) < a
  · rw [if_pos h1] at h; omega
  · rw [if_neg h1] at h
    by_cases h2 : b < 0 ∨ 32767 < b
    · rw [if_pos h2] at h; omega
    · omega
end Go.Proofs.YthbodpjkckminaaGreatDoor

namespace Go.Proofs.YthbodpjkckminaaGreatDoor
open Go.RowKit

section
variable {P : Program} {ops : Array Oper} {Q : Exit → Act → World → Prop} {md : Region.Mode} {S : World → Prop} {fuel : Nat} {listed : Array Bool} {a : Act} {w : World} {o : Oper}
/-- a call of a Go function whose contract says of its value what it says. -/
theorem hx_callE (i : Nat) (d : Option Tmp) (f : Nat) (args : Array Value) (R : Value → World → Prop) (ho : ops[i]? = some o) (hw : Region.wanted o (yielded ops a.tmps) = true) (hd : o.dst = d) (he : (execOp a.eval o).run P w = .ok (.enter f args) w)
    (hc : Calls P f args w fun e w' => ∃ v, e = .returned v ∧ R v w') (h : ∀ v w', R v w' → S w' ∧ wpAnyH P md ops Q S fuel (listed.setIfInBounds i true) (a.put d v) w') : StepH P md ops Q S fuel listed a w i := by
  refine hx_wp i ho hw ?_
  unfold Oper.wp
  rw [he, Oper.upon_enter]
  refine hc.mono ?_
  rintro e w' ⟨v, rfl, hR⟩
  subst hd
  exact h v w' hR
end

section
variable {α : Type} {w w' : World} {s : Nat} {enc : α → List Value} {A : Option Addr} {n c g : Nat} {xs : List α} {B : Nat} {e : TypeId}
theorem Own.heap_at (h : Own w B e s enc A n c xs) {g : Nat} (hg : blk A = some g) : ∃ cur, w.heap[g]? = some (.cells cur e (0, 0)) := by
  rcases h.row.2 with ⟨h', _⟩ | ⟨g', cap', cur, h', _, hgb, _⟩
  · injection h' with h1
    subst h1
    simp [blk] at hg
  · injection h' with h1
    subst h1
    injection hg with hg
    subst hg
    exact ⟨cur, hgb⟩
/-- a row's block is no block of another type. -/
theorem Own.ne_blk {t : TypeId} {cs : Array Value} (h : Own w B e s enc A n c xs) (hb : Blk w g t cs) (hte : t ≠ e) : blk A ≠ some g := fun hg => by
  obtain ⟨cur, hc⟩ := h.heap_at hg
  rw [show w.heap[g]? = _ from hb] at hc
  simp at hc
  exact hte hc.2
/-- what a row owns it owns whatever turns that is no cells. -/
theorem Own.others_ {row : Option Nat} (h : Own w B e s enc A n c xs) (hg : w.grownBy w' row) (hr : ∀ r, row = some r → ∃ o : Obj, w.heap[r]? = some o ∧ o.isCells = false) : Own w' B e s enc A n c xs :=
  h.keep hg (fun k hk he => by
    obtain ⟨o, ho, hc⟩ := hr k hk
    obtain ⟨cur, hcur⟩ := h.heap_at he
    rw [hcur] at ho
    injection ho with ho
    subst ho
    cases hc)
theorem Blk.others_ {t : TypeId} {cs : Array Value} {row : Option Nat} (h : Blk w g t cs) (hg : w.grownBy w' row) (hr : ∀ r, row = some r → ∃ o : Obj, w.heap[r]? = some o ∧ o.isCells = false) : Blk w' g t cs :=
  h.keep hg (fun e => by
    obtain ⟨o, ho, hc⟩ := hr g e
    rw [show w.heap[g]? = _ from h] at ho
    injection ho with ho
    subst ho
    cases hc)
end

theorem flat_replicate {α : Type} {s : Nat} (enc : α → List Value) (henc : ∀ x : α, (enc x).length = s) (hs : 0 < s) (x : α) (z : Array Value) (hz : z.toList = enc x) (n : Nat) : (madeCells z (n * s)).toList = (List.replicate n x).flatMap enc := by
  have hzs : z.size = s := by rw [← Array.length_toList, hz, henc]
  apply List.ext_getElem?
  intro j
  by_cases hj : j < n * s
  · have h1 : j / s < n := Nat.div_lt_of_lt_mul (by rw [Nat.mul_comm]; exact hj)
    have h2 : j % s < s := Nat.mod_lt _ hs
    have h3 : j % s < (enc x).length := by rw [henc]; exact h2
    have := getElem?_flat henc (List.replicate n x) (j / s) x (by rw [List.getElem?_replicate, if_pos h1]) (j % s) _ (List.getElem?_eq_getElem h3)
    rw [Nat.div_add_mod' j s] at this
    rw [this]
    unfold madeCells
    simp only [Array.toList_map, Array.toList_range, List.getElem?_map, List.getElem?_range hj, Option.map_some]
    congr 1
    have h4 : j % z.size < z.size := by rw [hzs]; exact h2
    rw [getElem!_pos z _ h4]
    have : z[j % z.size] = z.toList[j % z.size]'(by simpa using h4) := by simp
    rw [this]
    simp only [hz, hzs]
  · have l1 : (madeCells z (n * s)).toList.length ≤ j := by rw [Array.length_toList, size_madeCells]; omega
    have l2 : ((List.replicate n x).flatMap enc).length ≤ j := by rw [flat_len henc, List.length_replicate]; omega
    rw [List.getElem?_eq_none l1, List.getElem?_eq_none l2]

structure BkE where
  M : Option Addr
  m : Nat
  mc : Nat
  E : Option Addr
  n : Nat
  nc : Nat
def bkC (b : BkE) : List Value := [.slice b.M b.m b.mc, .slice b.E b.n b.nc]
theorem bkC_len (b : BkE) : (bkC b).length = 2 := rfl
theorem bkC_one (b : BkE) : ∀ u ∈ bkC b, u.oneCell' = true := by intro u hu; simp [bkC] at hu; rcases hu with rfl | rfl <;> rfl
def effsF (es : List LsE) (vs : List (List Lv)) (n : Nat) (ms : List Mk) : List Eff := ms.foldl (addF es vs) (List.replicate n effZ)
theorem effsF_take (es : List LsE) (vs : List (List Lv)) (n : Nat) (ms : List Mk) {i : Nat} (h : i < ms.length) : effsF es vs n (ms.take (i + 1)) = addF es vs (effsF es vs n (ms.take i)) (gM ms i) := by
  unfold effsF
  rw [← List.take_append_getElem h, List.foldl_append]
  have : gM ms i = ms[i] := by unfold gM; rw [List.getD_eq_getElem?_getD, List.getElem?_eq_getElem h]; rfl
  rw [this]; rfl
theorem ChOk.mono {M K : Int} {c : Ch} (h : ChOk M c) (hMK : M ≤ K) : ChOk K c := by unfold ChOk at *; omega
theorem gF_set {xs : List Eff} {k j : Nat} (x : Eff) (hk : k < xs.length) : gF (xs.set k x) j = if j = k then x else gF xs j := by
  unfold gF
  rw [List.getD_eq_getElem?_getD, List.getD_eq_getElem?_getD, List.getElem?_set]
  by_cases h : k = j
  · subst h; simp [hk]
  · rw [if_neg h, if_neg (Ne.symm h)]
theorem gF_set_out {xs : List Eff} {k j : Nat} (x : Eff) (hk : ¬ k < xs.length) : gF (xs.set k x) j = gF xs j := by
  rw [List.set_eq_of_length_le (by omega)]
theorem gF_replicate (n k : Nat) : gF (List.replicate n effZ) k = effZ := by
  unfold gF
  rw [List.getD_eq_getElem?_getD, List.getElem?_replicate]
  split <;> rfl
/-- the lists' levels are right. -/
structure LvsOk (es : List LsE) (vs : List (List Lv)) (n : Nat) : Prop where
  c : ∀ k, k < n → clE (vs.getD k []) = 0
  l : ∀ k, k < n → (vs.getD k []).length = (gE es k).n
theorem addF_ok {es : List LsE} {vs : List (List Lv)} {n : Nat} {xs : List Eff} {m : Mk} {M : Int} (he : es.length = n) (hC : LvsOk es vs n) (hm : MkIn es m) (hM : 0 ≤ M) (hx : ∀ k i, ChOk M (gF xs k i)) : ∀ k i, ChOk (M + 1) (gF (addF es vs xs m) k i) := by
  intro k i
  unfold addF
  by_cases h : m.list ∈ idsL es
  · rw [if_pos h]
    have hik : (idsL es).idxOf m.list < n := by
      have := List.idxOf_lt_length_iff.2 h
      rw [idsL_len] at this
      omega
    have hmk := mkE_zero_iff (hm h)
    generalize (idsL es).idxOf m.list = j at *
    by_cases hj : j < xs.length
    · rw [gF_set _ hj]
      by_cases hkj : k = j
      · rw [if_pos hkj]
        refine thenE_ok (lvok_of (hC.l j hik) (hC.c j hik)) (hx j) ?_ hM (by omega) i
        exact effF_ok _ _ _ hmk.2.2.1 hmk.2.2.2
      · rw [if_neg hkj]
        exact (hx k i).mono (by omega)
    · rw [gF_set_out _ hj]
      exact (hx k i).mono (by omega)
  · rw [if_neg h]
    exact (hx k i).mono (by omega)
theorem effsF_ok {es : List LsE} {vs : List (List Lv)} {n : Nat} {ms : List Mk} (he : es.length = n) (hC : LvsOk es vs n) (hm : ∀ x ∈ ms, MkIn es x) : ∀ i, i ≤ ms.length → ∀ k j, ChOk i (gF (effsF es vs n (ms.take i)) k j)
  | 0, _ => fun k j => by
    rw [List.take_zero]
    show ChOk _ (gF (List.replicate n effZ) k j)
    rw [gF_replicate]
    exact chZ_ok (by omega)
  | i + 1, h => by
    have h1 : i < ms.length := by omega
    rw [effsF_take es vs n ms h1]
    have hmi : gM ms i ∈ ms := by unfold gM; rw [List.getD_eq_getElem?_getD, List.getElem?_eq_getElem h1]; exact List.getElem_mem h1
    have := addF_ok he hC (hm _ hmi) (by omega) (effsF_ok he hC hm i (by omega))
    intro k j
    have := this k j
    rw [show ((i + 1 : Nat) : Int) = (i : Int) + 1 by omega]
    exact this

end Go.Proofs.YthbodpjkckminaaGreatDoor

namespace Go.Proofs.YthbodpjkckminaaGreatDoor
open Go.RowKit

section
variable {α : Type} {P : Program} {w : World} {s : Nat} {enc : α → List Value} {A : Option Addr} {n c B b : Nat} {e t : TypeId} {xs : List α}
theorem Own.cur_ (h : Own w B e s enc A n c xs) {g : Nat} (hA : A = some ⟨g, 0, none⟩) : ∃ cur, w.heap[g]? = some (.cells cur e (0, 0)) ∧ cur.size = c * s ∧ n ≤ c := by
  subst hA
  rcases h.row.2 with ⟨hv, _⟩ | ⟨g', cap, cur, hv, _, hc, h1, _, h3, _⟩
  · injection hv with hv; cases hv
  · injection hv with h4 h5 h6
    injection h4 with h4
    injection h4 with h4
    subst h4 h6
    exact ⟨cur, hc, h3, h1⟩
/-- 'append(s, x)': where it lies, and what has turned: the array has room, and is written; or it lies as it lay, and there is a new one. -/
theorem run_push_sz (T : Elem P t e s b) (ty : TypeId) (hown : Own w B e s enc A n c xs) (h0 : n = 0 → A = none) (x : α) (g : Nat) (hx : ∀ j u, (enc x)[j]? = some u → w.cell? ((⟨g, 0, none⟩ : Addr).add j) = some u) (h1 : ∀ u ∈ enc x, u.oneCell' = true) (hl : (enc x).length = s)
    (hn : (n + 1) * b ≤ 140737488355328 ∧ n + 1 ≤ maxLen) (hB : B ≤ w.heap.size) :
    ∃ A' c' w' row, (Builtin.append_ #[t, t] ty #[.slice A n c, .slice (some ⟨g, 0, none⟩) 1 1]).run P w = .ok (.slice A' (n + 1) c') w' ∧ Own w' B e s enc A' (n + 1) c' (xs ++ [x]) ∧ w.grownBy w' row ∧
      ((row = none ∧ A' = some ⟨w.heap.size, 0, none⟩) ∨ (∃ g, A = some ⟨g, 0, none⟩ ∧ A' = A ∧ row = some g ∧ n + 1 ≤ c ∧ c' = c)) := by
  obtain ⟨ht, i, z, hi, hz, hsz, hb, hzs, hs0⟩ := T
  obtain ⟨v', w', hr, h2, h3, _, hat⟩ := run_append_own_at (P := P) w B t ty e i z s b ht hi hz hsz hb hzs hs0 (.slice A n c) n (xs.flatMap enc) hown.row ⟨g, 0, none⟩ 1 1 (enc x) (by omega) hx h1 hn.2 hn.1 hB
  obtain ⟨g', cap, hv, _, _⟩ := h2.form (by omega)
  have hO : Own w' B e s enc (some ⟨g', 0, none⟩) (n + 1) cap (xs ++ [x]) := ⟨by rw [List.length_append, hown.len]; rfl, by rw [List.flatMap_append]; simpa [hv] using h2⟩
  subst hv
  rw [blk_own] at h3 hat
  subst hsz hb
  have hm : n + 1 ≤ 9223372036854775807 := by have := hn.2; simpa [maxLen] using this
  rcases hown.row.2 with ⟨hv, hn0⟩ | ⟨g0, cap0, cur, hv, hB0, hc0, hc1, hc2, hc3, hc4⟩
  · injection hv with hA _ hcz
    subst hn0 hA hcz
    have hxs : xs = [] := List.eq_nil_of_length_eq_zero hown.len
    subst hxs
    have hr2 := run_append_nil (P := P) w t ty e i z ht hi hz ⟨g, 0, none⟩ 1 1 (enc x) (by omega) hx (by omega) (by omega) (by have := hn.1; simp only [Nat.zero_add] at this; omega)
    rw [hr2] at hr
    injection hr with e1 e2
    injection e1 with e1 _ e3
    injection e1 with e1
    injection e1 with e1
    subst e1 e3
    refine ⟨_, _, _, none, by rw [hr2, e2], hO, ?_, .inl ⟨rfl, rfl⟩⟩
    rw [← e2]
    exact ⟨rfl, rfl, rfl, by simp, fun k hk _ => Below.heap_alloc w.drew _ k hk⟩
  · injection hv with hA _ hc
    subst hA hc
    by_cases hroom : n + 1 ≤ c
    · have hfit : n * i.size + (enc x).length ≤ cur.size := by rw [hl, hc3, ← Nat.succ_mul]; exact Nat.mul_le_mul_right _ hroom
      have hr2 := run_append_room (P := P) w t ty e i ht hi g0 n c cur hc0 ⟨g, 0, none⟩ 1 1 (enc x) (by omega) hx h1 hroom hfit
      have hr3 := hr
      rw [hr2] at hr3
      injection hr3 with e1 _
      injection e1 with e1 _ e3
      injection e1 with e1
      injection e1 with e1
      subst e1 e3
      exact ⟨_, _, _, some g0, hr, hO, h3, .inr ⟨g0, rfl, rfl, rfl, hroom, rfl⟩⟩
    · have hr2 := run_append_grow (P := P) w t ty e i z ht hi hz ⟨g0, 0, none⟩ n c (xs.flatMap enc) hown.row.1 (fun j u hu => hown.row.cells (g := g0) rfl j u hu) ⟨g, 0, none⟩ 1 1 (enc x) (by omega) hx (by omega) (by omega) (growslice_fits (by omega) hn.1)
      have hr3 := hr
      rw [hr2] at hr3
      injection hr3 with e1 e2
      injection e1 with e1 _ e3
      injection e1 with e1
      injection e1 with e1
      subst e1 e3
      refine ⟨_, _, _, none, hr, hO, ?_, .inl ⟨rfl, rfl⟩⟩
      rw [← e2]
      exact ⟨rfl, rfl, rfl, by simp, fun k hk _ => Below.heap_alloc w.drew _ k hk⟩
end
theorem elemIt : Elem Tryz.prog 54 102 11 176 := Elem.mk Tryz.underlying54 (z := .agg itZA) (by kernel_rfl) rfl (by omega)
section
variable {P : Program} {ops : Array Oper} {Q : Exit → Act → World → Prop} {md : Region.Mode} {S : World → Prop} {fuel : Nat} {listed : Array Bool} {a : Act} {w : World} {o : Oper}
/-- the append of one element, in a drawn region walked by hand: with where it lies. -/
theorem hx_pushS {α : Type} {s b n c B : Nat} {t e : TypeId} {enc : α → List Value} {A : Option Addr} {xs : List α} (i : Nat) (d : Option Tmp) (T : Elem P t e s b) (sx ox : Operand) (hi : ops[i]? = some o) (hwt : Region.wanted o (yielded ops a.tmps) = true) (hd : o.dst = d)
    (ho : o.op = .call { callee := .builtin .append, args := #[sx, ox], argTypes := #[t, t] })
    (hs : a.eval sx = .slice A n c) (g : Nat) (hx : a.eval ox = .slice (some ⟨g, 0, none⟩) 1 1) (hown : Own w B e s enc A n c xs) (h0 : n = 0 → A = none) (x : α) (hb : Blk w g e (enc x).toArray) (h1 : ∀ u ∈ enc x, u.oneCell' = true) (hl : (enc x).length = s)
    (hn : (n + 1) * b ≤ 140737488355328 ∧ n + 1 ≤ maxLen) (hB : B ≤ w.heap.size)
    (h : ∀ A' c' w' row, Own w' B e s enc A' (n + 1) c' (xs ++ [x]) → w.grownBy w' row → ((row = none ∧ A' = some ⟨w.heap.size, 0, none⟩) ∨ (∃ g, A = some ⟨g, 0, none⟩ ∧ A' = A ∧ row = some g ∧ n + 1 ≤ c ∧ c' = c)) → S w' ∧ wpAnyH P md ops Q S fuel (listed.setIfInBounds i true) (a.put d (.slice A' (n + 1) c')) w') : StepH P md ops Q S fuel listed a w i := by
  refine hx_wp i hi hwt ?_
  obtain ⟨A', c', w', row, hr, h2, h3, h4⟩ := run_push_sz (P := P) (w := w) T o.type hown h0 x g (fun j u hu => by
    rw [addr0]
    exact hb.cell j (by simpa using hu)) h1 hl hn hB
  unfold Oper.wp execOp
  simp only [ho, resolve, invoke, builtin, Sem.run_bind, Sem.run_pure, Result.andThen_ok, List.map_toArray, List.map_cons, List.map_nil, hs, hx, hr]
  subst hd
  exact h A' c' w' row h2 h3 h4
end
theorem KpI.grow {N0 : Nat} {W v v' : World} {row : Option Nat} (h : KpI N0 W v) (hg : v.grownBy v' row) (hlow : ∀ j, row = some j → N0 ≤ j) (hone : ∀ j, row = some j → ∀ cs : Array Value, cs.size = 11 → W.heap[j]? ≠ some (.cells cs 102 (0, 0))) (hN : N0 ≤ v.heap.size) : KpI N0 W v' :=
  ⟨fun k hk => (hg.block k (by omega) (fun e => by have := hlow k e.symm; omega)).trans (h.low k hk), fun k cs hk hs => by
    have h1 := h.one k cs hk hs
    refine (hg.block k (Array.getElem?_eq_some_iff.1 (h1.trans hk)).1 (fun e => hone k e.symm cs hs hk)).trans h1⟩
/-- two variables that hold slices of items of the call's own, in the midst of a round: what lay when the round began has hardly turned. -/
structure PS (w W v : World) (p3 p po : Nat) (a : Int) (u : Value) (A : Option Addr) (n c : Nat) (zs : List It) (A2 : Option Addr) (n2 c2 : Nat) (ys : List It) : Prop where
  b3 : Blk v p3 3 #[.int .i64 a]
  bp : Blk v p 54 #[u]
  bo : Blk v po 54 #[.slice A2 n2 c2]
  own : Own v w.heap.size 102 11 itC A n c zs
  oo : Own v w.heap.size 102 11 itC A2 n2 c2 ys
  ap : Apart A A2
  ne : p3 ≠ p ∧ p3 ≠ po ∧ p ≠ po
  lo : w.heap.size ≤ p3 ∧ w.heap.size ≤ p ∧ w.heap.size ≤ po
  wW : w.heap.size ≤ W.heap.size
  bel : Below w.heap.size w v
  kp : KpI w.heap.size W v
  sz : W.heap.size ≤ v.heap.size
  ko : KeepsOthers W v
section
variable {w W v v' : World} {p3 p po n c n2 c2 : Nat} {a : Int} {u : Value} {A A2 : Option Addr} {zs ys : List It}
theorem PS.below (h : PS w W v p3 p po a u A n c zs A2 n2 c2 ys) (hb : Below v.heap.size v v') : PS w W v' p3 p po a u A n c zs A2 n2 c2 ys :=
  ⟨h.b3.below hb, h.bp.below hb, h.bo.below hb, h.own.below hb, h.oo.below hb, h.ap, h.ne, h.lo, h.wW, below_trans' h.bel h.bel.size hb, h.kp.trans_ (KpI.of_below hb (Nat.le_trans h.wW h.sz)), Nat.le_trans h.sz hb.size, h.ko.trans (others_below hb)⟩
theorem PS.putCell (h : PS w W v p3 p po a u A n c zs A2 n2 c2 ys) (u' : Value) : PS w W (v.setCell ⟨p, 0, none⟩ u') p3 p po a u' A n c zs A2 n2 c2 ys := by
  have hg := gset v p 0 u'
  refine ⟨h.b3.keep hg (by have := h.ne.1; simp; exact fun e => this e.symm), h.bp.set_ 0 _, h.bo.keep hg (by have := h.ne.2.2; simpa using this), h.own.keep hg (fun k hk => by cases hk; exact h.own.ne_blk h.bp (by decide)), h.oo.keep hg (fun k hk => by cases hk; exact h.oo.ne_blk h.bp (by decide)), h.ap, h.ne, h.lo, h.wW, h.bel.setCell (p := ⟨p, 0, none⟩) h.lo.2.1 _, h.kp.trans_ (KpI.setc h.bp (by decide) h.lo.2.1 _), Nat.le_trans h.sz hg.size, h.ko.trans (KeepsOthers.setCell _ _ _)⟩
theorem others_setCells (g : Nat) : ∀ (l : List Value) (o : Nat) (w : World), KeepsOthers w (w.setCells g o l)
  | [], _, w => KeepsOthers.refl w
  | u :: l, o, w => (KeepsOthers.setCell w ⟨g, o, none⟩ u).trans (others_setCells g l (o + 1) _)
theorem PS.putRow {g : Nat} (h : PS w W v p3 p po a u (some ⟨g, 0, none⟩) n c zs A2 n2 c2 ys) (hg : W.heap.size ≤ g ∨ 2 ≤ c) {k : Nat} (hk : k < n) (x : It) : PS w W (v.setCells g (k * 11) (itC x)) p3 p po a u (some ⟨g, 0, none⟩) n c (zs.set k x) A2 n2 c2 ys := by
  have hG := only_setCells g (itC x) (k * 11) v
  obtain ⟨cur, hc1, hc2, _⟩ := h.own.cur_ rfl
  have hgb := (h.own.lt g rfl).1
  refine ⟨h.b3.keep hG (fun e => h.own.ne_blk h.b3 (by decide) e), h.bp.keep hG (fun e => h.own.ne_blk h.bp (by decide) e), h.bo.keep hG (fun e => h.own.ne_blk h.bo (by decide) e), h.own.setAll itC_len hk x, h.oo.keep hG (fun j hj => by cases hj; exact fun e => h.ap g rfl e), h.ap, h.ne, h.lo, h.wW, h.bel.grown hG h.bel.size (fun j e => by cases e; exact hgb), h.kp.grow hG (fun j hj => by cases hj; exact hgb) (fun j hj cs hs => by
    cases hj
    rcases hg with h1 | h1
    · intro e; have := (Array.getElem?_eq_some_iff.1 e).1; omega
    · intro e
      have := (h.kp.one g cs e hs).trans e
      rw [hc1] at this
      cases this
      omega) (by have := h.bel.size; have := h.wW; omega), Nat.le_trans h.sz hG.size, h.ko.trans (others_setCells g _ _ v)⟩
theorem PS.push {A' : Option Addr} {c' : Nat} {row : Option Nat} (h : PS w W v p3 p po a u A n c zs A2 n2 c2 ys) (h0 : n = 0 → A = none) {x : It} (hO : Own v' w.heap.size 102 11 itC A' (n + 1) c' (zs ++ [x])) (hg : v.grownBy v' row)
    (hc : (row = none ∧ A' = some ⟨v.heap.size, 0, none⟩) ∨ (∃ g, A = some ⟨g, 0, none⟩ ∧ A' = A ∧ row = some g ∧ n + 1 ≤ c ∧ c' = c)) :
    ∃ g, A' = some ⟨g, 0, none⟩ ∧ (W.heap.size ≤ g ∨ 2 ≤ c') ∧ PS w W v' p3 p po a u A' (n + 1) c' (zs ++ [x]) A2 n2 c2 ys := by
  rcases hc with ⟨rfl, rfl⟩ | ⟨g, rfl, rfl, rfl, h1, rfl⟩
  · have hb : Below v.heap.size v v' := ⟨hg.os, hg.tape, hg.output, hg.size, fun k hk => hg.block k hk (by simp)⟩
    have h2 := h.below hb
    refine ⟨_, rfl, .inl h.sz, h2.b3, h2.bp, h2.bo, hO, h2.oo, ?_, h2.ne, h2.lo, h2.wW, h2.bel, h2.kp, h2.sz, h2.ko⟩
    intro k hk hk2
    have := (h.oo.lt k hk2).2
    simp [blk] at hk
    omega
  · obtain ⟨cur, hc1, hc2, _⟩ := h.own.cur_ rfl
    have hn : n ≠ 0 := fun e => by have := h0 e; cases this
    have hgb := (h.own.lt g rfl).1
    refine ⟨g, rfl, .inr (by omega), h.b3.keep hg (fun e => h.own.ne_blk h.b3 (by decide) e), h.bp.keep hg (fun e => h.own.ne_blk h.bp (by decide) e), h.bo.keep hg (fun e => h.own.ne_blk h.bo (by decide) e), hO, h.oo.keep hg (fun j hj => by cases hj; exact fun e => h.ap g rfl e), h.ap, h.ne, h.lo, h.wW, h.bel.grown hg h.bel.size (fun j e => by cases e; exact hgb), h.kp.grow hg (fun j hj => by cases hj; exact hgb) (fun j hj cs hs => by
      cases hj
      intro e
      have := (h.kp.one g cs e hs).trans e
      rw [hc1] at this
      cases this
      omega) (by have := h.bel.size; have := h.wW; omega), Nat.le_trans h.sz hg.size, h.ko.trans (KeepsOthers.of_grownBy hg fun j o ej hj => ?_)⟩
    cases ej
    rw [hc1] at hj
    cases hj
    rfl
end
end Go.Proofs.YthbodpjkckminaaGreatDoor
