/- Words for memory: slices that are read, slices that a call owns and appends to. No program in sight. Imports that the walks share. A region that draws its order, walked by hand: single steps. No program in sight. -/
import Derived.WalkKit
import Derived.Deep.AppendLies
import Derived.Maps.AppendAt
import Derived.WalkSmall
import Derived.Lib.Hide
import Derived.Test.YthbodpjkckminaaGreatDoorRows
import Derived.Outline
import Derived.LoopTactic
import Derived.Deep.LoopGhost
import Derived.Deep.QuietTactic
import Derived.BigQuiet
import Derived.WalkSpells
import Derived.WalkLawsBesides
import Derived.IntWalk
import Derived.Deep.Light
import Derived.Deep.RegionHeld3
namespace Go.Proofs.YthbodpjkckminaaGreatDoor
open Go.RowKit

theorem block_add (a : Addr) (n : Nat) : (a.add n).block = a.block := by unfold Addr.add; split <;> rfl
theorem add_add_ (a : Addr) (i j : Nat) : (a.add i).add j = a.add (i + j) := by
  unfold Addr.add
  by_cases hi : i = 0 <;> by_cases hj : j = 0 <;> simp [hi, hj, Nat.add_assoc]

theorem below_drewN {B : Nat} {a w : World} (h : Below B a w) (n : Nat) : Below B a (w.drewN n) := ⟨h.os, h.tape, h.output, h.size, h.block⟩
theorem below_trans' {a w w' : World} {B : Nat} (h : Below B a w) (hB : B ≤ w.heap.size) (k : Below w.heap.size w w') : Below B a w' := h.trans (k.mono hB)

theorem ret_bool {a b : Bool} (h : a = b) : Ending.returned (.bool a) = .returned (.bool b) := by rw [h]
theorem ret_int {k : IntKind} {a b : Int} (h : a = b) : Ending.returned (.int k a) = .returned (.int k b) := by rw [h]

/-- A slice value '.slice A n c' reads as the list xs, each element by its cells. -/
structure Sl {α : Type} (w : World) (s : Nat) (enc : α → List Value) (A : Option Addr) (n : Nat) (xs : List α) : Prop where
  len : xs.length = n
  rd : 0 < n → ∃ ad, A = some ad ∧ ad.block < w.heap.size ∧ ∀ i x, xs[i]? = some x → ∀ j u, (enc x)[j]? = some u → w.cell? (ad.add (i * s + j)) = some u

section
variable {α : Type} {w w' : World} {s : Nat} {enc : α → List Value} {A : Option Addr} {n c : Nat} {xs : List α}

theorem Sl.keep (h : Sl w s enc A n xs) (hs : w.heap.size ≤ w'.heap.size) (hk : ∀ k, k < w.heap.size → w'.heap[k]? = w.heap[k]?) : Sl w' s enc A n xs :=
  ⟨h.len, fun hn => by
    obtain ⟨ad, e, hl, hc⟩ := h.rd hn
    exact ⟨ad, e, Nat.lt_of_lt_of_le hl hs, fun i x hx j u hu => (World.cell?_of_block (hk _ (by rw [block_add]; exact hl))).trans (hc i x hx j u hu)⟩⟩
theorem Sl.below (h : Sl w s enc A n xs) (hb : Below w.heap.size w w') : Sl w' s enc A n xs := h.keep hb.size hb.block
theorem Sl.drewN (h : Sl w s enc A n xs) (k : Nat) : Sl (w.drewN k) s enc A n xs := ⟨h.len, h.rd⟩
theorem Sl.nil : Sl w s enc none 0 ([] : List α) := ⟨rfl, fun h => absurd h (by omega)⟩
theorem Sl.at_ (h : Sl w s enc A n xs) {k : Nat} (hk : k < n) :
    ∃ ad, A = some ad ∧ ad.block < w.heap.size ∧ ∃ x, xs[k]? = some x ∧ ∀ j u, (enc x)[j]? = some u → w.cell? (ad.add (k * s + j)) = some u := by
  obtain ⟨ad, e, hl, hc⟩ := h.rd (by omega)
  have hx : xs[k]? = some (xs[k]'(by have := h.len; omega)) := List.getElem?_eq_getElem _
  exact ⟨ad, e, hl, _, hx, fun j u hu => hc k _ hx j u hu⟩
/-- A cut at the end: 's[:k]'. -/
theorem Sl.take (h : Sl w s enc A n xs) {k : Nat} (hk : k ≤ n) : Sl w s enc A k (xs.take k) :=
  ⟨by rw [List.length_take, h.len]; omega, fun hp => by
    obtain ⟨ad, e, hl, hc⟩ := h.rd (by omega)
    exact ⟨ad, e, hl, fun i x hx j u hu => hc i x (by rw [List.getElem?_take] at hx; split at hx <;> simp_all) j u hu⟩⟩

/-- A slice that the call owns: blocks from B on. -/
structure Own (w : World) (B : Nat) (e : TypeId) (s : Nat) (enc : α → List Value) (A : Option Addr) (n c : Nat) (xs : List α) : Prop where
  len : xs.length = n
  row : w.ownsRow B e s (.slice A n c) n (xs.flatMap enc)

variable {B : Nat} {e : TypeId}
def blk (A : Option Addr) : Option Nat := A.map (·.block)
theorem blk_own (A : Option Addr) (n c : Nat) : (Value.slice A n c).ownBlock = blk A := by cases A <;> rfl
/-- Two slices whose arrays differ. -/
def Apart (A A' : Option Addr) : Prop := ∀ g, blk A = some g → blk A' ≠ some g
theorem Apart.symm {A A' : Option Addr} (h : Apart A A') : Apart A' A := fun g hg hg' => h g hg' hg
theorem Apart.none_l {A : Option Addr} : Apart none A := fun g hg => by simp [blk] at hg
theorem Apart.none_r {A : Option Addr} : Apart A none := fun g _ hg => by simp [blk] at hg

theorem Own.nil_ (w : World) (B : Nat) (e : TypeId) (s : Nat) (enc : α → List Value) : Own w B e s enc none 0 0 ([] : List α) := ⟨rfl, World.ownsRow_nil w B e s⟩
theorem Own.lt (h : Own w B e s enc A n c xs) : ∀ k, blk A = some k → B ≤ k ∧ k < w.heap.size := fun k hk => h.row.lt k (by rw [blk_own]; exact hk)
theorem Own.keep {row : Option Nat} (h : Own w B e s enc A n c xs) (hg : w.grownBy w' row) (hd : ∀ k, row = some k → blk A ≠ some k) : Own w' B e s enc A n c xs :=
  ⟨h.len, h.row.kept hg (by
    rw [blk_own]
    rcases row with _ | k
    · cases hA : blk A with
      | none => exact .inl rfl
      | some g => exact .inr (by simp)
    · exact .inr (hd k rfl))⟩
theorem Own.alloc (h : Own w B e s enc A n c xs) (o : Obj) : Own (w.alloc o) B e s enc A n c xs := ⟨h.len, h.row.alloc o⟩
theorem Own.below (h : Own w B e s enc A n c xs) (hb : Below w.heap.size w w') : Own w' B e s enc A n c xs :=
  h.keep (row := none) ⟨hb.os, hb.tape, hb.output, hb.size, fun k hk _ => hb.block k hk⟩ (fun _ h => by cases h)
theorem Own.drewN (h : Own w B e s enc A n c xs) (k : Nat) : Own (w.drewN k) B e s enc A n c xs := ⟨h.len, h.row⟩

theorem getElem?_flat (henc : ∀ x : α, (enc x).length = s) : ∀ (xs : List α) (i : Nat) (x : α), xs[i]? = some x → ∀ j u, (enc x)[j]? = some u → (xs.flatMap enc)[i * s + j]? = some u
  | [], i, x, hx, _, _, _ => by simp at hx
  | y :: ys, i, x, hx, j, u, hu => by
    rw [List.flatMap_cons]
    rcases i with _ | i
    · simp only [List.getElem?_cons_zero, Option.some.injEq] at hx
      subst hx
      rw [Nat.zero_mul, Nat.zero_add, List.getElem?_append_left (by have := List.getElem?_eq_some_iff.1 hu; obtain ⟨h, _⟩ := this; exact h)]
      exact hu
    · rw [List.getElem?_append_right (by rw [henc y, Nat.add_mul]; omega), henc y, show (i + 1) * s + j - s = i * s + j by rw [Nat.add_mul]; omega]
      exact getElem?_flat henc ys i x (by simpa using hx) j u hu

theorem Own.sl (h : Own w B e s enc A n c xs) (henc : ∀ x : α, (enc x).length = s) : Sl w s enc A n xs := by
  refine ⟨h.len, fun hn => ?_⟩
  obtain ⟨g, cap, hv, _, hlt⟩ := h.row.form hn
  have hA : A = some ⟨g, 0, none⟩ := by injection hv
  subst hA
  exact ⟨_, rfl, hlt, fun i x hx j u hu => h.row.cells (g := g) rfl _ _ (getElem?_flat henc xs i x hx j u hu)⟩
theorem Own.form (h : Own w B e s enc A n c xs) (hn : 0 < n) : ∃ g, A = some ⟨g, 0, none⟩ ∧ B ≤ g ∧ g < w.heap.size := by
  obtain ⟨g, cap, hv, h1, hlt⟩ := h.row.form hn
  exact ⟨g, by injection hv, h1, hlt⟩
theorem Own.cap (h : Own w B e s enc A n c xs) : n ≤ c ∧ c ≤ maxLen := by
  rcases h.row.2 with ⟨hv, hn⟩ | ⟨g, cap, cur, hv, _, _, h1, h2, _⟩
  · injection hv with _ h3 h4; subst h3; subst h4; exact ⟨Nat.le_refl _, Nat.zero_le _⟩
  · injection hv with _ _ h4; subst h4; exact ⟨h1, h2⟩
theorem Own.pop {x : α} (h : Own w B e s enc A (n + 1) c (xs ++ [x])) (henc : ∀ x : α, (enc x).length = s) : Own w B e s enc A n c xs := by
  have hl : xs.length = n := by have := h.len; simp at this; exact this
  refine ⟨hl, ?_⟩
  have h2 := h.row
  obtain ⟨g, hA, _⟩ := h.form (by omega)
  subst hA
  rw [List.flatMap_append] at h2
  refine ownsRow_pop ?_ h2
  rw [← hl]
  clear h h2 hl
  induction xs with
  | nil => simp
  | cons y ys ih => rw [List.flatMap_cons, List.length_append, ih, henc, List.length_cons, Nat.add_mul]; omega

theorem Apart.push {A A' A2 : Option Addr} {α' : Type} {enc' : α' → List Value} {B' s' n' c' : Nat} {e' : TypeId} {xs' : List α'} (hd : Apart A A2) (ha : blk A' = blk A ∨ blk A' = some w.heap.size) (h2 : Own w B' e' s' enc' A2 n' c' xs') : Apart A' A2 := by
  intro g hg h2g
  rcases ha with ha | ha
  · exact hd g (ha.symm.trans hg) h2g
  · have := (h2.lt g h2g).2
    rw [ha] at hg
    injection hg with hg
    omega

/-- The element type e of the slice type t: s cells, b bytes each. -/
def Elem (P : Program) (t e : TypeId) (s b : Nat) : Prop := P.underlying t = some (.slice e) ∧ ∃ i z, P.info? e = some i ∧ i.zero = some z ∧ i.size = s ∧ i.bytes = b ∧ z.cells.size = s ∧ 0 < s
theorem Elem.mk {P : Program} {t e : TypeId} {s b : Nat} {z : Value} (ht : P.underlying t = some (.slice e)) (h : (P.info? e).map (fun i => (i.zero, i.size, i.bytes)) = some (some z, s, b)) (hz : z.cells.size = s) (hs : 0 < s) : Elem P t e s b := by
  obtain ⟨i, h1, h2, h3, h4⟩ := info_parts h
  exact ⟨ht, i, z, h1, h2, h3, h4, hz, hs⟩

variable {P : Program} {t : TypeId} {b : Nat}
/-- 's = append(s, x)': x lies in a block of its own, just made. -/
theorem wpList_push (T : Elem P t e s b) {ops : Array Oper} {rest : List Oper} {o : Oper} {a : Act} {Q : Exit → Act → World → Prop} (hgd : o.guard = none) (sx ox : Operand)
    (ho : o.op = .call { callee := .builtin .append, args := #[sx, ox], argTypes := #[t, t] })
    (hs : a.eval sx = .slice A n c) (g : Nat) (hx : a.eval ox = .slice (some ⟨g, 0, none⟩) 1 1) (hown : Own w B e s enc A n c xs) (x : α) (ws : World)
    (hw : w = ws.alloc (.cells (enc x).toArray e)) (hg : g = ws.heap.size) (h1 : ∀ u ∈ enc x, u.oneCell' = true) (hl : (enc x).length = s)
    (hn : (n + 1) * b ≤ 140737488355328 ∧ n + 1 ≤ maxLen) (hB : B ≤ w.heap.size)
    (h : ∀ A' c' w', Own w' B e s enc A' (n + 1) c' (xs ++ [x]) → w.grownBy w' (blk A) → (blk A' = blk A ∨ blk A' = some w.heap.size) → wpList P ops Q rest (a.put o.dst (.slice A' (n + 1) c')) w') :
    wpList P ops Q (o :: rest) a w := by
  obtain ⟨ht, i, z, hi, hz, hsz, hb, hzs, hs0⟩ := T
  subst hg
  refine wpList_append_own_at w hgd sx ox t ho B e i z s b ht hi hz hsz hb hzs hs0 (.slice A n c) n (xs.flatMap enc) hs hown.row ⟨ws.heap.size, 0, none⟩ 1 1 (enc x) hx (by omega) ?_ h1 hn.2 hn.1 hB ?_
  · intro j u hu
    subst hw
    have := World.news_of_block (w := ws.alloc (.cells (enc x).toArray e)) (B := ws.heap.size) (cs := (enc x).toArray) (t := e) (fr := (0, 0)) (heap_alloc_new ws _) j u (by simpa using hu)
    exact this
  · intro v' w' hown' hg hnil hat
    obtain ⟨g', cap, hv, _, _⟩ := hown'.form (by omega)
    subst hv
    rw [blk_own] at hg hat
    exact h (some ⟨g', 0, none⟩) cap w' ⟨by rw [List.length_append, hown.len]; rfl, by rw [List.flatMap_append]; simpa using hown'⟩ hg (by rw [blk_own] at hat; exact hat)
end

section
variable {α : Type} {w w' : World} {s : Nat} {enc : α → List Value} {A : Option Addr} {n c : Nat} {xs : List α} {B : Nat} {e : TypeId} {P : Program} {t : TypeId} {b : Nat}
theorem flat_len (henc : ∀ x : α, (enc x).length = s) : ∀ ys : List α, (ys.flatMap enc).length = ys.length * s
  | [] => by simp
  | y :: ys => by rw [List.flatMap_cons, List.length_append, henc, flat_len henc ys, List.length_cons, Nat.add_mul]; omega
/-- 's = append(s, x, y, ..)': what is appended lies in a block of its own, just made. -/
theorem wpList_pushN (T : Elem P t e s b) (henc : ∀ x : α, (enc x).length = s) (hone : ∀ x : α, ∀ u ∈ enc x, u.oneCell' = true) {ops : Array Oper} {rest : List Oper} {o : Oper} {a : Act} {Q : Exit → Act → World → Prop} (hgd : o.guard = none) (sx ox : Operand)
    (ho : o.op = .call { callee := .builtin .append, args := #[sx, ox], argTypes := #[t, t] })
    (hs : a.eval sx = .slice A n c) (g m cm : Nat) (hx : a.eval ox = .slice (some ⟨g, 0, none⟩) m cm) (hown : Own w B e s enc A n c xs) (ys : List α) (ws : World)
    (hw : w = ws.alloc (.cells (ys.flatMap enc).toArray e)) (hg : g = ws.heap.size) (hm : m = ys.length) (h0 : 0 < m)
    (hn : (n + m) * b ≤ 140737488355328 ∧ n + m ≤ maxLen) (hB : B ≤ w.heap.size)
    (h : ∀ A' c' w', Own w' B e s enc A' (n + m) c' (xs ++ ys) → w.grownBy w' (blk A) → (blk A' = blk A ∨ blk A' = some w.heap.size) → wpList P ops Q rest (a.put o.dst (.slice A' (n + m) c')) w') :
    wpList P ops Q (o :: rest) a w := by
  obtain ⟨ht, i, z, hi, hz, hsz, hb, hzs, hs0⟩ := T
  subst hg
  refine wpList_append_own_at w hgd sx ox t ho B e i z s b ht hi hz hsz hb hzs hs0 (.slice A n c) n (xs.flatMap enc) hs hown.row ⟨ws.heap.size, 0, none⟩ m cm (ys.flatMap enc) hx (by rw [flat_len henc, hm]) ?_ ?_ hn.2 hn.1 hB ?_
  · intro j u hu
    subst hw
    have := World.news_of_block (w := ws.alloc (.cells (ys.flatMap enc).toArray e)) (B := ws.heap.size) (cs := (ys.flatMap enc).toArray) (t := e) (fr := (0, 0)) (heap_alloc_new ws _) j u (by simpa using hu)
    exact this
  · intro u hu
    obtain ⟨y, _, hy⟩ := List.mem_flatMap.1 hu
    exact hone y u hy
  · intro v' w' hown' hg hnil hat
    obtain ⟨g', cap, hv, _, _⟩ := hown'.form (by omega)
    subst hv
    rw [blk_own] at hg hat
    exact h (some ⟨g', 0, none⟩) cap w' ⟨by rw [List.length_append, hown.len, hm], by rw [List.flatMap_append]; exact hown'⟩ hg (by rw [blk_own] at hat; exact hat)
end

/-- A block known whole: its cells, none of them frozen. -/
def Blk (w : World) (g : Nat) (t : TypeId) (cs : Array Value) : Prop := w.heap[g]? = some (.cells cs t (0, 0))
section
variable {w w' : World} {g : Nat} {t : TypeId} {cs : Array Value}
theorem Blk.lt (h : Blk w g t cs) : g < w.heap.size := (Array.getElem?_eq_some_iff.1 h).1
theorem Blk.cell (h : Blk w g t cs) (i : Nat) {u : Value} (hu : cs[i]? = some u) : w.cell? ⟨g, i, none⟩ = some u := (cell_of_row w g i cs t (0, 0) h).trans hu
theorem Blk.frozen (h : Blk w g t cs) (i : Nat) : w.frozen? ⟨g, i, none⟩ = false := by
  unfold Blk at h
  simp [World.frozen?, h]
theorem Blk.new (w : World) (t : TypeId) (cs : Array Value) : Blk (w.alloc (.cells cs t)) w.heap.size t cs := heap_alloc_new w _
theorem Blk.drewN (h : Blk w g t cs) (n : Nat) : Blk (w.drewN n) g t cs := h
theorem Blk.alloc (h : Blk w g t cs) (o : Obj) : Blk (w.alloc o) g t cs := (Below.heap_alloc w o g h.lt).trans h
theorem Blk.set_ (h : Blk w g t cs) (i : Nat) (u : Value) : Blk (w.setCell ⟨g, i, none⟩ u) g t (cs.setIfInBounds i u) := by
  unfold Blk at h ⊢
  simp [World.setCell, Array.getElem?_modify, h]
theorem Blk.keep {row : Option Nat} (h : Blk w g t cs) (hb : w.grownBy w' row) (hg : row ≠ some g) : Blk w' g t cs := (hb.block g h.lt (fun e => hg e.symm)).trans h
theorem Blk.below (h : Blk w g t cs) (hb : Below w.heap.size w w') : Blk w' g t cs := (hb.block g h.lt).trans h
end
theorem only_drewN {a w : World} {row : Option Nat} (h : a.grownBy w row) (n : Nat) : a.grownBy (w.drewN n) row := ⟨h.os, h.tape, h.output, h.size, h.block⟩
theorem only_alloc {a w : World} {row : Option Nat} (h : a.grownBy w row) (o : Obj) : a.grownBy (w.alloc o) row :=
  ⟨h.os, h.tape, h.output, Nat.le_trans h.size (by simp), fun i hi hne => (Below.heap_alloc w o i (Nat.lt_of_lt_of_le hi h.size)).trans (h.block i hi hne)⟩
theorem only_set {a w : World} {g : Nat} (h : a.grownBy w (some g)) (i : Nat) (u : Value) : a.grownBy (w.setCell ⟨g, i, none⟩ u) (some g) :=
  ⟨h.os, h.tape, h.output, by simpa [World.setCell] using h.size, fun k hk hne => (Below.heap_setCell w _ u k (fun e => hne (by rw [e]))).trans (h.block k hk hne)⟩

def intC (x : Int) : List Value := [.int .i64 x]
def byteC (x : Int) : List Value := [.int .u8 x]
theorem byteC_len (x : Int) : (byteC x).length = 1 := rfl
theorem byteC_one (x : Int) : ∀ u ∈ byteC x, u.oneCell' = true := by intro u hu; simp [byteC] at hu; subst hu; rfl
theorem intC_len (x : Int) : (intC x).length = 1 := rfl
theorem intC_one (x : Int) : ∀ u ∈ intC x, u.oneCell' = true := by intro u hu; simp [intC] at hu; subst hu; rfl
/-- Element k (0 beyond the end). -/
def gI (xs : List Int) (k : Nat) : Int := xs.getD k 0
theorem gI_some {xs : List Int} {k : Nat} (h : k < xs.length) : xs[k]? = some (gI xs k) := by
  unfold gI; rw [List.getD_eq_getElem?_getD, List.getElem?_eq_getElem h]; rfl
theorem gI_append_left {xs ys : List Int} {k : Nat} (h : k < xs.length) : gI (xs ++ ys) k = gI xs k := by
  unfold gI; rw [List.getD_eq_getElem?_getD, List.getD_eq_getElem?_getD, List.getElem?_append_left h]
theorem gI_last (xs : List Int) (x : Int) : gI (xs ++ [x]) xs.length = x := by
  unfold gI; rw [List.getD_eq_getElem?_getD, List.getElem?_append_right (Nat.le_refl _)]; simp
theorem take_snocI {xs : List Int} {k : Nat} (h : k < xs.length) : xs.take (k + 1) = xs.take k ++ [gI xs k] := by
  rw [List.take_add_one, gI_some h]; rfl
theorem gI_range (f : Nat → Int) {n k : Nat} (h : k < n) : gI ((List.range n).map f) k = f k := by
  unfold gI; rw [List.getD_eq_getElem?_getD, List.getElem?_map, List.getElem?_range h]; rfl
theorem World.ownsRow_base {w : World} {B B' s n : Nat} {e : TypeId} {v : Value} {xs : List Value} (h : w.ownsRow B e s v n xs) (hB : B' ≤ B) : w.ownsRow B' e s v n xs := by
  obtain ⟨h1, h2⟩ := h
  refine ⟨h1, ?_⟩
  rcases h2 with h2 | ⟨g, cap, cur, hv, hg, r⟩
  · exact .inl h2
  · exact .inr ⟨g, cap, cur, hv, Nat.le_trans hB hg, r⟩
theorem Own.base {α : Type} {w : World} {B B' s n c : Nat} {e : TypeId} {enc : α → List Value} {A : Option Addr} {xs : List α} (h : Own w B e s enc A n c xs) (hB : B' ≤ B) : Own w B' e s enc A n c xs := ⟨h.len, World.ownsRow_base h.row hB⟩
/-- A literal: cells that lie in a block just made. -/
theorem Own.lit {α : Type} {w : World} {B s : Nat} {e : TypeId} {enc : α → List Value} {xs : List α} (hB : B ≤ w.heap.size) (hl : (xs.flatMap enc).length = xs.length * s) (hm : xs.length ≤ maxLen) :
    Own (w.alloc (.cells (xs.flatMap enc).toArray e)) B e s enc (some ⟨w.heap.size, 0, none⟩) xs.length xs.length xs :=
  ⟨rfl, hl, .inr ⟨w.heap.size, xs.length, _, rfl, hB, heap_alloc_new w _, Nat.le_refl _, hm, by simpa using hl, by rw [← hl]; exact List.take_length ..⟩⟩
theorem flat_int (ys : List Int) : ys.flatMap intC = ys.map (Value.int .i64) := by
  induction ys with
  | nil => rfl
  | cons y ys ih => rw [List.flatMap_cons, ih]; rfl
theorem Sl.int {w : World} {A : Option Addr} {n : Nat} {xs : List Int} (h : Sl w 1 intC A n xs) {k : Nat} (hk : k < n) :
    ∃ ad, A = some ad ∧ ad.block < w.heap.size ∧ w.cell? (ad.add k) = some (.int .i64 (gI xs k)) := by
  obtain ⟨ad, e, hl, hc⟩ := h.rd (by omega)
  refine ⟨ad, e, hl, ?_⟩
  have := hc k _ (gI_some (by rw [h.len]; exact hk)) 0 _ (show (intC (gI xs k))[0]? = some _ from rfl)
  simpa using this
theorem Own.field {α : Type} {w : World} {B s : Nat} {e : TypeId} {enc : α → List Value} {A : Option Addr} {n c : Nat} {xs : List α} (h : Own w B e s enc A n c xs) (henc : ∀ x : α, (enc x).length = s) {k : Nat} (hk : k < n) :
    ∃ g x, A = some ⟨g, 0, none⟩ ∧ B ≤ g ∧ g < w.heap.size ∧ xs[k]? = some x ∧ ∀ j u, (enc x)[j]? = some u → w.cell? ⟨g, k * s + j, none⟩ = some u := by
  obtain ⟨g, hA, hB, hg⟩ := h.form (by omega)
  subst hA
  obtain ⟨ad, e, _, x, hx, hc⟩ := (h.sl henc).at_ hk
  cases e
  refine ⟨g, x, rfl, hB, hg, hx, fun j u hu => ?_⟩
  rw [← hc j u hu]
  unfold Addr.add
  by_cases h0 : k * s + j = 0
  · rw [h0]; rfl
  · rw [if_neg h0]; simp only [Nat.zero_add]
theorem Own.int {w : World} {B : Nat} {e : TypeId} {A : Option Addr} {n c : Nat} {xs : List Int} (h : Own w B e 1 intC A n c xs) {k : Nat} (hk : k < n) :
    ∃ g, A = some ⟨g, 0, none⟩ ∧ B ≤ g ∧ g < w.heap.size ∧ w.cell? ⟨g, k, none⟩ = some (.int .i64 (gI xs k)) := by
  obtain ⟨g, hA, hB, hg⟩ := h.form (by omega)
  subst hA
  obtain ⟨ad, e, _, hc⟩ := (h.sl intC_len).int hk
  cases e
  refine ⟨g, rfl, hB, hg, ?_⟩
  rw [← hc]
  unfold Addr.add
  by_cases h0 : k = 0
  · subst h0; rfl
  · simp [h0]
end Go.Proofs.YthbodpjkckminaaGreatDoor



namespace Go.Proofs.YthbodpjkckminaaGreatDoor
open Go.RowKit

section
variable {P : Program} {ops : Array Oper} {Q : Exit → Act → World → Prop} {md : Region.Mode} {S : World → Prop} {fuel : Nat} {listed : Array Bool} {a : Act} {w : World} {o : Oper}
/-- operation i comes up next. -/
def StepH (P : Program) (md : Region.Mode) (ops : Array Oper) (Q : Exit → Act → World → Prop) (S : World → Prop) (fuel : Nat) (listed : Array Bool) (a : Act) (w : World) (i : Nat) : Prop :=
  wpOp P ops Q i (fun a' w' => S w' ∧ wpAnyH P md ops Q S fuel (listed.setIfInBounds i true) a' w') a w
theorem hx_take (i : Nat) (d : Option Tmp) (v : Value) (hi : ops[i]? = some o) (hs : Region.noSelect ops = true) (hf : Region.free md ops listed i = true) (hr : (Region.ready md ops listed).contains i = true)
    (hQ : ∀ c a w, Q (.panic c) (a.put o.dst v) w → Q (.panic c) a w) (hd : o.dst = d) (hy : YieldsIf P ops S o v a) (hS : S w)
    (h : wpAnyH P md ops Q S fuel (listed.setIfInBounds i true) (a.put d v) w) : wpAnyH P md ops Q S (fuel + 1) listed a w := by
  subst hd
  exact wpAnyH_take hi hs hf hr hQ hy hS h
theorem hx1 (i : Nat) (hr : Region.ready md ops listed = [i]) (h : StepH P md ops Q S fuel listed a w i) : wpAnyH P md ops Q S (fuel + 1) listed a w :=
  wpAnyH_ready hr (by simp) fun j hj => by
    rcases List.mem_singleton.1 hj with rfl
    exact h
theorem hx2 (i j : Nat) (hr : Region.ready md ops listed = [i, j]) (h : StepH P md ops Q S fuel listed a w i) (h' : StepH P md ops Q S fuel listed a w j) : wpAnyH P md ops Q S (fuel + 1) listed a w :=
  wpAnyH_ready hr (by simp) fun k hk => by
    rcases List.mem_cons.1 hk with rfl | hk
    · exact h
    · rcases List.mem_singleton.1 hk with rfl
      exact h'
theorem hx3 (i j k : Nat) (hr : Region.ready md ops listed = [i, j, k]) (h : StepH P md ops Q S fuel listed a w i) (h' : StepH P md ops Q S fuel listed a w j) (h'' : StepH P md ops Q S fuel listed a w k) : wpAnyH P md ops Q S (fuel + 1) listed a w :=
  wpAnyH_ready hr (by simp) fun l hl => by
    rcases List.mem_cons.1 hl with rfl | hl
    · exact h
    · rcases List.mem_cons.1 hl with rfl | hl
      · exact h'
      · rcases List.mem_singleton.1 hl with rfl
        exact h''
theorem hx_wp (i : Nat) (ho : ops[i]? = some o) (hw : Region.wanted o (yielded ops a.tmps) = true) (h : Oper.wp P o a w (fun a' w' => S w' ∧ wpAnyH P md ops Q S fuel (listed.setIfInBounds i true) a' w') Q) : StepH P md ops Q S fuel listed a w i := by
  unfold StepH wpOp
  rw [ho]
  show if Region.wanted o (yielded ops a.tmps) = true then _ else _
  rw [if_pos hw]
  exact .inl h
/-- any operation, handed over behind a letter. -/
theorem hx_step (i : Nat) (ho : ops[i]? = some o) (hw : Region.wanted o (yielded ops a.tmps) = true) (h : ∀ K : Act → World → Prop, Hid (∀ a' w', S w' → wpAnyH P md ops Q S fuel (listed.setIfInBounds i true) a' w' → K a' w') → Oper.wp P o a w K Q) : StepH P md ops Q S fuel listed a w i :=
  hx_wp i ho hw (h _ (Lib.hid fun _ _ h1 h2 => ⟨h1, h2⟩))
/-- a call of a Go function, by its contract. -/
theorem hx_call (i : Nat) (d : Option Tmp) (f : Nat) (args : Array Value) (v : Value) (R : World → Prop) (ho : ops[i]? = some o) (hw : Region.wanted o (yielded ops a.tmps) = true) (hd : o.dst = d) (he : (execOp a.eval o).run P w = .ok (.enter f args) w)
    (hc : Calls P f args w fun e w' => e = .returned v ∧ R w') (h : ∀ w', R w' → S w' ∧ wpAnyH P md ops Q S fuel (listed.setIfInBounds i true) (a.put d v) w') : StepH P md ops Q S fuel listed a w i := by
  refine hx_wp i ho hw ?_
  unfold Oper.wp
  rw [he, Oper.upon_enter]
  refine hc.mono ?_
  rintro e w' ⟨rfl, hR⟩
  subst hd
  exact h w' hR
/-- an operation that yields a value, and may make memory. -/
theorem hx_val (i : Nat) (d : Option Tmp) (v : Value) (w' : World) (ho : ops[i]? = some o) (hw : Region.wanted o (yielded ops a.tmps) = true) (hd : o.dst = d) (he : (execOp a.eval o).run P w = .ok (.value v) w') (hS : S w')
    (h : wpAnyH P md ops Q S fuel (listed.setIfInBounds i true) (a.put d v) w') : StepH P md ops Q S fuel listed a w i := by
  refine hx_wp i ho hw ?_
  unfold Oper.wp
  rw [he, Oper.upon_value]
  subst hd
  exact ⟨hS, h⟩
/-- an operation whose guard says no. -/
theorem hx_skip (i : Nat) (d : Option Tmp) (ho : ops[i]? = some o) (hw : Region.wanted o (yielded ops a.tmps) = false) (hd : o.dst = d) (hS : S w)
    (h : wpAnyH P md ops Q S fuel (listed.setIfInBounds i true) (a.put d undef) w) : StepH P md ops Q S fuel listed a w i := by
  unfold StepH wpOp
  rw [ho]
  show if Region.wanted o (yielded ops a.tmps) = true then _ else _
  rw [if_neg (by rw [hw]; simp)]
  subst hd
  exact ⟨hS, h⟩
/-- the store of a row into a block. -/
theorem hx_store (i : Nat) (ty : TypeId) (x y : Operand) (g : Nat) (l : List Value) (ho : ops[i]? = some o) (hw : Region.wanted o (yielded ops a.tmps) = true) (hd : o.dst = none) (hop : o.op = .store ty x y) (hx : a.eval x = .pointer (some ⟨g, 0, none⟩)) (hy : a.eval y = .agg l.toArray)
    (ht : w.there g 0 l.length) (hi : (P.info? ty).map (·.size) = some l.length) (h1 : ∀ v ∈ l, v.oneCell' = true) (hS : S (w.setCells g 0 l))
    (h : wpAnyH P md ops Q S fuel (listed.setIfInBounds i true) a (w.setCells g 0 l)) : StepH P md ops Q S fuel listed a w i := by
  refine hx_wp i ho hw ?_
  refine wp_store_mid ty x y hop g 0 l.toArray hx hy (by simpa using ht) (by simpa using hi) (all_oneCell_toArray h1) ?_
  rw [hd]
  exact ⟨hS, by simpa [Act.put] using h⟩
/-- in a plain region: a load of a row that is guarded, where the guard says yes. -/
theorem wpList_load_g {rest : List Oper} (hw : Region.wanted o (yielded ops a.tmps) = true) (ty : TypeId) (x : Operand) (ho : o.op = .load ty x)
    (b q : Nat) (hx : a.eval x = .pointer (some ⟨b, q, none⟩)) (cs : List Value) (d : TypeDesc) (hc : w.rangeAt b q cs)
    (hu : P.underlying ty = some d) (hd : d.isRow = true) (hi : (P.info? ty).map (·.size) = some cs.length)
    (h : wpList P ops Q rest (a.put o.dst (.agg cs.toArray)) w) : wpList P ops Q (o :: rest) a w :=
  wpList_step fun K hK => by
    show if Region.wanted o (yielded ops a.tmps) = true then _ else _
    rw [if_pos hw]
    exact wp_load_mid ty x ho b q hx cs d hc hu hd hi (hK _ _ h)
end
end Go.Proofs.YthbodpjkckminaaGreatDoor
