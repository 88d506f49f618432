/- append to a full slice; the search, plain. -/
import Derived.Test.YtogbapdioccamaaE38
import Derived.ArgAppend
import Derived.Deep.RegionLawGrows
namespace Go.Proofs.Ytogbapdioccamaa
open Go.RowKit

theorem flat_get {xs : List Int} {j : Nat} {u : Value} (h : (xs.map (Value.int .i64))[j]? = some u) : ∃ x, xs[j]? = some x ∧ u = .int .i64 x := by
  rw [List.getElem?_map] at h
  cases hx : xs[j]? with
  | none => rw [hx] at h; cases h
  | some x => rw [hx] at h; injection h with h; exact ⟨x, rfl, h.symm⟩
theorem Sl.reads {w : World} {ad : Addr} {n : Nat} {xs : List Int} (h : Sl w 1 intC (some ad) n xs) (j : Nat) (u : Value) (hu : (xs.map (Value.int .i64))[j]? = some u) : w.cell? (ad.add j) = some u := by
  obtain ⟨x, hx, rfl⟩ := flat_get hu
  have hj := (List.getElem?_eq_some_iff.1 hx).1
  obtain ⟨ad2, e, _, hc⟩ := h.rd (by have := h.len; omega)
  injection e with e
  subst e
  have := hc j x hx 0 _ rfl
  rw [Nat.mul_one, Nat.add_zero] at this
  exact this
theorem own_of_row {w : World} {B : Nat} {e : TypeId} {v : Value} {k : Nat} {xs : List Int} (hk : 0 < k) (hl : xs.length = k) (h : w.ownsRow B e 1 v k (xs.map (Value.int .i64))) : ∃ A c, v = .slice A k c ∧ Own w B e 1 intC A k c xs := by
  obtain ⟨g, cap, hv, _, _⟩ := h.form hk
  subst hv
  exact ⟨_, _, rfl, hl, by rw [flat_int]; exact h⟩
/-- append to a slice that is full, as one step of a region. -/
theorem step_grow {P : Program} {t e : TypeId} {b : Nat} (T : Elem P t e 1 b) (hb8 : b ≤ 1024) {ops : Array Oper} {o : Oper} {a : Act} {w : World} {K : Act → World → Prop} {Q : Exit → Act → World → Prop} {E : Prop}
    (hg : o.guard = none) (s x : Operand) (hop : o.op = Op.call { callee := Callee.builtin Builtin.append, args := #[s, x], argTypes := #[t, t] })
    (A : Option Addr) (n cap : Nat) (xs : List Int) (hs : a.eval s = .slice A n cap) (hnone : A = none → n = 0 ∧ cap = 0) (hS : Sl w 1 intC A n xs)
    (ad : Addr) (m c : Nat) (ys : List Int) (hx : a.eval x = .slice (some ad) m c) (hN : Sl w 1 intC (some ad) m ys) (hfull : cap < n + m) (b1 : n + m ≤ 8192)
    (hK : ∀ A' c' w', Own w' w.heap.size e 1 intC A' (n + m) c' (xs ++ ys) → w.grownBy w' none → K (a.put o.dst (.slice A' (n + m) c')) w') :
    if Region.wanted o (yielded ops a.tmps) = true then Oper.wp P o a w K Q else E := by
  obtain ⟨ht, i, z, h1, h2, h3, h4, h5, h6⟩ := T
  refine step_append_grows hg s x t hop e i z 1 b ht h1 h2 h3 h4 h5 (by omega) A n cap (xs.map (Value.int .i64)) hs hnone (by rw [List.length_map, hS.len, Nat.mul_one]) (fun q hq j u hu => by subst hq; exact hS.reads j u hu) ad m c (ys.map (Value.int .i64)) hx (by rw [List.length_map, hN.len, Nat.mul_one]) (fun j u hu => hN.reads j u hu) (fun u hu => ?_) hfull (by unfold maxLen; omega) ?_ ?_
  · obtain ⟨y, _, rfl⟩ := List.mem_map.1 hu
    rfl
  · have : (n + m) * b ≤ 8192 * 1024 := Nat.mul_le_mul b1 hb8
    omega
  · intro v' w' hown hgr
    rw [← List.map_append] at hown
    obtain ⟨A', c', rfl, ho⟩ := own_of_row (by omega) (by rw [List.length_append, hS.len, hN.len]) hown
    exact hK A' c' w' ho hgr
/-- .. in a walk. -/
theorem wpList_grow {P : Program} {t e : TypeId} {b : Nat} (T : Elem P t e 1 b) (hb8 : b ≤ 1024) {w : World} {ops : Array Oper} {rest : List Oper} {o : Oper} {a : Act} {Q : Exit → Act → World → Prop}
    (hg : o.guard = none) (s x : Operand) (hop : o.op = Op.call { callee := Callee.builtin Builtin.append, args := #[s, x], argTypes := #[t, t] })
    (A : Option Addr) (n cap : Nat) (xs : List Int) (hs : a.eval s = .slice A n cap) (hnone : A = none → n = 0 ∧ cap = 0) (hS : Sl w 1 intC A n xs)
    (ad : Addr) (m c : Nat) (ys : List Int) (hx : a.eval x = .slice (some ad) m c) (hN : Sl w 1 intC (some ad) m ys) (hfull : cap < n + m) (b1 : n + m ≤ 8192)
    (hK : ∀ A' c' w', Own w' w.heap.size e 1 intC A' (n + m) c' (xs ++ ys) → w.grownBy w' none → wpList P ops Q rest (a.put o.dst (.slice A' (n + m) c')) w') :
    wpList P ops Q (o :: rest) a w := by
  obtain ⟨ht, i, z, h1, h2, h3, h4, h5, h6⟩ := T
  refine wpList_append_grows w hg s x t hop e i z 1 b ht h1 h2 h3 h4 h5 (by omega) A n cap (xs.map (Value.int .i64)) hs hnone (by rw [List.length_map, hS.len, Nat.mul_one]) (fun q hq j u hu => by subst hq; exact hS.reads j u hu) ad m c (ys.map (Value.int .i64)) hx (by rw [List.length_map, hN.len, Nat.mul_one]) (fun j u hu => hN.reads j u hu) (fun u hu => ?_) hfull (by unfold maxLen; omega) ?_ ?_
  · obtain ⟨y, _, rfl⟩ := List.mem_map.1 hu
    rfl
  · have : (n + m) * b ≤ 8192 * 1024 := Nat.mul_le_mul b1 hb8
    omega
  · intro v' w' hown hgr
    rw [← List.map_append] at hown
    obtain ⟨A', c', rfl, ho⟩ := own_of_row (by omega) (by rw [List.length_append, hS.len, hN.len]) hown
    exact hK A' c' w' ho hgr

section
variable (xs : List It) (ms : List Int)
def costF (t : List Nat) : Int := costN xs ms t t.length
def fmQ (pre r : List Nat) (acc : Acc) : Acc := fm (costF xs ms) ((seqM xs r).map (pre ++ ·)) acc
theorem fmQ_nil (pre : List Nat) (acc : Acc) : fmQ xs ms pre [] acc = better acc (pre, costF xs ms pre) := by
  show fm _ [pre ++ []] acc = _
  rw [List.append_nil]
  rfl
theorem fmQ_cons (pre : List Nat) (b : Nat) (r : List Nat) (acc : Acc) : fmQ xs ms pre (b :: r) acc = if fbm xs b = true then fmQ xs ms (pre ++ [b]) r acc else fmQ xs ms pre r (fmQ xs ms (pre ++ [b]) r acc) := by
  unfold fmQ
  have e : seqM xs (b :: r) = (seqM xs r).map (b :: ·) ++ (if fbm xs b = true then [] else seqM xs r) := rfl
  have e2 : ((seqM xs r).map (b :: ·)).map (pre ++ ·) = (seqM xs r).map ((pre ++ [b]) ++ ·) := by
    rw [List.map_map]
    refine List.map_congr_left fun s _ => ?_
    show pre ++ (b :: s) = _
    rw [List.append_assoc]
    rfl
  rw [e, List.map_append, fm_append, e2]
  split
  · rfl
  · rfl
theorem fmQ_all {n m : Nat} (G : Good xs ms n m) (hl : xs.length = n) : fmQ xs ms [] (posN xs) none = some (breaksL xs ms, bestV xs ms) := by
  unfold fmQ
  have e : (seqM xs (posN xs)).map ([] ++ ·) = seqM xs (posN xs) := (List.map_congr_left (fun s _ => List.nil_append s)).trans (List.map_id _)
  rw [e, ← G.fm_ hl]
  congr 1
  funext s
  exact costN_cos s
/-- what the search's place says: whatever is chosen from here on is right, and not empty. -/
def Fits (L pre r : List Nat) : Prop := ∀ s ∈ seqM xs r, pre ++ s ∈ seqM xs L ∧ pre ++ s ≠ []
theorem Fits.take {L pre r : List Nat} {b : Nat} (h : Fits xs L pre (b :: r)) : Fits xs L (pre ++ [b]) r := fun s hs => by
  have := h (b :: s) (by
    show b :: s ∈ (seqM xs r).map (b :: ·) ++ (if fbm xs b = true then [] else seqM xs r)
    exact List.mem_append_left _ (List.mem_map.2 ⟨s, hs, rfl⟩))
  rw [List.append_assoc]
  exact this
theorem Fits.skip {L pre r : List Nat} {b : Nat} (h : Fits xs L pre (b :: r)) (hf : fbm xs b = false) : Fits xs L pre r := fun s hs => h s (by
    show s ∈ (seqM xs r).map (b :: ·) ++ (if fbm xs b = true then [] else seqM xs r)
    rw [if_neg (by rw [hf]; simp)]
    exact List.mem_append_right _ hs)
theorem Fits.leaf {L pre : List Nat} (h : Fits xs L pre []) : pre ∈ seqM xs L ∧ pre ≠ [] := by
  have := h [] (List.mem_singleton.2 rfl)
  rw [List.append_nil] at this
  exact this
theorem Fits.start {n m : Nat} (G : Good xs ms n m) (hl : xs.length = n) : Fits xs (posN xs) [] (posN xs) := fun s hs => by
  rw [List.nil_append]
  refine ⟨hs, fun e => ?_⟩
  subst e
  have hb := brok_of_seq hl hs
  obtain ⟨h1, h2⟩ := posN_last hl G.n0 G.F
  have h3 := hb.all _ (gN_mem (show (posN xs).length - 1 < (posN xs).length by omega)) (by rw [(h2 _ (by omega)).2 (by omega)]; exact G.F)
  simp at h3
end
/-- what the search holds: nothing yet, or breaks and their cost. -/
def AccV (w : World) (g : Nat) (acc : Acc) (V : Value) (v : Int) : Prop :=
  match acc with
  | none => V = .slice none 0 0 ∧ v = 0
  | some x => ∃ g2 c2, V = .slice (some ⟨g2, 0, none⟩) x.1.length c2 ∧ g2 ≠ g ∧ x.1 ≠ [] ∧ v = x.2 ∧ Sl w 1 intC (some ⟨g2, 0, none⟩) x.1.length (ints x.1)
theorem Sl.grown {α : Type} {w w' : World} {s g n : Nat} {enc : α → List Value} {A : Option Addr} {xs : List α} (hS : Sl w s enc A n xs) (hg : w.grownBy w' (some g)) (hne : ∀ ad, A = some ad → ad.block ≠ g) : Sl w' s enc A n xs := by
  refine ⟨hS.len, fun hn => ?_⟩
  obtain ⟨ad, e, hl, hc⟩ := hS.rd hn
  refine ⟨ad, e, Nat.lt_of_lt_of_le hl hg.size, fun i x hx j u hu => (World.cell?_of_block ?_).trans (hc i x hx j u hu)⟩
  rw [block_add]
  exact hg.block _ hl (by intro e2; injection e2 with e2; exact hne ad e e2)
theorem AccV.grown {w w' : World} {g : Nat} {acc : Acc} {V : Value} {v : Int} (h : AccV w g acc V v) (hg : w.grownBy w' (some g)) : AccV w' g acc V v := by
  cases acc with
  | none => exact h
  | some x =>
    obtain ⟨g2, c2, h1, h2, h3, h4, h5⟩ := h
    exact ⟨g2, c2, h1, h2, h3, h4, h5.grown hg (fun ad e => by injection e with e; subst e; exact h2)⟩
theorem grown_some {w w' : World} {g : Nat} (h : w.grownBy w' none) : w.grownBy w' (some g) := ⟨h.os, h.tape, h.output, h.size, fun k hk _ => h.block k hk (by simp)⟩
theorem grown_of_below {w w' : World} {g : Nat} (h : Below w.heap.size w w') : w.grownBy w' (some g) := ⟨h.os, h.tape, h.output, h.size, fun k hk _ => h.block k hk⟩
end Go.Proofs.Ytogbapdioccamaa
