/- the map of the choices. -/
import Derived.Test.YtogbapdioccamaaE14
import Derived.Maps.Own
import Derived.DeepKeys4
import Derived.MapViews
namespace Go.Proofs.Ytogbapdioccamaa
open Go.RowKit Go.Maps Go.WideMaps

def stV (a k c : Int) : Value := .agg #[.int .i64 a, .int .i64 k, .int .i64 c]
def klv (a k c : Int) : Lit := .string (keyBytes [.int .i64 a, .int .i64 k, .int .i64 c])
def okI (a : Int) : Prop := -9223372036854775808 ≤ a ∧ a ≤ 9223372036854775807
theorem wf_int {a : Int} (h : okI a) : (Lit.int .i64 a).wf = true := by
  unfold okI at h
  have h1 : IntKind.i64.min = -9223372036854775808 := by decide
  have h2 : IntKind.i64.max = 9223372036854775807 := by decide
  simp only [Lit.wf, h1, h2, Bool.and_eq_true, decide_eq_true_eq]
  exact h
theorem rowSt : (76 : TypeId) < Try.prog.types.size := of_decide_eq_true (by kernel_rfl)
theorem deepSt : Try.prog.keyTypeAt (Try.prog.types.size + 1) 76 = true := by kernel_rfl
theorem wideSt : (match Try.prog.underlying 76 with | some (.array _ _) | some (.struct _) => true | _ => false) = true := by kernel_rfl
theorem keyedSt : Keyed Try.prog 76 := Keyed.of_law (deep_law_laid (by kernel_rfl) (m := 3) (by omega) rowSt (by kernel_rfl) wideSt)
theorem cellsSt : Try.prog.cellsOf 76 = 3 := by kernel_rfl
theorem cellsInt : Try.prog.cellsOf 3 = 1 := by kernel_rfl
theorem key_of {a k c : Int} (ha : okI a) (hk : okI k) (hc : okI c) : keyOf Try.prog 76 (stV a k c) = some (klv a k c) := by
  obtain ⟨D, hD⟩ : ∃ D, Try.prog.types.size + 1 = D + 1 + 1 := ⟨Try.prog.types.size - 1, by have : 0 < Try.prog.types.size := of_decide_eq_true (by kernel_rfl); omega⟩
  have h1 : (stV a k c).formed Try.prog 76 = true := by
    unfold stV
    simp [Value.formed, Try.underlying76, cellsSt]
  have h2 : Try.prog.keyType 76 = true := by kernel_rfl
  unfold keyOf
  rw [Try.underlying76]
  simp only [h1, h2, Bool.and_self, if_true, hD]
  unfold Program.keyLits
  rw [Try.underlying76]
  simp [stV, Value.cells, cellsSt, cellsInt, Program.keyLits, Try.underlying3, wf_int ha, wf_int hk, wf_int hc, klv]
def chV (x y : Int) : Value := .agg #[.int .i64 x, .int .i64 y]
def chD (x y : Int) : DataW Unit := .agg [.lit (.int .i64 x), .lit (.int .i64 y)]
theorem fld0 (x y : Int) (w : World) : (Instr.field 78 (.agg #[.int .i64 x, .int .i64 y]) 0).run Try.prog w = .ok (.int .i64 x) w := by kernel_rfl
theorem fld1 (x y : Int) (w : World) : (Instr.field 78 (.agg #[.int .i64 x, .int .i64 y]) 1).run Try.prog w = .ok (.int .i64 y) w := by kernel_rfl
theorem chV_inj {x y x' y' : Int} (h : chV x y = chV x' y') : x = x' ∧ y = y' := by
  unfold chV at h
  simp at h
  exact h
theorem chD_inj {x y x' y' : Int} (h : chD x y = chD x' y') : x = x' ∧ y = y' := by
  unfold chD at h
  simp at h
  exact h
open Classical in
/-- how a choice reads. -/
noncomputable def RC (v : Value) : Option (DataW Unit × List MemPlace) := if h : ∃ z : Int × Int, v = chV z.1 z.2 then some (chD h.choose.1 h.choose.2, []) else none
theorem RC_of (x y : Int) : RC (chV x y) = some (chD x y, []) := by
  have h : ∃ z : Int × Int, chV x y = chV z.1 z.2 := ⟨(x, y), rfl⟩
  unfold RC
  rw [dif_pos h]
  obtain ⟨h1, h2⟩ := chV_inj h.choose_spec
  rw [← h1, ← h2]
theorem RC_inv {v : Value} {x y : Int} {ps : List MemPlace} (h : RC v = some (chD x y, ps)) : v = chV x y := by
  unfold RC at h
  split at h
  · rename_i h0
    injection h with h
    injection h with h _
    obtain ⟨h1, h2⟩ := chD_inj h
    rw [h0.choose_spec, h1, h2]
  · cases h
theorem find_insert_no {H : Type} (p : Lit × DataW H → Bool) (x : Lit × DataW H) (hx : p x = false) : ∀ l : List (Lit × DataW H), (DataW.insert x l).find? p = l.find? p
  | [] => by simp [DataW.insert, hx]
  | y :: r => by
    unfold DataW.insert
    split
    · simp [hx]
    · rw [List.find?_cons, List.find?_cons, find_insert_no p x hx r]
theorem find_insert_yes {H : Type} (p : Lit × DataW H → Bool) (x : Lit × DataW H) (hx : p x = true) : ∀ l : List (Lit × DataW H), (∀ y ∈ l, p y = false) → (DataW.insert x l).find? p = some x
  | [], _ => by simp [DataW.insert, hx]
  | y :: r, h => by
    unfold DataW.insert
    split
    · simp [hx]
    · rw [List.find?_cons, h y (by simp), find_insert_yes p x hx r (fun z hz => h z (by simp [hz]))]
theorem find_filter {α : Type} (p q : α → Bool) : ∀ l : List α, (∀ y ∈ l, p y = true → q y = true) → (l.filter q).find? p = l.find? p
  | [], _ => rfl
  | y :: r, h => by
    have ih := find_filter p q r (fun z hz => h z (by simp [hz]))
    by_cases hq : q y = true
    · rw [List.filter_cons_of_pos hq, List.find?_cons, List.find?_cons, ih]
    · rw [List.filter_cons_of_neg hq, List.find?_cons, ih]
      have : p y = false := by
        cases hp : p y
        · rfl
        · exact absurd (h y (by simp) hp) hq
      rw [this]
open Classical in
theorem atKey_put {es : List (Lit × DataW Unit)} {k k' : Lit} {d z : DataW Unit} (hk : WideAt.IsKeyLit k) :
    ((DataW.map es).put k d).atKey k' z = if k' = k then d else (DataW.map es).atKey k' z := by
  unfold DataW.put DataW.atKey
  simp only
  by_cases h : k' = k
  · subst h
    rw [if_pos rfl, find_insert_yes _ _ (WideAt.sameKey_self hk)]
    intro y hy
    have := (List.mem_filter.1 hy).2
    simpa using this
  · have h1 : k.sameKey k' = false := by
      cases hs : k.sameKey k'
      · rfl
      · exact absurd (WideAt.sameKey_eq hs).symm h
    rw [if_neg h, find_insert_no _ _ h1, find_filter]
    intro y _ hy
    have e := WideAt.sameKey_eq hy
    rw [e]
    cases hs : k'.sameKey k
    · rfl
    · exact absurd (WideAt.sameKey_eq hs) h
/-- block b is a map from states to choices, at most n entries; what it lacks reads (0, 0). -/
def Mp (w : World) (b n : Nat) (f : Int → Int → Int → Int × Int) : Prop :=
  ∃ D : DataW Unit, w.ownsMap Try.prog 76 RC b n D ∧ ∀ a k c, okI a → okI k → okI c → D.atKey (klv a k c) (chD 0 0) = chD (f a k c).1 (f a k c).2
def upd (f : Int → Int → Int → Int × Int) (a k c : Int) (v : Int × Int) : Int → Int → Int → Int × Int := fun a' k' c' => if a' = a ∧ k' = k ∧ c' = c then v else f a' k' c'
section
variable {w w' : World} {b n : Nat} {f : Int → Int → Int → Int × Int}
theorem Mp.made (w : World) : Mp (w.alloc (.map #[] 0)) w.heap.size 0 (fun _ _ _ => (0, 0)) := ⟨_, World.ownsMap_made w _ _ _, fun _ _ _ _ _ _ => rfl⟩
theorem Mp.keep {row : Option Nat} (h : Mp w b n f) (hg : w.grownBy w' row) (hne : some b ≠ row) : Mp w' b n f := by
  obtain ⟨D, h1, h2⟩ := h
  exact ⟨D, h1.kept hg hne, h2⟩
theorem Mp.lt (h : Mp w b n f) : b < w.heap.size := by
  obtain ⟨D, h1, _⟩ := h
  exact h1.lt
theorem Mp.below (h : Mp w b n f) (hb : Below w.heap.size w w') : Mp w' b n f := h.keep (row := none) ⟨hb.os, hb.tape, hb.output, hb.size, fun k hk _ => hb.block k hk⟩ (by simp)
theorem Mp.drewN (h : Mp w b n f) (k : Nat) : Mp (w.drewN k) b n f := by
  obtain ⟨D, ⟨es, clock, hb, F, hs, hD⟩, h2⟩ := h
  exact ⟨D, ⟨es, clock, hb, F, hs, hD⟩, h2⟩
theorem Mp.drew (h : Mp w b n f) : Mp w.drew b n f := h.drewN 1
theorem Mp.mono (h : Mp w b n f) {n' : Nat} (hn : n ≤ n') : Mp w b n' f := by
  obtain ⟨D, h1, h2⟩ := h
  exact ⟨D, h1.mono hn, h2⟩
theorem Mp.lookup (h : Mp w b n f) {a k c : Int} (ha : okI a) (hk : okI k) (hc : okI c) : (Instr.lookup 73 (.map (some b)) (stV a k c) false).run Try.prog w = .ok (chV (f a k c).1 (f a k c).2) w := by
  obtain ⟨D, h1, h2⟩ := h
  obtain ⟨v, ps, hr, hv⟩ := h1.lookup keyedSt Try.underlying73 (z := chV 0 0) (Try.zeroValue78 w) (RC_of 0 0) (key_of ha hk hc)
  rw [h2 a k c ha hk hc] at hv
  rw [hr, RC_inv hv]
theorem klv_inj {a k c a' k' c' : Int} (ha : okI a) (hk : okI k) (hc : okI c) (ha' : okI a') (hk' : okI k') (hc' : okI c') (h : klv a k c = klv a' k' c') : a = a' ∧ k = k' ∧ c = c' := by
  have h1 := key_of ha hk hc
  rw [h] at h1
  have := keyedSt.inj h1 (key_of ha' hk' hc')
  unfold stV at this
  simp at this
  exact this
theorem Mp.update (h : Mp w b n f) (hn : n < maxLen) {a k c : Int} (ha : okI a) (hk : okI k) (hc : okI c) (x y : Int) :
    ∃ w', (Instr.mapUpdate 73 (.map (some b)) (stV a k c) (chV x y)).run Try.prog w = .ok () w' ∧ Mp w' b (n + 1) (upd f a k c (x, y)) ∧ w.grownBy w' (some b) := by
  obtain ⟨D, h1, h2⟩ := h
  obtain ⟨w', hr, hm, hg⟩ := h1.update keyedSt Try.underlying73 hn (key_of ha hk hc) (RC_of x y)
  refine ⟨w', hr, ⟨_, hm, fun a' k' c' ha' hk' hc' => ?_⟩, hg⟩
  obtain ⟨es, clock, hb, F, hs, rfl⟩ := h1
  rw [atKey_put (by trivial), h2 a' k' c' ha' hk' hc']
  unfold upd
  by_cases e : a' = a ∧ k' = k ∧ c' = c
  · rw [if_pos e, if_pos (by rw [e.1, e.2.1, e.2.2])]
  · rw [if_neg e, if_neg (fun h => e (klv_inj ha' hk' hc' ha hk hc h))]
end
end Go.Proofs.Ytogbapdioccamaa
