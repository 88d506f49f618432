/- slices.Grow of nil, slices.Concat, at marks and at blocks. -/
import Derived.Test.YtbpodnhebjjkaaaGreatDoorm16
import Derived.Lib.AppendZeros
import Derived.Lib.AppendZerosOnto
namespace Go.Proofs.YtbpodnhebjjkaaaGreatDoor
open Go.RowKit

section
variable {α : Type} {w : World} {s : Nat} {enc : α → List Value} {A : Option Addr} {n c : Nat} {xs : List α} {B : Nat} {e : TypeId} {P : Program} {t : TypeId} {b : Nat}
/-- append(nil, make([]T, n)...), cut to nothing. -/
theorem grown_nil (enc : α → List Value) (T : Elem P t e s b) (hb100 : b ≤ 1000) {tn : TypeId} (htn : P.underlying tn = some (.int .i64)) (ty : TypeId) {n : Nat} (h0 : 0 < n) (hn : n ≤ 1000000) (w : World) :
    ∃ c w', (Builtin.append_ #[t, tn] ty #[.slice none 0 0, .int .i64 (n : Int)]).run P w = .ok (.slice (some ⟨w.heap.size, 0, none⟩) n c) w' ∧ 0 < c ∧ Own w' w.heap.size e s enc (some ⟨w.heap.size, 0, none⟩) 0 c [] ∧ Below w.heap.size w w' := by
  obtain ⟨ht, i, z, hi, hz, hsz, hb, hzs, hs0⟩ := T
  have hbn : n * i.bytes ≤ 1000000 * 1000 := Nat.mul_le_mul hn (by omega)
  have h := Lib.run_append_grow_zeros w t tn ty e i z .i64 .i64 ht htn hi hz none 0 0 [] (run_firstCells_none w.drew i.size 0 0 0) n h0 (by omega) (by omega) (by omega) (by omega) (by rw [Nat.zero_add]; exact growslice_fits (by omega) (by omega))
  rw [Nat.zero_add] at h
  have hge := grownCap_ge w n 0 e
  have hcm : grownCap w n 0 e ≤ maxLen := grownCap_le_maxLen w n 0 e (by unfold maxLen; omega)
  refine ⟨_, _, h, by omega, ⟨rfl, by simp, .inr ⟨w.heap.size, _, _, rfl, Nat.le_refl _, heap_alloc_new w.drew _, Nat.zero_le _, hcm, ?_, by simp⟩⟩, (bDrew (Below.refl _ w)).alloc (Nat.le_refl _) _⟩
  simp only [Array.size_append, List.size_toArray, List.length_nil, size_zeroCells, hzs, Nat.zero_add, ← Nat.add_mul]
  congr 1
  omega
/-- append(s, x...): x reads, or is nil. -/
theorem wpList_pushAny (T : Elem P t e s b) (henc : ∀ x : α, (enc x).length = s) (hone : ∀ x : α, ∀ u ∈ enc x, u.oneCell' = true) {ops : Array Oper} {rest : List Oper} {o : Oper} {a : Act} {Q : Exit → Act → World → Prop} (hgd : o.guard = none) (sx ox : Operand)
    (ho : o.op = .call { callee := .builtin .append, args := #[sx, ox], argTypes := #[t, t] })
    (hs : a.eval sx = .slice A n c) (A2 : Option Addr) (m cm : Nat) (hx : a.eval ox = .slice A2 m cm) (hc0 : A2 = none → cm = 0) (hown : Own w B e s enc A n c xs) (ys : List α) (hy : Sl w s enc A2 m ys)
    (hn : (n + m) * b ≤ 140737488355328 ∧ n + m ≤ maxLen) (hB : B ≤ w.heap.size)
    (h : ∀ A' c' w', Own w' B e s enc A' (n + m) c' (xs ++ ys) → w.grownBy w' (blk A) → wpList P ops Q rest (a.put o.dst (.slice A' (n + m) c')) w') :
    wpList P ops Q (o :: rest) a w := by
  cases A2 with
  | some ad => exact wpList_pushSl T henc hone hgd sx ox ho hs ad m cm hx hown ys hy hn hB (fun A' c' w' h1 h2 _ => h A' c' w' h1 h2)
  | none =>
    obtain ⟨rfl, rfl⟩ := hy.none_zero
    have := hc0 rfl
    subst this
    obtain ⟨ht, i, z, hi, hz, hsz, hb, hzs, hs0⟩ := T
    refine Lib.wpList_append_run w hgd sx ox t t ho _ _ hs hx _ _ (run_append_owned_none w B t o.type e i s ht hi (.slice A n c) n (xs.flatMap enc) hown.row) ?_
    exact h A c w (by simpa using hown) ⟨rfl, rfl, rfl, Nat.le_refl _, fun _ _ _ => rfl⟩
end
abbrev SQ := Option Addr × Nat × Nat
def sqC (q : SQ) : List Value := [.slice q.1 q.2.1 q.2.2]
theorem sqC_len (q : SQ) : (sqC q).length = 1 := rfl
def gQ (qs : List SQ) (i : Nat) : SQ := qs.getD i (none, 0, 0)
theorem Sl.sq {w : World} {A : Option Addr} {n : Nat} {qs : List SQ} (h : Sl w 1 sqC A n qs) {k : Nat} (hk : k < n) : ∃ ad, A = some ad ∧ w.cell? (ad.add k) = some (.slice (gQ qs k).1 (gQ qs k).2.1 (gQ qs k).2.2) := by
  obtain ⟨ad, e, _, y, hy, hc⟩ := h.at_ hk
  have := hc 0 _ rfl
  rw [Nat.mul_one, Nat.add_zero] at this
  have hg : gQ qs k = y := by unfold gQ; rw [List.getD_eq_getElem?_getD, hy]; rfl
  rw [hg]
  exact ⟨ad, e, this⟩
/-- slices of slices that read. -/
def SqOk {α : Type} (w : World) (s : Nat) (enc : α → List Value) (qs : List SQ) (ys : List (List α)) : Prop := ∀ k, k < qs.length → Sl w s enc (gQ qs k).1 (gQ qs k).2.1 (ys.getD k []) ∧ ((gQ qs k).1 = none → (gQ qs k).2.2 = 0)
theorem SqOk.below {α : Type} {w w' : World} {s : Nat} {enc : α → List Value} {qs : List SQ} {ys : List (List α)} (h : SqOk w s enc qs ys) (hb : Below w.heap.size w w') : SqOk w' s enc qs ys := fun k hk => ⟨(h k hk).1.below hb, (h k hk).2⟩
theorem flat_take {α : Type} {ys : List (List α)} {i : Nat} (h : i < ys.length) : (ys.take (i + 1)).flatten = (ys.take i).flatten ++ ys.getD i [] := by
  rw [← List.take_append_getElem h, List.flatten_append, List.getD_eq_getElem?_getD, List.getElem?_eq_getElem h]
  simp
theorem flat_take_le {α : Type} (ys : List (List α)) (i : Nat) : (ys.take i).flatten.length ≤ ys.flatten.length := by
  conv => rhs; rw [← List.take_append_drop i ys, List.flatten_append, List.length_append]
  omega
set_option maxRecDepth 100000 in
theorem growMk_any (n : Nat) (w : World) (hn : n ≤ 1000000) :
    Calls Tryz.prog 61 #[.slice none 0 0, .int .i64 n] w fun e w' => ∃ A c, e = .returned (.slice A 0 c) ∧ Own w' w.heap.size 81 3 mkC A 0 c [] ∧ Below w.heap.size w w' := by
  have h0 : ¬ (n : Int) < 0 := by omega
  have hw0 : IntKind.i64.wrap ((n : Int) - 0) = n := by rw [Int.sub_zero]; exact IntWalk.i64_in _ (by omega)
  by_cases hz : n = 0
  · subst hz
    go_enter Tryz.func61, Tryz.ntmps61
    go_wp2_with fail
    go_ret
    exact ⟨none, 0, rfl, Own.nil_ _ _ _ _ _, Below.refl _ _⟩
  · obtain ⟨c, w', hr, hc0, ho, hb⟩ := grown_nil mkC elemK (by omega) (tn := 3) Tryz.underlying3 23 (n := n) (by omega) hn w
    have hp : (0 : Int) < n := by omega
    go_enter Tryz.func61, Tryz.ntmps61
    go_wp2_with (at_builtin; refine Lib.wpList_append_run _ rfl _ _ _ _ rfl _ _ rfl rfl _ _ hr ?_)
    go_ret
    exact ⟨_, c, rfl, ho, hb⟩
set_option maxHeartbeats 4000000 in
set_option maxRecDepth 100000 in
theorem concatMk_any (A : Option Addr) (m c : Nat) (qs : List SQ) (ys : List (List Mk)) (w : World) (hq : Sl w 1 sqC A m qs) (hy : SqOk w 3 mkC qs ys) (hyl : ys.length = m) (hm0 : m ≤ 1000) (hl : ys.flatten.length ≤ 100000) :
    Calls Tryz.prog 47 #[.slice A m c] w fun e w' => ∃ A' c', e = .returned (.slice A' ys.flatten.length c') ∧ Own w' w.heap.size 81 3 mkC A' ys.flatten.length c' ys.flatten ∧ Below w.heap.size w w' := by
  have hql := hq.len
  have HF := Lib.hid (fun i (h : i < m) => flat_take (ys := ys) (i := i) (by omega))
  have HL := Lib.hid (fun i => flat_take_le ys i)
  go_enter Tryz.func47, Tryz.ntmps47
  go_wp2_with fail
  go_loopw [3, 11] (fun vs vi wr => ∃ i : Nat, vi = .int .i64 i ∧ i ≤ m ∧ vs = .int .i64 ((ys.take i).flatten.length) ∧ wr = w) (fun _ vi _ => m - (intOf vi).toNat)
  case atStart => exact ⟨0, rfl, Nat.zero_le _, by simp, rfl⟩
  case round =>
    obtain ⟨i, rfl, hi, rfl, rfl⟩ := hrel
    by_cases hlt : i < m
    · obtain ⟨ad, e, k0⟩ := hq.sq hlt
      subst e
      obtain ⟨h1, h2⟩ := hy i (by omega)
      have hf := congrArg List.length (HF.out i hlt)
      rw [List.length_append, h1.len] at hf
      have hle := HL.out (i + 1)
      have hi1000 : (i : Int) + 1 ≤ 1000 := by omega
      have k0 : wr.cell? (ad.add (i * 1)) = some (.slice (gQ qs i).1 (gQ qs i).2.1 (gQ qs i).2.2) := by rw [Nat.mul_one]; exact k0
      generalize (gQ qs i).1 = a1 at *
      generalize (gQ qs i).2.1 = n1 at *
      generalize (gQ qs i).2.2 = c1 at *
      have hfi : (((ys.take (i + 1)).flatten.length : Nat) : Int) = (ys.take i).flatten.length + n1 := by omega
      generalize (ys.take i).flatten.length = L1 at *
      have hs0 : ¬ ((L1 : Int) + n1 < 0) := by omega
      clear hy h1 hf
      go_wp2_with fail
      go_roundw
      case measure => rw [intOf, intOf]; omega
      case rel => exact ⟨i + 1, by simp, hlt, by rw [hfi], by trivial⟩
    · have him : i = m := by omega
      subst him
      have hall : (ys.take i).flatten = ys.flatten := by rw [List.take_of_length_le (by omega)]
      rw [hall]
      have cG := growMk_any ys.flatten.length wr (by omega)
      generalize hLL : ys.flatten.length = LL at *
      go_upto_region 10 with (first | (go_at_call 61; refine cG.mono ?_; rintro e w3 ⟨A3, c3, rfl, ho, hb3⟩))
      clear cG
      go_wp2_with fail
      go_loopw [6, 27] (fun v6 vi w2 => ∃ (j : Nat) (A' : Option Addr) (c' : Nat), vi = .int .i64 j ∧ j ≤ i ∧ v6 = .slice A' ((ys.take j).flatten.length) c' ∧ Own w2 wr.heap.size 81 3 mkC A' ((ys.take j).flatten.length) c' (ys.take j).flatten ∧ Below wr.heap.size wr w2) (fun _ vi _ => i - (intOf vi).toNat)
      case atStart => exact ⟨0, A3, c3, rfl, Nat.zero_le _, by simp, by simpa using ho, hb3⟩
      case round =>
        obtain ⟨j, A', c', rfl, hj, rfl, hoj, hbj⟩ := hrel
        by_cases hlt2 : j < i
        · obtain ⟨ad, e, k0⟩ := hq.sq hlt2
          subst e
          obtain ⟨h1, h2⟩ := hy j (by omega)
          have hf := HF.out j hlt2
          have hle := HL.out (j + 1)
          have k0 := keep1 hbj k0
          have k0 : wr.cell? (ad.add (j * 1)) = some (.slice (gQ qs j).1 (gQ qs j).2.1 (gQ qs j).2.2) := by rw [Nat.mul_one]; exact k0
          have h1 := h1.below hbj
          have hfl := congrArg List.length hf
          rw [List.length_append, h1.len] at hfl
          have hF := Lib.hid hf
          have hFL := Lib.hid hfl
          generalize (gQ qs j).1 = a1 at *
          generalize (gQ qs j).2.1 = n1 at *
          generalize (gQ qs j).2.2 = c1 at *
          generalize (ys.take j).flatten.length = L1 at *
          clear hf hfl
          go_wp2_with (at_builtin; refine wpList_pushAny elemK mkC_len mkC_one rfl _ _ rfl rfl a1 n1 c1 rfl h2 hoj _ h1 ⟨by have := hFL.out; omega, by have := hFL.out; unfold maxLen; omega⟩ hbj.size ?_; intro A2 c2 w7 ho7 hg7)
          go_roundw
          case measure => rw [intOf, intOf]; omega
          case rel => exact ⟨j + 1, A2, c2, by simp, hlt2, by rw [hFL.out], by rw [hFL.out, hF.out]; exact ho7, hbj.grown hg7 hbj.size (fun g hg => (hoj.lt g hg).1)⟩
        · have hji : j = i := by omega
          subst hji
          rw [hall] at hoj
          go_wp2_with fail
          go_ret
          rw [hall, hLL]
          rw [hLL] at hoj
          exact ⟨A', c', rfl, hoj, hbj⟩
set_option maxRecDepth 100000 in
theorem growBk_any (n : Nat) (w : World) (hn : n ≤ 1000000) :
    Calls Tryz.prog 60 #[.slice none 0 0, .int .i64 n] w fun e w' => ∃ A c, e = .returned (.slice A 0 c) ∧ Own w' w.heap.size 103 2 bkC A 0 c [] ∧ Below w.heap.size w w' := by
  have h0 : ¬ (n : Int) < 0 := by omega
  have hw0 : IntKind.i64.wrap ((n : Int) - 0) = n := by rw [Int.sub_zero]; exact IntWalk.i64_in _ (by omega)
  by_cases hz : n = 0
  · subst hz
    go_enter Tryz.func60, Tryz.ntmps60
    go_wp2_with fail
    go_ret
    exact ⟨none, 0, rfl, Own.nil_ _ _ _ _ _, Below.refl _ _⟩
  · obtain ⟨c, w', hr, hc0, ho, hb⟩ := grown_nil bkC elemBlk (by omega) (tn := 3) Tryz.underlying3 57 (n := n) (by omega) hn w
    have hp : (0 : Int) < n := by omega
    go_enter Tryz.func60, Tryz.ntmps60
    go_wp2_with (at_builtin; refine Lib.wpList_append_run _ rfl _ _ _ _ rfl _ _ rfl rfl _ _ hr ?_)
    go_ret
    exact ⟨_, c, rfl, ho, hb⟩
set_option maxHeartbeats 4000000 in
set_option maxRecDepth 100000 in
theorem concatBk_any (A : Option Addr) (m c : Nat) (qs : List SQ) (ys : List (List BkE)) (w : World) (hq : Sl w 1 sqC A m qs) (hy : SqOk w 2 bkC qs ys) (hyl : ys.length = m) (hm0 : m ≤ 1000) (hl : ys.flatten.length ≤ 100000) :
    Calls Tryz.prog 46 #[.slice A m c] w fun e w' => ∃ A' c', e = .returned (.slice A' ys.flatten.length c') ∧ Own w' w.heap.size 103 2 bkC A' ys.flatten.length c' ys.flatten ∧ Below w.heap.size w w' := by
  have hql := hq.len
  have HF := Lib.hid (fun i (h : i < m) => flat_take (ys := ys) (i := i) (by omega))
  have HL := Lib.hid (fun i => flat_take_le ys i)
  go_enter Tryz.func46, Tryz.ntmps46
  go_wp2_with fail
  go_loopw [3, 11] (fun vs vi wr => ∃ i : Nat, vi = .int .i64 i ∧ i ≤ m ∧ vs = .int .i64 ((ys.take i).flatten.length) ∧ wr = w) (fun _ vi _ => m - (intOf vi).toNat)
  case atStart => exact ⟨0, rfl, Nat.zero_le _, by simp, rfl⟩
  case round =>
    obtain ⟨i, rfl, hi, rfl, rfl⟩ := hrel
    by_cases hlt : i < m
    · obtain ⟨ad, e, k0⟩ := hq.sq hlt
      subst e
      obtain ⟨h1, h2⟩ := hy i (by omega)
      have hf := congrArg List.length (HF.out i hlt)
      rw [List.length_append, h1.len] at hf
      have hle := HL.out (i + 1)
      have hi1000 : (i : Int) + 1 ≤ 1000 := by omega
      have k0 : wr.cell? (ad.add (i * 1)) = some (.slice (gQ qs i).1 (gQ qs i).2.1 (gQ qs i).2.2) := by rw [Nat.mul_one]; exact k0
      generalize (gQ qs i).1 = a1 at *
      generalize (gQ qs i).2.1 = n1 at *
      generalize (gQ qs i).2.2 = c1 at *
      have hfi : (((ys.take (i + 1)).flatten.length : Nat) : Int) = (ys.take i).flatten.length + n1 := by omega
      generalize (ys.take i).flatten.length = L1 at *
      have hs0 : ¬ ((L1 : Int) + n1 < 0) := by omega
      clear hy h1 hf
      go_wp2_with fail
      go_roundw
      case measure => rw [intOf, intOf]; omega
      case rel => exact ⟨i + 1, by simp, hlt, by rw [hfi], by trivial⟩
    · have him : i = m := by omega
      subst him
      have hall : (ys.take i).flatten = ys.flatten := by rw [List.take_of_length_le (by omega)]
      rw [hall]
      have cG := growBk_any ys.flatten.length wr (by omega)
      generalize hLL : ys.flatten.length = LL at *
      go_upto_region 10 with (first | (go_at_call 60; refine cG.mono ?_; rintro e w3 ⟨A3, c3, rfl, ho, hb3⟩))
      clear cG
      go_wp2_with fail
      go_loopw [6, 27] (fun v6 vi w2 => ∃ (j : Nat) (A' : Option Addr) (c' : Nat), vi = .int .i64 j ∧ j ≤ i ∧ v6 = .slice A' ((ys.take j).flatten.length) c' ∧ Own w2 wr.heap.size 103 2 bkC A' ((ys.take j).flatten.length) c' (ys.take j).flatten ∧ Below wr.heap.size wr w2) (fun _ vi _ => i - (intOf vi).toNat)
      case atStart => exact ⟨0, A3, c3, rfl, Nat.zero_le _, by simp, by simpa using ho, hb3⟩
      case round =>
        obtain ⟨j, A', c', rfl, hj, rfl, hoj, hbj⟩ := hrel
        by_cases hlt2 : j < i
        · obtain ⟨ad, e, k0⟩ := hq.sq hlt2
          subst e
          obtain ⟨h1, h2⟩ := hy j (by omega)
          have hf := HF.out j hlt2
          have hle := HL.out (j + 1)
          have k0 := keep1 hbj k0
          have k0 : wr.cell? (ad.add (j * 1)) = some (.slice (gQ qs j).1 (gQ qs j).2.1 (gQ qs j).2.2) := by rw [Nat.mul_one]; exact k0
          have h1 := h1.below hbj
          have hfl := congrArg List.length hf
          rw [List.length_append, h1.len] at hfl
          have hF := Lib.hid hf
          have hFL := Lib.hid hfl
          generalize (gQ qs j).1 = a1 at *
          generalize (gQ qs j).2.1 = n1 at *
          generalize (gQ qs j).2.2 = c1 at *
          generalize (ys.take j).flatten.length = L1 at *
          clear hf hfl
          go_wp2_with (at_builtin; refine wpList_pushAny elemBlk bkC_len bkC_one rfl _ _ rfl rfl a1 n1 c1 rfl h2 hoj _ h1 ⟨by have := hFL.out; omega, by have := hFL.out; unfold maxLen; omega⟩ hbj.size ?_; intro A2 c2 w7 ho7 hg7)
          go_roundw
          case measure => rw [intOf, intOf]; omega
          case rel => exact ⟨j + 1, A2, c2, by simp, hlt2, by rw [hFL.out], by rw [hFL.out, hF.out]; exact ho7, hbj.grown hg7 hbj.size (fun g hg => (hoj.lt g hg).1)⟩
        · have hji : j = i := by omega
          subst hji
          rw [hall] at hoj
          go_wp2_with fail
          go_ret
          rw [hall, hLL]
          rw [hLL] at hoj
          exact ⟨A', c', rfl, hoj, hbj⟩
end Go.Proofs.YtbpodnhebjjkaaaGreatDoor
