/- The law's check of lists and marks. append(s, x...), x any slice that reads; slices.Clone. slices.Chunk of few elements: one round at most. Stores into an owned slice; renumber.cloneLists. numbering.Next. -/
import Derived.Test.YtbpodnhebjjkaaaGreatDoorm9
import Derived.Lib.SliceRun
import Derived.Test.YtbpodnhebjjkaaaGreatDoorm1
import Derived.Laws.OwnMore
import Derived.Test.YtbpodnhebjjkaaaGreatDoorm8
namespace Go.Proofs.YtbpodnhebjjkaaaGreatDoor
open Go.RowKit

def lstE : Int → List (Int × List Lv) → Int
  | _, [] => 0
  | last, x :: t => if x.1 ≤ last then 26 else if clE x.2 ≠ 0 then clE x.2 else lstE x.1 t
def prL (es : List LsE) (vs : List (List Lv)) : List (Int × List Lv) := (idsL es).zip vs
theorem lstE_ok {P : List (Int × List Lv)} {last : Int} (h : lstE last P = 0) : (∀ x ∈ P, last < x.1) ∧ Up (P.map (·.1)) ∧ ∀ x ∈ P, clE x.2 = 0 := by
  induction P generalizing last with
  | nil => exact ⟨fun x hx => by simp at hx, List.Pairwise.nil, fun x hx => by simp at hx⟩
  | cons y t ih =>
    unfold lstE at h
    by_cases h1 : y.1 ≤ last
    · rw [if_pos h1] at h; exact absurd h (by omega)
    rw [if_neg h1] at h
    by_cases h2 : clE y.2 ≠ 0
    · rw [if_pos h2] at h; exact absurd h h2
    rw [if_neg h2] at h
    obtain ⟨a, b, c⟩ := ih h
    refine ⟨fun x hx => ?_, ?_, fun x hx => ?_⟩
    · rcases List.mem_cons.1 hx with rfl | hx
      · omega
      · have := a x hx; omega
    · refine List.pairwise_cons.2 ⟨fun z hz => ?_, b⟩
      obtain ⟨x, hx, rfl⟩ := List.mem_map.1 hz
      exact a x hx
    · rcases List.mem_cons.1 hx with rfl | hx
      · exact Decidable.not_not.1 h2
      · exact c x hx
theorem prL_at {es : List LsE} {vs : List (List Lv)} {n : Nat} (hl : es.length = n) (hv : vs.length = n) {i : Nat} (h : i < n) : (prL es vs).drop i = ((gE es i).id, vs.getD i []) :: (prL es vs).drop (i + 1) := by
  have hlen : i < (prL es vs).length := by unfold prL; rw [List.length_zip, idsL_len]; omega
  rw [List.drop_eq_getElem_cons hlen]
  congr 1
  have h1 : i < (idsL es).length := by rw [idsL_len]; omega
  have e1 : (gE es i).id = (idsL es)[i] := by rw [← idsL_at, List.getD_eq_getElem?_getD, List.getElem?_eq_getElem h1]; rfl
  have e2 : vs.getD i [] = vs[i]'(by omega) := by rw [List.getD_eq_getElem?_getD, List.getElem?_eq_getElem (by omega)]; rfl
  rw [e1, e2]
  simp [prL]
theorem lstE_drop {es : List LsE} {vs : List (List Lv)} {n : Nat} (hl : es.length = n) (hv : vs.length = n) {i : Nat} (h : i < n) (last : Int) : lstE last ((prL es vs).drop i) = if (gE es i).id ≤ last then 26 else if clE (vs.getD i []) ≠ 0 then clE (vs.getD i []) else lstE (gE es i).id ((prL es vs).drop (i + 1)) := by
  rw [prL_at hl hv h]; rfl
theorem prL_nil {es : List LsE} {vs : List (List Lv)} {n : Nat} (hl : es.length = n) (last : Int) : lstE last ((prL es vs).drop n) = 0 := by
  rw [List.drop_eq_nil_of_le (by unfold prL; rw [List.length_zip, idsL_len]; omega)]; rfl
theorem prL_ids {es : List LsE} {vs : List (List Lv)} (hv : vs.length = es.length) : (prL es vs).map (·.1) = idsL es := by
  unfold prL
  exact List.map_fst_zip (by rw [idsL_len]; omega)
theorem prL_vs {es : List LsE} {vs : List (List Lv)} (hv : vs.length = es.length) : (prL es vs).map (·.2) = vs := by
  unfold prL
  exact List.map_snd_zip (by rw [idsL_len]; omega)
def allE (es : List LsE) (vs : List (List Lv)) (ms : List Mk) : Int := if lstE 0 (prL es vs) ≠ 0 then lstE 0 (prL es vs) else chkE es ms
set_option maxHeartbeats 4000000 in
set_option maxRecDepth 100000 in
theorem lcheck_any (A : Option Addr) (n c : Nat) (es : List LsE) (vs : List (List Lv)) (AM : Option Addr) (m cm : Nat) (ms : List Mk) (w : World) (ha : LsT w A n es vs) (hbig : n ≤ 1000000) (hm : Sl w 3 mkC AM m ms) (hm1 : m ≤ 16384) :
    Calls Tryz.prog 7 #[.slice A n c, .slice AM m cm] w fun e w' => e = .returned (.int .i64 (allE es vs ms)) ∧ Below w.heap.size w w' := by
  have hl := ha.l.len
  have hvl := ha.vl
  have hlm := hm.len
  have HC := Lib.hid (fun W (hW : Below w.heap.size w W) => checkMarks_any A n c es AM m cm ms W (ha.l.below hW) hbig (hm.below hW) (by omega))
  have HZ := Lib.hid (show lstE 0 (prL es vs) ≠ 0 → allE es vs ms = lstE 0 (prL es vs) from fun h => if_pos h)
  have HO := Lib.hid (show lstE 0 (prL es vs) = 0 → allE es vs ms = chkE es ms from fun h => if_neg (fun k => k h))
  go_enter Tryz.func7, Tryz.ntmps7
  go_wp2_with fail
  go_loopw [5, 6] (fun vl vi wr => ∃ (i : Nat) (last : Int), vl = .int .i64 last ∧ vi = .int .i64 i ∧ i ≤ n ∧ lstE last ((prL es vs).drop i) = lstE 0 (prL es vs) ∧ Below w.heap.size w wr) (fun _ vi _ => n - (intOf vi).toNat)
  case atStart => exact ⟨0, 0, rfl, rfl, Nat.zero_le _, rfl, Below.refl _ _⟩
  case round =>
    obtain ⟨i, last, rfl, rfl, hi, ht, hbw⟩ := hrel
    by_cases hlt : i < n
    · obtain ⟨ad, e, hl2, k0, k1⟩ := (ha.l.below hbw).ls hlt
      have hav := (ha.v i hlt).below hbw
      subst e
      rw [lstE_drop hl hvl hlt] at ht
      have HT := Lib.hid ht
      clear ht
      generalize (gE es i).id = y at *
      generalize (gE es i).A = yA at *
      generalize (gE es i).n = yn at *
      generalize (gE es i).c = yc at *
      by_cases h1 : y ≤ last
      · have V := Lib.hid (show allE es vs ms = 26 by rw [HZ.out (by rw [← HT.out, if_pos h1]; omega), ← HT.out, if_pos h1])
        go_wp2_with fail
        go_ret
        exact ⟨by rw [V.out]; rfl, hbw⟩
      · have HT := Lib.hid (HT.out.symm.trans (if_neg h1))
        generalize vs.getD i [] = lv at *
        have cl := checkLevels_any yA yn yc lv wr hav
        by_cases h2 : clE lv = 0
        · have V := Lib.hid (HT.out.trans (if_neg (fun k => k h2))).symm
          rw [h2] at cl
          go_wp2_with (first | (go_at_call 15; refine cl.mono ?_; rintro e w3 ⟨rfl, hb3⟩))
          go_roundw
          case rel => exact ⟨i + 1, y, rfl, by simp, hlt, V.out, below_trans' hbw hbw.size hb3⟩
          case measure => rw [intOf, intOf]; omega
        · have V := Lib.hid (show allE es vs ms = clE lv by rw [HZ.out (by rw [HT.out, if_pos h2]; exact h2), HT.out, if_pos h2])
          have b2 : (clE lv != 0) = true := bne_iff_ne.2 h2
          generalize clE lv = ce at *
          go_wp2_with (first | (go_at_call 15; refine cl.mono ?_; rintro e w3 ⟨rfl, hb3⟩))
          go_ret
          exact ⟨by rw [V.out]; rfl, below_trans' hbw hbw.size hb3⟩
    · have hh : i = n := by omega
      subst hh
      have HR := Lib.hid (HO.out (by rw [← ht]; exact prL_nil hl last))
      clear ht
      have cm := HC.out wr hbw
      generalize chkE es ms = ce at *
      go_wp2_with (first | (go_at_call 11; refine cm.mono ?_; rintro e w3 ⟨rfl, hb3⟩))
      go_ret
      exact ⟨by rw [HR.out]; rfl, below_trans' hbw hbw.size hb3⟩
end Go.Proofs.YtbpodnhebjjkaaaGreatDoor

namespace Go.Proofs.YtbpodnhebjjkaaaGreatDoor
open Go.RowKit

section
variable {α : Type} {w w' : World} {s : Nat} {enc : α → List Value} {A : Option Addr} {n c : Nat} {xs : List α} {B : Nat} {e : TypeId} {P : Program} {t : TypeId} {b : Nat}
theorem Sl.flat {ad : Addr} (h : Sl w s enc (some ad) n xs) (henc : ∀ x : α, (enc x).length = s) : ∀ j u, (xs.flatMap enc)[j]? = some u → ad.block < w.heap.size ∧ w.cell? (ad.add j) = some u := by
  intro j u hu
  have hj : j < n * s := by
    have := (List.getElem?_eq_some_iff.1 hu).1
    rwa [flat_len henc, h.len] at this
  have hs : 0 < s := by
    rcases Nat.eq_zero_or_pos s with h0 | h0
    · subst h0; omega
    · exact h0
  have hi : j / s < n := (Nat.div_lt_iff_lt_mul hs).2 hj
  obtain ⟨ad', e', hl, x, hx, hc⟩ := h.at_ hi
  have hr : j % s < s := Nat.mod_lt _ hs
  have hv : (enc x)[j % s]? = some ((enc x)[j % s]'(by rw [henc]; exact hr)) := List.getElem?_eq_getElem _
  have hf := getElem?_flat henc xs _ x hx _ _ hv
  have hk := hc _ _ hv
  have hd : j / s * s + j % s = j := by rw [Nat.mul_comm]; exact Nat.div_add_mod j s
  rw [hd] at hf hk
  injection e' with e'
  subst e'
  rw [hf] at hu
  injection hu with hu
  subst hu
  exact ⟨hl, hk⟩
theorem wpList_pushSl (T : Elem P t e s b) (henc : ∀ x : α, (enc x).length = s) (hone : ∀ x : α, ∀ u ∈ enc x, u.oneCell' = true) {ops : Array Oper} {rest : List Oper} {o : Oper} {a : Act} {Q : Exit → Act → World → Prop} (hgd : o.guard = none) (sx ox : Operand)
    (ho : o.op = .call { callee := .builtin .append, args := #[sx, ox], argTypes := #[t, t] })
    (hs : a.eval sx = .slice A n c) (ad : Addr) (m cm : Nat) (hx : a.eval ox = .slice (some ad) m cm) (hown : Own w B e s enc A n c xs) (ys : List α) (hy : Sl w s enc (some ad) m ys)
    (hn : (n + m) * b ≤ 140737488355328 ∧ n + m ≤ maxLen) (hB : B ≤ w.heap.size)
    (h : ∀ A' c' w', Own w' B e s enc A' (n + m) c' (xs ++ ys) → w.grownBy w' (blk A) → (blk A' = blk A ∨ blk A' = some w.heap.size) → wpList P ops Q rest (a.put o.dst (.slice A' (n + m) c')) w') :
    wpList P ops Q (o :: rest) a w := by
  obtain ⟨ht, i, z, hi, hz, hsz, hb, hzs, hs0⟩ := T
  refine wpList_append_own_at w hgd sx ox t ho B e i z s b ht hi hz hsz hb hzs hs0 (.slice A n c) n (xs.flatMap enc) hs hown.row ad m cm (ys.flatMap enc) hx (by rw [flat_len henc, hy.len]) ?_ ?_ hn.2 hn.1 hB ?_
  · intro j u hu
    exact (hy.flat henc j u hu).2
  · intro u hu
    obtain ⟨y, _, hy⟩ := List.mem_flatMap.1 hu
    exact hone y u hy
  · intro v' w' hown' hg hnil hat
    have hlen : (xs ++ ys).length = n + m := by rw [List.length_append, hown.len, hy.len]
    have hO : (xs ++ ys).flatMap enc = xs.flatMap enc ++ ys.flatMap enc := List.flatMap_append
    rcases hown'.2 with ⟨hv, h0⟩ | ⟨g', cap, cur, hv, _⟩
    · subst hv
      have e0 : n + m = 0 := h0
      rw [blk_own] at hg hat
      have := h none 0 w' ⟨hlen, by rw [hO, e0]; rw [e0] at hown'; exact hown'⟩ hg (by rw [blk_own] at hat; exact hat)
      rw [e0] at this
      exact this
    · subst hv
      rw [blk_own] at hg hat
      exact h (some ⟨g', 0, none⟩) cap w' ⟨hlen, by rw [hO]; exact hown'⟩ hg (by rw [blk_own] at hat; exact hat)
end
theorem Own.made (w : World) (e : TypeId) {α : Type} (s : Nat) (enc : α → List Value) : Own (w.alloc (.cells #[] e)) w.heap.size e s enc (some ⟨w.heap.size, 0, none⟩) 0 0 ([] : List α) :=
  ⟨rfl, World.ownsRow_made w #[] 0 (Nat.le_refl _) (Nat.zero_le _) (by simp)⟩
theorem Sl.none_zero {α : Type} {w : World} {s n : Nat} {enc : α → List Value} {xs : List α} (h : Sl w s enc none n xs) : n = 0 ∧ xs = [] := by
  rcases Nat.eq_zero_or_pos n with h0 | h0
  · exact ⟨h0, List.eq_nil_of_length_eq_zero (by rw [h.len, h0])⟩
  · obtain ⟨ad, e, _⟩ := h.rd h0
    exact absurd e (by simp)
theorem elemLs : Elem Tryz.prog 22 27 2 32 := Elem.mk Tryz.underlying22 (z := .agg #[.int .i64 0, .slice none 0 0]) (by kernel_rfl) rfl (by omega)
theorem elemV : Elem Tryz.prog 25 74 4 40 := Elem.mk Tryz.underlying25 (z := .agg #[.int .i64 0, .int .i64 0, .string ⟨#[]⟩, .int .i64 0]) (by kernel_rfl) rfl (by omega)
theorem elemK : Elem Tryz.prog 23 81 3 24 := Elem.mk Tryz.underlying23 (z := .agg #[.int .i64 0, .int .i64 0, .int .i64 0]) (by kernel_rfl) rfl (by omega)
set_option maxHeartbeats 2000000 in
set_option maxRecDepth 100000 in
theorem cloneLs_any (A : Option Addr) (n c : Nat) (xs : List LsE) (w : World) (ha : Sl w 2 lsC A n xs) (hn : n ≤ 1000000) :
    Calls Tryz.prog 33 #[.slice A n c] w fun e w' => ∃ A' c', e = .returned (.slice A' n c') ∧ Own w' w.heap.size 27 2 lsC A' n c' xs ∧ (A.isSome = A'.isSome) ∧ Below w.heap.size w w' := by
  have q22 : ∀ (w : World) (a : Option Addr) (n c n' c' : Nat), (binOp .eql 22 (.slice a n c) (.slice none n' c')).run Tryz.prog w = .ok (.bool a.isNone) w := fun w a n c n' c' => Lib.run_eql_slice_nil w _ _ a n c n' c' Tryz.underlying22
  cases A with
  | none =>
    obtain ⟨rfl, rfl⟩ := ha.none_zero
    go_enter Tryz.func33, Tryz.ntmps33
    go_wp2_with fail
    go_ret
    exact ⟨none, 0, rfl, Own.nil_ _ _ _ _ _, rfl, Below.refl _ _⟩
  | some ad =>
    have hb0 := (Below.refl w.heap.size w).alloc (Nat.le_refl _) (.cells #[] 27)
    have h0 := Own.made w 27 2 lsC
    have ha1 := ha.below hb0
    go_enter Tryz.func33, Tryz.ntmps33
    go_wp2_with (at_builtin; refine wpList_pushSl elemLs lsC_len lsC_one rfl _ _ rfl rfl ad n c rfl h0 xs ha1 ⟨by omega, by unfold maxLen; omega⟩ (by simp) ?_; intro A' c' w1 ho hg hat)
    go_ret
    have hA : A'.isSome = true := by
      rcases hat with h | h
      · cases A' with
        | none => simp [blk] at h
        | some _ => rfl
      · cases A' with
        | none => simp [blk] at h
        | some _ => rfl
    refine ⟨A', c', by simp, by simpa using ho, hA.symm, hb0.grown hg (by simp) (by intro k hk; simp [blk] at hk; omega)⟩
set_option maxHeartbeats 2000000 in
set_option maxRecDepth 100000 in
theorem cloneLv_any (A : Option Addr) (n c : Nat) (xs : List Lv) (w : World) (ha : Sl w 4 lvC A n xs) (hn : n ≤ 1000000) :
    Calls Tryz.prog 34 #[.slice A n c] w fun e w' => ∃ A' c', e = .returned (.slice A' n c') ∧ Own w' w.heap.size 74 4 lvC A' n c' xs ∧ (A.isSome = A'.isSome) ∧ Below w.heap.size w w' := by
  have q22 : ∀ (w : World) (a : Option Addr) (n c n' c' : Nat), (binOp .eql 25 (.slice a n c) (.slice none n' c')).run Tryz.prog w = .ok (.bool a.isNone) w := fun w a n c n' c' => Lib.run_eql_slice_nil w _ _ a n c n' c' Tryz.underlying25
  cases A with
  | none =>
    obtain ⟨rfl, rfl⟩ := ha.none_zero
    go_enter Tryz.func34, Tryz.ntmps34
    go_wp2_with fail
    go_ret
    exact ⟨none, 0, rfl, Own.nil_ _ _ _ _ _, rfl, Below.refl _ _⟩
  | some ad =>
    have hb0 := (Below.refl w.heap.size w).alloc (Nat.le_refl _) (.cells #[] 74)
    have h0 := Own.made w 74 4 lvC
    have ha1 := ha.below hb0
    go_enter Tryz.func34, Tryz.ntmps34
    go_wp2_with (at_builtin; refine wpList_pushSl elemV lvC_len lvC_one rfl _ _ rfl rfl ad n c rfl h0 xs ha1 ⟨by omega, by unfold maxLen; omega⟩ (by simp) ?_; intro A' c' w1 ho hg hat)
    go_ret
    have hA : A'.isSome = true := by
      rcases hat with h | h
      · cases A' with
        | none => simp [blk] at h
        | some _ => rfl
      · cases A' with
        | none => simp [blk] at h
        | some _ => rfl
    refine ⟨A', c', by simp, by simpa using ho, hA.symm, hb0.grown hg (by simp) (by intro k hk; simp [blk] at hk; omega)⟩
set_option maxHeartbeats 2000000 in
set_option maxRecDepth 100000 in
theorem cloneMk_any (A : Option Addr) (n c : Nat) (xs : List Mk) (w : World) (ha : Sl w 3 mkC A n xs) (hn : n ≤ 1000000) :
    Calls Tryz.prog 36 #[.slice A n c] w fun e w' => ∃ A' c', e = .returned (.slice A' n c') ∧ Own w' w.heap.size 81 3 mkC A' n c' xs ∧ (A.isSome = A'.isSome) ∧ Below w.heap.size w w' := by
  have q22 : ∀ (w : World) (a : Option Addr) (n c n' c' : Nat), (binOp .eql 23 (.slice a n c) (.slice none n' c')).run Tryz.prog w = .ok (.bool a.isNone) w := fun w a n c n' c' => Lib.run_eql_slice_nil w _ _ a n c n' c' Tryz.underlying23
  cases A with
  | none =>
    obtain ⟨rfl, rfl⟩ := ha.none_zero
    go_enter Tryz.func36, Tryz.ntmps36
    go_wp2_with fail
    go_ret
    exact ⟨none, 0, rfl, Own.nil_ _ _ _ _ _, rfl, Below.refl _ _⟩
  | some ad =>
    have hb0 := (Below.refl w.heap.size w).alloc (Nat.le_refl _) (.cells #[] 81)
    have h0 := Own.made w 81 3 mkC
    have ha1 := ha.below hb0
    go_enter Tryz.func36, Tryz.ntmps36
    go_wp2_with (at_builtin; refine wpList_pushSl elemK mkC_len mkC_one rfl _ _ rfl rfl ad n c rfl h0 xs ha1 ⟨by omega, by unfold maxLen; omega⟩ (by simp) ?_; intro A' c' w1 ho hg hat)
    go_ret
    have hA : A'.isSome = true := by
      rcases hat with h | h
      · cases A' with
        | none => simp [blk] at h
        | some _ => rfl
      · cases A' with
        | none => simp [blk] at h
        | some _ => rfl
    refine ⟨A', c', by simp, by simpa using ho, hA.symm, hb0.grown hg (by simp) (by intro k hk; simp [blk] at hk; omega)⟩
end Go.Proofs.YtbpodnhebjjkaaaGreatDoor

namespace Go.Proofs.YtbpodnhebjjkaaaGreatDoor
open Go.RowKit
attribute [local go_sem] Oper.semAt_some

theorem cell_two (w : World) (v1 v2 : Value) (t1 t2 : TypeId) :
    ((w.alloc (.cells #[v1] t1)).alloc (.cells #[v2] t2)).cell? ⟨w.heap.size, 0, none⟩ = some v1 ∧ ((w.alloc (.cells #[v1] t1)).alloc (.cells #[v2] t2)).cell? ⟨w.heap.size + 1, 0, none⟩ = some v2 := by
  have b1 := (Blk.new w t1 #[v1]).alloc (.cells #[v2] t2)
  have b2 := Blk.new (w.alloc (.cells #[v1] t1)) t2 #[v2]
  rw [World.size_alloc] at b2
  exact ⟨b1.cell 0 rfl, b2.cell 0 rfl⟩
set_option maxRecDepth 100000 in
theorem chunk_any (A : Option Addr) (m c : Nat) (w : World) :
    Calls Tryz.prog 35 #[.slice A m c, .int .i64 64] w fun e w' => e = .returned (.func (.func 51) #[] #[.pointer (some ⟨w.heap.size, 0, none⟩), .pointer (some ⟨w.heap.size + 1, 0, none⟩)]) ∧ w' = (w.alloc (.cells #[.slice A m c] 23)).alloc (.cells #[.int .i64 64] 3) := by
  obtain ⟨k1, k2⟩ := cell_two w (.slice A m c) (.int .i64 64) 23 3
  go_enter Tryz.func35, Tryz.ntmps35
  go_wp2_with fail
  go_ret
  exact ⟨rfl, rfl⟩

theorem chunk_any2 (A : Option Addr) (m c : Nat) (w : World) :
    Calls Tryz.prog 35 #[.slice A m c, .int .i64 64] w fun e w' => ∃ p2 p3, e = .returned (.func (.func 51) #[] #[.pointer (some ⟨p2, 0, none⟩), .pointer (some ⟨p3, 0, none⟩)]) ∧ w'.cell? ⟨p2, 0, none⟩ = some (.slice A m c) ∧ w'.cell? ⟨p3, 0, none⟩ = some (.int .i64 64) ∧ (p2 < w'.heap.size ∧ p3 < w'.heap.size ∧ w.heap.size ≤ p2 ∧ w.heap.size ≤ p3) ∧ Below w.heap.size w w' := by
  refine (chunk_any A m c w).mono ?_
  rintro e w' ⟨rfl, rfl⟩
  obtain ⟨k1, k2⟩ := cell_two w (.slice A m c) (.int .i64 64) 23 3
  exact ⟨_, _, rfl, k1, k2, by simp; omega, ((Below.refl _ w).alloc (Nat.le_refl _) _).alloc (by simp) _⟩
/-- what the closure of Chunk asks of a round: that its two variables lie on. -/
def Kq (p2 p3 : Nat) (W W' : World) : Prop := W'.heap[p2]? = W.heap[p2]? ∧ W'.heap[p3]? = W.heap[p3]?
theorem Kq.trans_ {p2 p3 : Nat} {X Y Z : World} (h : Kq p2 p3 X Y) (k : Kq p2 p3 Y Z) : Kq p2 p3 X Z := ⟨k.1.trans h.1, k.2.trans h.2⟩
theorem Kq.put_ {p2 p3 : Nat} {w : World} (h2 : p2 < w.heap.size) (h3 : p3 < w.heap.size) (W : World) (l : Nat) (o o' : Obj) (hl : w.heap.size ≤ l) (_ : W.heap[l]? = some o) (_ : o.isCells = false) (_ : o.isWalk = false) : Kq p2 p3 W (W.putObj l o') := by
  have hg := grownBy_putObj' W l o'
  have hlt : l < W.heap.size := by
    rename_i h _ _
    exact (Array.getElem?_eq_some_iff.1 h).1
  exact ⟨hg.block p2 (by omega) (by simp; omega), hg.block p3 (by omega) (by simp; omega)⟩
theorem run_cut_0mm {P : Program} {t e : TypeId} {s : Nat} (ht : P.underlying t = some (.slice e)) (hs : ∀ w, (sizeOf e).run P w = .ok s w) (ad : Addr) {n c m : Nat} (h0 : 0 < m) (hc : m ≤ c) (w : World) :
    (Instr.slice t (.slice (some ad) n c) (some (.int .i64 0)) (some (.int .i64 m)) (some (.int .i64 m))).run P w = .ok (.slice (some ad) m m) w := by
  have he : P.elem t = e := by unfold Program.elem; rw [ht]
  rw [run_slice_lhm w t (some ad) n c (by rw [he]; exact ht) _ _ _ _ _ _ (by omega) (by omega) (by omega) (by omega), he, hs]
  simp only [Result.andThen, sliced, Int.toNat_natCast, Int.toNat_zero, Nat.sub_zero, Nat.zero_mul]
  congr 2
  rw [if_neg (by omega)]
  rfl
theorem sizeMk : ∀ w, (sizeOf 81).run Tryz.prog w = .ok 3 w := fun w => by
  obtain ⟨i, hi, h3⟩ := Option.map_eq_some_iff.1 (show (Tryz.prog.info? 81).map (·.size) = some 3 by kernel_rfl)
  simp [sizeOf, typeInfo, hi, h3, go_sem]
set_option maxRecDepth 100000 in
set_option maxHeartbeats 2000000 in
theorem chunk1_in (n : Nat) (l p2 p3 : Nat) (A : Option Addr) (m c : Nat) (hm : m ≤ 64) (hmc : m ≤ c) (J Jx : List Unit → World → Prop)
    (hY : ∀ pre x W, J pre W → pre.length < 1 → YieldAt Fence.wide (n - 1) Tryz.prog l #[.slice A m m] W fun e W' =>
      (e = .returned (.bool true) ∧ J (pre ++ [x]) W' ∧ Kq p2 p3 W W') ∨ (e = .returned (.bool false) ∧ Jx (pre ++ [x]) W'))
    (W : World) (hAb : _root_.Go.AbidesFrom W.heap.size J) (hA : 0 < m → ∃ ad, A = some ad) (h2 : W.cell? ⟨p2, 0, none⟩ = some (.slice A m c)) (h3 : W.cell? ⟨p3, 0, none⟩ = some (.int .i64 64)) (h0 : J [] W) :
    CallsIn Fence.wide n Tryz.prog 51 #[.func (.yield l) #[] #[], .pointer (some ⟨p2, 0, none⟩), .pointer (some ⟨p3, 0, none⟩)] W fun e W' => (∃ v, e = .returned v) ∧
      ((∃ ys, ys = (if m = 0 then [] else [()]) ∧ J ys W') ∨ (∃ pre, pre = [()] ∧ Jx pre W')) := by
  refine callsIn_of_wp Tryz.func51 rfl trivial ?_ rfl
  simp only [Tryz.ntmps51, List.size_toArray, List.length_cons, List.length_nil, Nat.reduceAdd, Nat.reduceSub, Array.replicate_succ, Array.replicate_zero, List.push_toArray, List.append_toArray, List.nil_append, List.cons_append]
  gi_wp2
  gi_loopw [4] (fun vi wr => ∃ (i : Int) (pre : List Unit), vi = .int .i64 i ∧ ((i = 0 ∧ pre = []) ∨ (i = 64 ∧ pre = [()] ∧ 0 < m)) ∧ J pre wr ∧ wr.cell? ⟨p2, 0, none⟩ = some (.slice A m c) ∧ wr.cell? ⟨p3, 0, none⟩ = some (.int .i64 64)) (fun vi _ => 64 - (intOf vi).toNat)
  case atStart => exact ⟨0, [], rfl, .inl ⟨rfl, rfl⟩, h0, h2, h3⟩
  case round =>
    obtain ⟨i, pre, rfl, hi, hJ, k2, k3⟩ := hrel
    clear h2 h3 h0
    rcases hi with ⟨rfl, rfl⟩ | ⟨rfl, rfl, hm0⟩
    · by_cases h0 : m = 0
      · subst h0
        gi_wp2
        go_end0
        exact ⟨⟨_, rfl⟩, .inl hJ⟩
      · have hm0 : 0 < m := by omega
        have hmi : (0 : Int) < m := by omega
        obtain ⟨ad, rfl⟩ := hA hm0
        have hJ2 : J [] wr.drew := hAb [] wr wr.drew none hJ ⟨rfl, rfl, rfl, Nat.le_refl _, fun _ _ _ => rfl⟩ (fun r e => by cases e)
        have k2 : wr.drew.cell? ⟨p2, 0, none⟩ = some (.slice (some ad) m c) := k2
        have k3 : wr.drew.cell? ⟨p3, 0, none⟩ = some (.int .i64 64) := k3
        obtain ⟨fn, tmps, assign, body, hy, hR⟩ := hY [] () wr.drew hJ2 (by simp)
        have hmin : min (64 : Int) m = m := by omega
        have u0 := Tryz.underlying23
        have hw : IntKind.i64.wrap (m : Int) = m := IntWalk.i64_in _ (by omega)
        have c1 := fun w => run_cut_l u0 sizeMk (some ad) (n := m) (c := c) (l := 0) (by omega) w
        simp only [Nat.sub_zero, show ((0 : Nat) : Int) = 0 from rfl] at c1
        have c2 := fun w => run_cut_0mm (n := m) u0 sizeMk ad hm0 hmc w
        gi_wp2
        gi_region
        generalize wr.drew = w5 at *
        gi_wp2
        refine ⟨fun hh => by simp [Fence.wide] at hh, hR.mono ?_⟩
        rintro e W3 (⟨rfl, hJ3, hk3⟩ | ⟨rfl, hJx3⟩)
        · have j2 := (World.cell?_of_block (a := ⟨p2, 0, none⟩) hk3.1).trans k2
          have j3 := (World.cell?_of_block (a := ⟨p3, 0, none⟩) hk3.2).trans k3
          gi_wp2
          go_roundw
          case rel => exact ⟨64, [()], rfl, .inr ⟨rfl, rfl, hm0⟩, hJ3, j2, j3⟩
          case measure => rw [intOf, intOf]; omega
        · gi_wp2
          refine bodyPost_ret (results_none rfl _ _ _) rfl ?_
          exact ⟨⟨_, rfl⟩, .inr hJx3⟩
    · gi_wp2
      go_end0
      exact ⟨⟨_, rfl⟩, .inl (by simpa [show m ≠ 0 by omega] using hJ)⟩
theorem chunk_stops (n : Nat) (p2 p3 : Nat) (A : Option Addr) (m c : Nat) (hm : m ≤ 64) (hmc : m ≤ c) (w : World) (hA : 0 < m → ∃ ad, A = some ad) (h2 : w.cell? ⟨p2, 0, none⟩ = some (.slice A m c)) (h3 : w.cell? ⟨p3, 0, none⟩ = some (.int .i64 64)) (hp2 : p2 < w.heap.size) (hp3 : p3 < w.heap.size) :
    SeqStopsK Fence.wide n Tryz.prog 51 #[.pointer (some ⟨p2, 0, none⟩), .pointer (some ⟨p3, 0, none⟩)] (fun _ : Unit => #[Value.slice A m m]) (Kq p2 p3) (fun ys => ys = (if m = 0 then [] else [()])) (fun pre => pre = [()]) 1 w := fun l J Jx W hW hJ _ hY h0 =>
  chunk1_in n l p2 p3 A m c hm hmc J Jx hY W hJ hA ((hW.cell (p := ⟨p2, 0, none⟩) hp2).trans h2) ((hW.cell (p := ⟨p3, 0, none⟩) hp3).trans h3) h0
end Go.Proofs.YtbpodnhebjjkaaaGreatDoor

namespace Go.Proofs.YtbpodnhebjjkaaaGreatDoor
open Go.RowKit

section
variable {α : Type} {w w' : World} {s : Nat} {enc : α → List Value} {A : Option Addr} {n c g : Nat} {xs : List α} {B : Nat} {e : TypeId}
theorem flat_rep (henc : ∀ x : α, (enc x).length = s) {k : Nat} (hk : k < xs.length) (x' : α) : ∃ pre post : List Value, xs.flatMap enc = pre ++ enc xs[k] ++ post ∧ pre.length = k * s ∧ (xs.set k x').flatMap enc = pre ++ enc x' ++ post := by
  refine ⟨(xs.take k).flatMap enc, (xs.drop (k + 1)).flatMap enc, ?_, ?_, ?_⟩
  · conv => lhs; rw [← List.take_append_drop k xs, List.drop_eq_getElem_cons hk]
    rw [List.flatMap_append, List.flatMap_cons, List.append_assoc]
  · rw [flat_len henc, List.length_take]; congr 1; omega
  · rw [List.set_eq_take_append_cons_drop, if_pos hk, List.flatMap_append, List.flatMap_cons, List.append_assoc]
theorem row_set {pre old post : List Value} {j : Nat} (hj : j < old.length) (u : Value) : (pre ++ old ++ post).set (pre.length + j) u = pre ++ old.set j u ++ post := by
  rw [List.append_assoc, List.set_append_right _ _ (by omega), Nat.add_sub_cancel_left, List.set_append_left _ _ hj, List.append_assoc]
theorem Own.set1 (h : Own w B e s enc (some ⟨g, 0, none⟩) n c xs) (henc : ∀ x : α, (enc x).length = s) {k : Nat} (hk : k < n) {x : α} (hx : xs[k]? = some x) {j : Nat} (hj : j < s) (u : Value) (x' : α) (he : enc x' = (enc x).set j u) :
    Own (w.setCell ⟨g, k * s + j, none⟩ u) B e s enc (some ⟨g, 0, none⟩) n c (xs.set k x') := by
  have hkl : k < xs.length := by rw [h.len]; exact hk
  have hxx : xs[k] = x := by rw [List.getElem?_eq_getElem hkl] at hx; injection hx
  obtain ⟨pre, post, e1, e2, e3⟩ := flat_rep henc hkl x'
  have hs := (h.row.stored (k * s + j) u).1
  rw [e1, hxx, ← e2, row_set (by rw [henc]; exact hj), ← he, ← e3, e2] at hs
  exact ⟨by rw [List.length_set]; exact h.len, hs⟩
theorem rowSets {g n cap size : Nat} {e : TypeId} {base : Nat} : ∀ (vs pre old post : List Value) (w : World), w.ownsRow base e size (.slice (some ⟨g, 0, none⟩) n cap) n (pre ++ old ++ post) → old.length = vs.length → (w.setCells g pre.length vs).ownsRow base e size (.slice (some ⟨g, 0, none⟩) n cap) n (pre ++ vs ++ post)
  | [], pre, [], _, w, h, _ => h
  | [], _, _ :: _, _, _, _, hl => by simp at hl
  | _ :: _, _, [], _, _, _, hl => by simp at hl
  | v :: r, pre, u :: old, post, w, h, hl => by
    have h1 := (h.stored pre.length v).1
    have e := row_set (pre := pre) (old := u :: old) (post := post) (j := 0) (by simp) v
    rw [Nat.add_zero] at e
    rw [e] at h1
    have e2 : pre ++ (u :: old).set 0 v ++ post = (pre ++ [v]) ++ old ++ post := by simp
    rw [e2] at h1
    have := rowSets r (pre ++ [v]) old post _ h1 (by simpa using hl)
    rw [List.length_append] at this
    rw [show pre ++ v :: r ++ post = pre ++ [v] ++ r ++ post by simp]
    exact this
theorem Own.setAll (h : Own w B e s enc (some ⟨g, 0, none⟩) n c xs) (henc : ∀ x : α, (enc x).length = s) {k : Nat} (hk : k < n) (x' : α) :
    Own (w.setCells g (k * s) (enc x')) B e s enc (some ⟨g, 0, none⟩) n c (xs.set k x') := by
  have hkl : k < xs.length := by rw [h.len]; exact hk
  obtain ⟨pre, post, e1, e2, e3⟩ := flat_rep henc hkl x'
  have h2 := h.row
  rw [e1] at h2
  have := rowSets (enc x') pre _ post w h2 (by rw [henc, henc])
  rw [e2, ← e3] at this
  exact ⟨by rw [List.length_set]; exact h.len, this⟩
end
theorem gE_set {es : List LsE} {k j : Nat} (hk : k < es.length) (x : LsE) : gE (es.set k x) j = if j = k then x else gE es j := by
  unfold gE
  rw [List.getD_eq_getElem?_getD, List.getD_eq_getElem?_getD, List.getElem?_set]
  by_cases h : k = j
  · subst h; simp [hk]
  · rw [if_neg h, if_neg (Ne.symm h)]
theorem gE_get {es : List LsE} {k : Nat} (hk : k < es.length) : es[k]? = some (gE es k) := by
  unfold gE
  rw [List.getD_eq_getElem?_getD, List.getElem?_eq_getElem hk]; rfl
theorem idsL_set {es : List LsE} {k : Nat} (hk : k < es.length) (x : LsE) (hx : x.id = (gE es k).id) : idsL (es.set k x) = idsL es := by
  unfold idsL
  rw [List.map_set, hx]
  have h1 : k < (es.map (·.id)).length := by rw [List.length_map]; exact hk
  have : (gE es k).id = (es.map (·.id))[k] := by
    have := gE_get hk
    rw [List.getElem?_eq_getElem hk] at this
    injection this with this
    rw [List.getElem_map, this]
  rw [this, List.set_getElem_self]
/-- the levels of a list, in memory of one's own. -/
structure LvO (w : World) (B g : Nat) (x : LsE) (v : List Lv) : Prop where
  o : Own w B 74 4 lvC x.A x.n x.c v
  d : blk x.A ≠ some g
theorem LvO.below {w w' : World} {B g : Nat} {x : LsE} {v : List Lv} (h : LvO w B g x v) (hb : Below w.heap.size w w') : LvO w' B g x v := ⟨h.o.below hb, h.d⟩
theorem LvO.set {w : World} {B g : Nat} {x : LsE} {v : List Lv} (h : LvO w B g x v) (i : Nat) (u : Value) : LvO (w.setCell ⟨g, i, none⟩ u) B g x v := ⟨h.o.keep (gset w g i u) (fun k hk => by injection hk with hk; subst hk; exact h.d), h.d⟩
structure ClP (w wr : World) (A : Option Addr) (n c : Nat) (es ei : List LsE) (vs : List (List Lv)) (i : Nat) : Prop where
  o : Own wr w.heap.size 27 2 lsC A n c ei
  ids : idsL ei = idsL es
  ns : ∀ k, (gE ei k).n = (gE es k).n
  old : ∀ k, i ≤ k → gE ei k = gE es k
  new : ∀ k, k < i → ∀ g, blk A = some g → LvO wr w.heap.size g (gE ei k) (vs.getD k [])
  b : Below w.heap.size w wr
set_option maxHeartbeats 2000000 in
set_option maxRecDepth 100000 in
theorem cloneLists_any (A : Option Addr) (n c : Nat) (es : List LsE) (vs : List (List Lv)) (w : World) (ha : LsT w A n es vs) (hn : n ≤ 1000000) (hns : ∀ k, k < n → (gE es k).n ≤ 1000000) :
    Calls Tryz.prog 16 #[.slice A n c] w fun e w' => ∃ A' c' es', e = .returned (.slice A' n c') ∧ LsT w' A' n es' vs ∧ idsL es' = idsL es ∧ (∀ k, (gE es' k).n = (gE es k).n) ∧ Below w.heap.size w w' := by
  have hl := ha.l.len
  have cl := cloneLs_any A n c es w ha.l hn
  have HNS := Lib.hid hns
  have HV := Lib.hid ha.v
  clear hns
  go_enter Tryz.func16, Tryz.ntmps16
  go_upto_region 2 with (first | (go_at_call 33; refine cl.mono ?_; rintro e w1 ⟨A1, c1, rfl, ho, _, hb1⟩))
  have P0 : ClP w w1 A1 n c1 es es vs 0 := ⟨ho, rfl, fun _ => rfl, fun _ _ => rfl, fun k hk => absurd hk (Nat.not_lt_zero _), hb1⟩
  clear ho hb1 cl
  go_wp2_with fail
  go_loopw [9] (fun vi wr => ∃ (i : Nat) (ei : List LsE), vi = .int .i64 i ∧ i ≤ n ∧ ClP w wr A1 n c1 es ei vs i) (fun vi _ => n - (intOf vi).toNat)
  case atStart => exact ⟨0, es, rfl, Nat.zero_le _, P0⟩
  case round =>
    obtain ⟨i, ei, rfl, hi, P1⟩ := hrel
    clear P0
    by_cases hlt : i < n
    · obtain ⟨g, rfl, hBg, hgw⟩ := P1.o.form (by omega)
      have hel : i < ei.length := by rw [P1.o.len]; exact hlt
      have hE := P1.old i (Nat.le_refl _)
      obtain ⟨ad, ead, _, k0, k1⟩ := (P1.o.sl lsC_len).ls hlt
      injection ead with ead
      subst ead
      rw [hE] at k0 k1
      rw [Addr.add_mid, Nat.zero_add] at k0 k1
      have cv := cloneLv_any (gE es i).A (gE es i).n (gE es i).c (vs.getD i []) wr ((HV.out i hlt).below P1.b) (HNS.out i hlt)
      have hsx := gE_get hel
      rw [hE] at hsx
      have hset := fun (w3 : World) (hO : Own w3 w.heap.size 27 2 lsC (some ⟨g, 0, none⟩) n c1 ei) (A2 : Option Addr) (c2 : Nat) => hO.set1 lsC_len hlt hsx (j := 1) (by omega) (.slice A2 (gE es i).n c2) ⟨(gE es i).id, A2, (gE es i).n, c2⟩ rfl
      have HP := Lib.hid P1
      have HSET := Lib.hid hset
      clear P1 hset hsx
      have hfz := fun (w3 : World) (h3 : Below wr.heap.size wr w3) => (HP.out.o.below h3).row.frozenAt (i * 2 + 1)
      have hcl := fun (w3 : World) (h3 : Below wr.heap.size wr w3) => keep1 h3 k1
      generalize hyn : (gE es i).n = yn at *
      generalize (gE es i).A = yA at *
      generalize (gE es i).c = yc at *
      clear k0
      go_upto_region 5 with fail
      go_wp2_with (first | (go_at_call 34; refine cv.mono ?_; rintro e w3 ⟨A2, c2, rfl, ho, _, hb3⟩; have kf := hfz w3 hb3))
      go_roundw
      case rel =>
        have P := HP.out
        have hO := P.o.below hb3
        have hBw := P.b.size
        refine ⟨i + 1, ei.set i ⟨(gE es i).id, A2, yn, c2⟩, by simp, hlt, HSET.out w3 hO A2 c2, ?_, ?_, ?_, ?_, ?_⟩
        · exact (idsL_set hel _ (by rw [P.old i (Nat.le_refl _)])).trans P.ids
        · intro k
          rw [gE_set hel]
          by_cases h : k = i
          · subst h; rw [if_pos rfl]; exact hyn.symm
          · rw [if_neg h]; exact P.ns k
        · intro k hk
          rw [gE_set hel, if_neg (by omega)]
          exact P.old k (by omega)
        · intro k hk g' hg'
          injection hg' with hg'
          subst hg'
          rw [gE_set hel]
          by_cases h : k = i
          · subst h
            rw [if_pos rfl]
            exact LvO.set ⟨ho.base hBw, fun he => by have := (ho.lt _ he).1; omega⟩ _ _
          · rw [if_neg h]
            exact ((P.new k (by omega) g rfl).below hb3).set _ _
        · exact (below_trans' P.b hBw hb3).setCell (p := ⟨g, i * 2 + 1, none⟩) hBg _
      case measure => rw [intOf, intOf]; omega
    · have hh : i = n := by omega
      subst hh
      go_wp2_with fail
      go_ret
      refine ⟨A1, c1, ei, rfl, ⟨P1.o.sl lsC_len, fun k hk => ?_, fun k hk => ?_, ha.vl⟩, P1.ids, P1.ns, P1.b⟩
      · obtain ⟨g, rfl, _⟩ := P1.o.form (by omega)
        exact (P1.new k hk g rfl).o.sl lvC_len
      · obtain ⟨g, rfl, _⟩ := P1.o.form (by omega)
        exact (P1.new k hk g rfl).o.cap.1
end Go.Proofs.YtbpodnhebjjkaaaGreatDoor

namespace Go.Proofs.YtbpodnhebjjkaaaGreatDoor
open Go.RowKit

def ovB (c : Cn) : Bool := (List.range 9).any fun i => decide ((c i).1 < 0) || decide (1099511627776 < (c i).1)
def nxE (ls : List Lv) (n : Nat) (c : Cn) (level r : Int) : Int := if ckE ls n level ≠ 0 then ckE ls n level else if r < 0 ∨ 32767 < r then 5 else if ovB c = true then 29 else 0
def nxF (ls : List Lv) (n : Nat) (c : Cn) (level r : Int) : Cn := if nxE ls n c level r = 0 then nextC ls n c (level - 1).toNat r else cnZ
theorem ovB_at {c : Cn} {i : Nat} (hi : i < 9) (h : (c i).1 < 0 ∨ 1099511627776 < (c i).1) : ovB c = true := by
  unfold ovB
  rw [List.any_eq_true]
  exact ⟨i, List.mem_range.2 hi, by simpa using h⟩
theorem ovB_no {c : Cn} (h : ∀ i, i < 9 → ¬ ((c i).1 < 0 ∨ 1099511627776 < (c i).1)) : ovB c = false := by
  rw [Bool.eq_false_iff]
  intro hh
  unfold ovB at hh
  rw [List.any_eq_true] at hh
  obtain ⟨i, hi, h2⟩ := hh
  exact h i (List.mem_range.1 hi) (by simpa using h2)
def cnN (c : Cn) : List Value := [.int .i64 (c 0).1, .int .i64 (c 1).1, .int .i64 (c 2).1, .int .i64 (c 3).1, .int .i64 (c 4).1, .int .i64 (c 5).1, .int .i64 (c 6).1, .int .i64 (c 7).1, .int .i64 (c 8).1]
theorem cnN_index (c : Cn) : ∀ i, i < 9 → ∀ w, (Instr.index 84 (.agg (cnN c).toArray) (.int .i64 ((i : Nat) : Int))).run Tryz.prog w = .ok (.int .i64 (c i).1) w :=
  lt9 (p := fun i => ∀ w, (Instr.index 84 (.agg (cnN c).toArray) (.int .i64 ((i : Nat) : Int))).run Tryz.prog w = .ok (.int .i64 (c i).1) w) (fun w => by kernel_rfl) (fun w => by kernel_rfl) (fun w => by kernel_rfl) (fun w => by kernel_rfl) (fun w => by kernel_rfl) (fun w => by kernel_rfl) (fun w => by kernel_rfl) (fun w => by kernel_rfl) (fun w => by kernel_rfl)
theorem Blk.cnN_ {w : World} {g : Nat} {t : TypeId} {c : Cn} (h : Blk w g t (cnA c)) : w.rangeAt g 0 (cnN c) := fun j v hv => by
  rw [Nat.zero_add]
  refine h.cell j ?_
  have hj : j < 9 := by have := (List.getElem?_eq_some_iff.1 hv).1; simpa [cnN] using this
  have : (cnN c)[j]? = (cnA c)[j]? := (lt9 (p := fun j => (cnN c)[j]? = (cnA c)[j]?) rfl rfl rfl rfl rfl rfl rfl rfl rfl) j hj
  rw [← this]; exact hv
theorem size9 (c : Cn) : (Tryz.prog.info? 84).map (·.size) = some (cnN c).length := by kernel_rfl
set_option maxHeartbeats 8000000 in
set_option maxRecDepth 100000 in
theorem next_any (A : Option Addr) (n cA : Nat) (ls : List Lv) (c : Cn) (level r : Int) (w : World) (ha : Sl w 4 lvC A n ls) :
    Calls Tryz.prog 52 #[.slice A n cA, .agg (cnA c), .int .i64 level, .int .i64 r] w fun e w' => e = .returned (.tuple #[.agg (cnA (nxF ls n c level r)), .int .i64 (nxE ls n c level r)]) ∧ Below w.heap.size w w' := by
  have hlen := ha.len
  have T0 := CW.new w c
  have hb0 := ((Below.refl w.heap.size w).alloc (Nat.le_refl _) (.cells (cnA c) 87)).alloc (by simp) (.cells (cnA cnZ) 87)
  have HE := Lib.hid (show nxE ls n c level r = if ckE ls n level ≠ 0 then ckE ls n level else if r < 0 ∨ 32767 < r then 5 else if ovB c = true then 29 else 0 from rfl)
  have HF := Lib.hid (show nxF ls n c level r = if nxE ls n c level r = 0 then nextC ls n c (level - 1).toNat r else cnZ from rfl)
  go_enter Tryz.func52, Tryz.ntmps52
  go_upto_region 0 with fail
  go_cut [5, 8, 9] (fun v5 v8 v9 wx => ∃ p5 p8, v5 = .pointer (some ⟨p5, 0, none⟩) ∧ v8 = .pointer (some ⟨p8, 0, none⟩) ∧ v9 = .int .i64 0 ∧ CW wx w.heap.size p5 p8 c ∧ Below w.heap.size w wx)
  case first =>
    go_wp2_with fail
    go_meet
    case rel => exact ⟨_, _, rfl, rfl, rfl, T0, hb0⟩
  case rest =>
  obtain ⟨p5, p8, rfl, rfl, rfl, T1, hb1⟩ := hcut
  clear T0 hb0
  have cc := checked_any A n cA ls level wc (ha.below hb1)
  by_cases hk : ckE ls n level = 0
  · have HE2 := Lib.hid (HE.out.trans (if_neg (by rw [hk]; simp)))
    rw [hk] at cc
    have hlv : 1 ≤ level ∧ level ≤ n ∧ clE ls = 0 := by
      unfold ckE at hk
      by_cases h1 : clE ls ≠ 0
      · rw [if_pos h1] at hk; exact absurd hk h1
      · rw [if_neg h1] at hk
        by_cases h2 : level < 1 ∨ (n : Int) < level
        · rw [if_pos h2] at hk; omega
        · exact ⟨by omega, by omega, by omega⟩
    have hn := clE_len hlv.2.2
    rw [hlen] at hn
    clear HE hk
    by_cases hr : r < 0 ∨ 32767 < r
    · have HE3 := Lib.hid (HE2.out.trans (if_pos hr))
      have HF3 := Lib.hid (HF.out.trans (if_neg (by rw [HE3.out]; omega)))
      clear HE2 HF
      rcases hr with hr | hr
      all_goals
        (try have hr0 : ¬ r < 0 := by omega)
        go_wp2_with (first | (go_at_call 53; refine cc.mono ?_; rintro er w2 ⟨rfl, hb2⟩; have T2 := T1.below hb2; have B8 := T2.b8; unfold Blk at B8) | (refine wpList_store_row rfl 87 _ _ rfl p8 (cnA cnZ) rfl rfl 87 _ B8 (by kernel_rfl) rfl (cnA_one _) ?_))
        refine bodyPost_ret (results_cell_tmp rfl _ _ p8 87 _ (0, 0) _ rfl (setRow_heap _ p8 _ _ _ _ B8) Tryz.underlying87 rfl (by kernel_rfl)) rfl ?_
        rw [HF3.out, HE3.out]
        exact ⟨rfl, below_setRow (below_trans' hb1 hb1.size hb2) T2.m8 _⟩
    · have hr1 : 0 ≤ r := by omega
      have hr2 : r ≤ 32767 := by omega
      have HE3 := Lib.hid (HE2.out.trans (if_neg hr))
      clear HE2 hr
      obtain ⟨L, rfl⟩ : ∃ L : Nat, level = (L : Int) + 1 := ⟨(level - 1).toNat, by omega⟩
      have eL : ((L : Int) + 1 - 1).toNat = L := by omega
      rw [eL] at HF
      have hL : L < n := by omega
      clear eL
      have hix := Lib.hid (cnN_index c)
      have h9 := size9 c
      go_upto_region 6 with (first | (go_at_call 53; refine cc.mono ?_; rintro er w2 ⟨rfl, hb2⟩))
      have T2 := T1.below hb2
      have hbx := below_trans' hb1 hb1.size hb2
      have rg := T2.b5.cnN_
      clear T1 hb1 hb2 cc
      go_wp2_with (refine wpList_load_mid rfl 84 _ rfl p5 0 rfl (cnN c) _ rg Tryz.underlying84 rfl h9 ?_)
      go_loopw [29] (fun vi wr => ∃ i : Nat, vi = .int .i64 i ∧ i ≤ 9 ∧ (∀ j, j < i → ¬ ((c j).1 < 0 ∨ 1099511627776 < (c j).1)) ∧ CW wr w.heap.size p5 p8 c ∧ Below w.heap.size w wr) (fun vi _ => 9 - (intOf vi).toNat)
      case atStart => exact ⟨0, rfl, by omega, fun j h => absurd h (by omega), T2, hbx⟩
      case round =>
        obtain ⟨i, rfl, hi, hok, T3, hbw⟩ := hrel
        have HOK := Lib.hid hok
        clear hok T2 hbx rg
        by_cases hlt : i < 9
        · have hlt' : (i : Int) < 9 := by omega
          have hii := hix.out i hlt
          have B8 := T3.b8
          unfold Blk at B8
          by_cases hbad : (c i).1 < 0 ∨ 1099511627776 < (c i).1
          · have HE5 := Lib.hid (HE3.out.trans (if_pos (ovB_at hlt hbad)))
            have HF5 := Lib.hid (HF.out.trans (if_neg (by rw [HE5.out]; omega)))
            clear HE3 HF
            rcases hbad with hbad | hbad
            all_goals
              (try have hb0 : ¬ (c i).1 < 0 := by omega)
              go_wp2_with (refine wpList_store_row rfl 87 _ _ rfl p8 (cnA cnZ) rfl rfl 87 _ B8 (by kernel_rfl) rfl (cnA_one _) ?_)
              refine bodyPost_ret (results_cell_tmp rfl _ _ p8 87 _ (0, 0) _ rfl (setRow_heap _ p8 _ _ _ _ B8) Tryz.underlying87 rfl (by kernel_rfl)) rfl ?_
              rw [HF5.out, HE5.out]
              exact ⟨rfl, below_setRow hbw T3.m8 _⟩
          · have hb1 : ¬ (c i).1 < 0 := by omega
            have hb2 : ¬ 1099511627776 < (c i).1 := by omega
            go_wp2_with fail
            go_roundw
            case measure => rw [intOf, intOf]; omega
            case rel => exact ⟨i + 1, by simp, by omega, fun j hj => by rcases (show j < i ∨ j = i by omega) with h | rfl; exact HOK.out j h; omega, T3, hbw⟩
        · have : i = 9 := by omega
          subst this
          have hcc : ¬ ((c L).1 < 0 ∨ 1099511627776 < (c L).1) := HOK.out L (by omega)
          have HE5 := Lib.hid (HE3.out.trans (if_neg (by rw [ovB_no HOK.out]; simp)))
          have HF5 := Lib.hid (HF.out.trans (if_pos HE5.out))
          clear HE3 HF
          have cn := nstep_any A n cA ls c 1099511627776 L r wr (ha.below hbw) hn.2 hL (by omega) (by omega)
          have B5 := T3.b5
          unfold Blk at B5
          go_wp2_with (first | (refine wpList_load_row rfl 87 _ rfl p5 rfl 87 _ (0, 0) _ B5 Tryz.underlying87 rfl (by kernel_rfl) ?_) | (go_at_call 67; refine cn.mono ?_; rintro er w3 ⟨rfl, hb3⟩; have T4 := T3.below hb3; have B8 := T4.b8; unfold Blk at B8) | (refine wpList_store_row rfl 87 _ _ rfl p8 _ rfl rfl 87 _ B8 (by kernel_rfl) rfl (cnA_one _) ?_))
          refine bodyPost_ret (results_cell_tmp rfl _ _ p8 87 _ (0, 0) _ rfl (setRow_heap _ p8 _ _ _ _ B8) Tryz.underlying87 rfl (by kernel_rfl)) rfl ?_
          rw [HF5.out, HE5.out]
          exact ⟨rfl, below_setRow (below_trans' hbw hbw.size hb3) T4.m8 _⟩
  · have HE2 := Lib.hid (HE.out.trans (if_pos hk))
    have HF2 := Lib.hid (HF.out.trans (if_neg (by rw [HE2.out]; exact hk)))
    clear HE HF
    generalize ckE ls n level = ce at *
    go_wp2_with (first | (go_at_call 53; refine cc.mono ?_; rintro er w2 ⟨rfl, hb2⟩; have T2 := T1.below hb2; have B8 := T2.b8; unfold Blk at B8) | (refine wpList_store_row rfl 87 _ _ rfl p8 (cnA cnZ) rfl rfl 87 _ B8 (by kernel_rfl) rfl (cnA_one _) ?_))
    refine bodyPost_ret (results_cell_tmp rfl _ _ p8 87 _ (0, 0) _ rfl (setRow_heap _ p8 _ _ _ _ B8) Tryz.underlying87 rfl (by kernel_rfl)) rfl ?_
    rw [HF2.out, HE2.out]
    exact ⟨rfl, below_setRow (below_trans' hb1 hb1.size hb2) T2.m8 _⟩
end Go.Proofs.YtbpodnhebjjkaaaGreatDoor
