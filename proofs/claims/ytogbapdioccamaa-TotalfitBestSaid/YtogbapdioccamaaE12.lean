/- int slices written in place; makeSlice. -/
import Derived.Test.YtogbapdioccamaaE10
import Derived.Laws.MakeOwn
namespace Go.Proofs.Ytogbapdioccamaa
open Go.RowKit

/-- block g holds the numbers ys, one cell each. -/
def Arr (w : World) (g : Nat) (t : TypeId) (ys : List Int) : Prop := Blk w g t (ys.map (Value.int .i64)).toArray
section
variable {w w' : World} {g : Nat} {t : TypeId} {ys : List Int}
theorem Arr.lt (h : Arr w g t ys) : g < w.heap.size := Blk.lt h
theorem Arr.cell (h : Arr w g t ys) {k : Nat} (hk : k < ys.length) : w.cell? ⟨g, k, none⟩ = some (.int .i64 (gI ys k)) :=
  Blk.cell h k (by rw [List.getElem?_toArray, List.getElem?_map, gI_some hk]; rfl)
theorem Arr.frozen (h : Arr w g t ys) (k : Nat) : w.frozen? ⟨g, k, none⟩ = false := Blk.frozen h k
theorem Arr.set_ (h : Arr w g t ys) (k : Nat) (x : Int) : Arr (w.setCell ⟨g, k, none⟩ (.int .i64 x)) g t (ys.set k x) := by
  have := Blk.set_ h k (.int .i64 x)
  unfold Arr
  rw [List.map_set]
  simpa using this
theorem Arr.keep {row : Option Nat} (h : Arr w g t ys) (hb : w.grownBy w' row) (hg : row ≠ some g) : Arr w' g t ys := Blk.keep h hb hg
theorem Arr.other (h : Arr w g t ys) {g' : Nat} (hg : g' ≠ g) (i : Nat) (u : Value) : Arr (w.setCell ⟨g', i, none⟩ u) g t ys :=
  Blk.keep h (only_set (World.grownBy.refl _ _) i u) (by intro e; injection e with e; exact hg e)
theorem Arr.drewN (h : Arr w g t ys) (d : Nat) : Arr (w.drewN d) g t ys := h
theorem Arr.sl (h : Arr w g t ys) : Sl w 1 intC (some ⟨g, 0, none⟩) ys.length ys := by
  refine ⟨rfl, fun _ => ⟨_, rfl, h.lt, fun i x hx j u hu => ?_⟩⟩
  have hj : j = 0 := by
    rcases j with _ | j
    · rfl
    · simp [intC] at hu
  subst hj
  simp only [intC, List.getElem?_cons_zero, Option.some.injEq] at hu
  subst hu
  have hi : i < ys.length := (List.getElem?_eq_some_iff.1 hx).1
  have e : x = gI ys i := by rw [gI_some hi] at hx; injection hx with hx; exact hx.symm
  rw [e]
  have e2 : (Addr.add ⟨g, 0, none⟩ (i * 1 + 0) : Addr) = ⟨g, i, none⟩ := by
    unfold Addr.add
    by_cases h0 : i = 0
    · subst h0; rfl
    · rw [if_neg (by omega)]; simp
  rw [e2]
  exact h.cell hi
end
theorem gI_set {ys : List Int} {k : Nat} (x : Int) (hk : k < ys.length) (i : Nat) : gI (ys.set k x) i = if i = k then x else gI ys i := by
  unfold gI
  rw [List.getD_eq_getElem?_getD, List.getD_eq_getElem?_getD, List.getElem?_set]
  by_cases h : k = i
  · subst h; simp [hk]
  · rw [if_neg h, if_neg (by omega)]
def zl (n : Nat) : List Int := List.replicate n 0
theorem gI_zl (n k : Nat) : gI (zl n) k = 0 := by
  unfold gI zl
  rw [List.getD_eq_getElem?_getD, List.getElem?_replicate]
  split <;> rfl
theorem ext_gI {xs ys : List Int} (hl : xs.length = ys.length) (h : ∀ k, k < xs.length → gI xs k = gI ys k) : xs = ys := by
  refine List.ext_getElem? fun i => ?_
  by_cases hi : i < xs.length
  · rw [gI_some hi, gI_some (by omega), h i hi]
  · rw [List.getElem?_eq_none (by omega), List.getElem?_eq_none (by omega)]
def mkC (n : Nat) : Array Value := ((zl n).map (Value.int .i64)).toArray
theorem mkI (n : Nat) (hn : n ≤ 100000) (w : World) : (Instr.makeSlice 23 (.int .i64 (n : Int)) (.int .i64 (n : Int))).run Try.prog w =
    .ok (.slice (some ⟨w.heap.size, 0, none⟩) n n) (w.alloc (.cells (mkC n) 3)) := by
  obtain ⟨i, h1, h2, h3, h4⟩ := info_parts (show (Try.prog.info? 3).map (fun i => (i.zero, i.size, i.bytes)) = some (some (.int .i64 0), 1, 8) by kernel_rfl)
  have hr := run_make (P := Try.prog) w 23 3 i (.int .i64 0) Try.underlying23 h1 h2 .i64 .i64 n n (by omega) (Int.le_refl _) (by rw [h4]; omega) (by omega)
  rw [hr]
  simp only [Int.toNat_natCast, h3, Nat.mul_one]
  congr 3
  unfold mkC zl madeCells
  apply Array.ext'
  simp only [List.map_replicate, Array.toList_map, Array.toList_range]
  refine List.eq_replicate_iff.2 ⟨by simp, fun b hb => ?_⟩
  obtain ⟨x, _, rfl⟩ := List.mem_map.1 hb
  show (#[Value.int .i64 0] : Array Value)[x % 1]! = _
  rw [Nat.mod_one]
  rfl
/-- the paragraph as it is filled: its block, and the four rows. -/
structure PW (w wx : World) (A M : Option Addr) (n c m d g b1 b2 b3 b4 : Nat) (l1 l2 l3 l4 : List Int) : Prop where
  blk : Blk wx g 88 #[.slice A n c, .slice M m d, .slice (some ⟨b1, 0, none⟩) (n + 1) (n + 1), .slice (some ⟨b2, 0, none⟩) (n + 1) (n + 1), .slice (some ⟨b3, 0, none⟩) (n + 1) (n + 1), .slice (some ⟨b4, 0, none⟩) (n + 1) (n + 1)]
  a1 : Arr wx b1 3 l1
  a2 : Arr wx b2 3 l2
  a3 : Arr wx b3 3 l3
  a4 : Arr wx b4 3 l4
  n1 : l1.length = n + 1
  n2 : l2.length = n + 1
  n3 : l3.length = n + 1
  n4 : l4.length = n + 1
  ap : g ≠ b1 ∧ g ≠ b2 ∧ g ≠ b3 ∧ g ≠ b4 ∧ b1 ≠ b2 ∧ b1 ≠ b3 ∧ b1 ≠ b4 ∧ b2 ≠ b3 ∧ b2 ≠ b4 ∧ b3 ≠ b4 ∧ w.heap.size ≤ b1 ∧ w.heap.size ≤ b2 ∧ w.heap.size ≤ b3 ∧ w.heap.size ≤ b4
  bw : Below w.heap.size w wx
section
variable {w wx wy : World} {A M : Option Addr} {n c m d g b1 b2 b3 b4 : Nat} {l1 l2 l3 l4 : List Int}
theorem PW.drewN (h : PW w wx A M n c m d g b1 b2 b3 b4 l1 l2 l3 l4) (k : Nat) : PW w (wx.drewN k) A M n c m d g b1 b2 b3 b4 l1 l2 l3 l4 :=
  ⟨h.blk.drewN k, h.a1.drewN k, h.a2.drewN k, h.a3.drewN k, h.a4.drewN k, h.n1, h.n2, h.n3, h.n4, h.ap, below_drewN h.bw k⟩
theorem PW.below (h : PW w wx A M n c m d g b1 b2 b3 b4 l1 l2 l3 l4) (hb : Below wx.heap.size wx wy) : PW w wy A M n c m d g b1 b2 b3 b4 l1 l2 l3 l4 :=
  ⟨h.blk.below hb, Blk.below h.a1 hb, Blk.below h.a2 hb, Blk.below h.a3 hb, Blk.below h.a4 hb, h.n1, h.n2, h.n3, h.n4, h.ap, below_trans' h.bw h.bw.size hb⟩
theorem setBw (h : Below w.heap.size w wx) {b : Nat} (hb : w.heap.size ≤ b) (i : Nat) (u : Value) : Below w.heap.size w (wx.setCell ⟨b, i, none⟩ u) :=
  h.grown (only_set (World.grownBy.refl _ _) i u) h.size (fun k hk => by injection hk with hk; omega)
theorem Blk.other {t : TypeId} {cs : Array Value} (h : Blk wx g t cs) {g' : Nat} (hg : g' ≠ g) (i : Nat) (u : Value) : Blk (wx.setCell ⟨g', i, none⟩ u) g t cs :=
  Blk.keep h (only_set (World.grownBy.refl _ _) i u) (by intro e; injection e with e; exact hg e)
theorem PW.set1 (h : PW w wx A M n c m d g b1 b2 b3 b4 l1 l2 l3 l4) (i : Nat) (x : Int) : PW w (wx.setCell ⟨b1, i, none⟩ (.int .i64 x)) A M n c m d g b1 b2 b3 b4 (l1.set i x) l2 l3 l4 := by
  obtain ⟨p1, p2, p3, p4, p5, p6, p7, p8, p9, p10, p11, p12, p13, p14⟩ := h.ap
  exact ⟨h.blk.other (by omega) _ _, h.a1.set_ i x, h.a2.other (by omega) _ _, h.a3.other (by omega) _ _, h.a4.other (by omega) _ _, by rw [List.length_set, h.n1], h.n2, h.n3, h.n4, h.ap, setBw h.bw (by omega) _ _⟩
theorem PW.set2 (h : PW w wx A M n c m d g b1 b2 b3 b4 l1 l2 l3 l4) (i : Nat) (x : Int) : PW w (wx.setCell ⟨b2, i, none⟩ (.int .i64 x)) A M n c m d g b1 b2 b3 b4 l1 (l2.set i x) l3 l4 := by
  obtain ⟨p1, p2, p3, p4, p5, p6, p7, p8, p9, p10, p11, p12, p13, p14⟩ := h.ap
  exact ⟨h.blk.other (by omega) _ _, h.a1.other (by omega) _ _, h.a2.set_ i x, h.a3.other (by omega) _ _, h.a4.other (by omega) _ _, h.n1, by rw [List.length_set, h.n2], h.n3, h.n4, h.ap, setBw h.bw (by omega) _ _⟩
theorem PW.set3 (h : PW w wx A M n c m d g b1 b2 b3 b4 l1 l2 l3 l4) (i : Nat) (x : Int) : PW w (wx.setCell ⟨b3, i, none⟩ (.int .i64 x)) A M n c m d g b1 b2 b3 b4 l1 l2 (l3.set i x) l4 := by
  obtain ⟨p1, p2, p3, p4, p5, p6, p7, p8, p9, p10, p11, p12, p13, p14⟩ := h.ap
  exact ⟨h.blk.other (by omega) _ _, h.a1.other (by omega) _ _, h.a2.other (by omega) _ _, h.a3.set_ i x, h.a4.other (by omega) _ _, h.n1, h.n2, by rw [List.length_set, h.n3], h.n4, h.ap, setBw h.bw (by omega) _ _⟩
theorem PW.set4 (h : PW w wx A M n c m d g b1 b2 b3 b4 l1 l2 l3 l4) (i : Nat) (x : Int) : PW w (wx.setCell ⟨b4, i, none⟩ (.int .i64 x)) A M n c m d g b1 b2 b3 b4 l1 l2 l3 (l4.set i x) := by
  obtain ⟨p1, p2, p3, p4, p5, p6, p7, p8, p9, p10, p11, p12, p13, p14⟩ := h.ap
  exact ⟨h.blk.other (by omega) _ _, h.a1.other (by omega) _ _, h.a2.other (by omega) _ _, h.a3.other (by omega) _ _, h.a4.set_ i x, h.n1, h.n2, h.n3, by rw [List.length_set, h.n4], h.ap, setBw h.bw (by omega) _ _⟩
end
theorem PW.new {w : World} {A M : Option Addr} {n c m d b1 b2 b3 b4 : Nat} (cs : Array Value) (hcs : cs = #[.slice A n c, .slice M m d, .slice (some ⟨b1, 0, none⟩) (n + 1) (n + 1), .slice (some ⟨b2, 0, none⟩) (n + 1) (n + 1), .slice (some ⟨b3, 0, none⟩) (n + 1) (n + 1), .slice (some ⟨b4, 0, none⟩) (n + 1) (n + 1)])
    (hp : b1 ≠ b2 ∧ b1 ≠ b3 ∧ b1 ≠ b4 ∧ b2 ≠ b3 ∧ b2 ≠ b4 ∧ b3 ≠ b4 ∧ w.heap.size ≤ b1 ∧ w.heap.size ≤ b2 ∧ w.heap.size ≤ b3 ∧ w.heap.size ≤ b4 ∧ b1 < w.heap.size + 4 ∧ b2 < w.heap.size + 4 ∧ b3 < w.heap.size + 4 ∧ b4 < w.heap.size + 4) (k : Nat) :
    PW w ((((((w.alloc (.cells (mkC (n + 1)) 3)).alloc (.cells (mkC (n + 1)) 3)).alloc (.cells (mkC (n + 1)) 3)).alloc (.cells (mkC (n + 1)) 3)).alloc (.cells cs 88)).drewN k) A M n c m d (w.heap.size + 1 + 1 + 1 + 1) b1 b2 b3 b4 (zl (n + 1)) (zl (n + 1)) (zl (n + 1)) (zl (n + 1)) := by
  subst hcs
  obtain ⟨p1, p2, p3, p4, p5, p6, p7, p8, p9, p10, p11, p12, p13, p14⟩ := hp
  have hz : (zl (n + 1)).length = n + 1 := by simp [zl]
  refine PW.drewN ?_ k
  have hA : ∀ b, w.heap.size ≤ b → b < w.heap.size + 4 → Arr (((((w.alloc (.cells (mkC (n + 1)) 3)).alloc (.cells (mkC (n + 1)) 3)).alloc (.cells (mkC (n + 1)) 3)).alloc (.cells (mkC (n + 1)) 3)).alloc (.cells #[.slice A n c, .slice M m d, .slice (some ⟨b1, 0, none⟩) (n + 1) (n + 1), .slice (some ⟨b2, 0, none⟩) (n + 1) (n + 1), .slice (some ⟨b3, 0, none⟩) (n + 1) (n + 1), .slice (some ⟨b4, 0, none⟩) (n + 1) (n + 1)] 88)) b 3 (zl (n + 1)) := by
    intro b h1 h2
    refine Blk.alloc ?_ _
    have h3 : b = w.heap.size ∨ b = w.heap.size + 1 ∨ b = w.heap.size + 2 ∨ b = w.heap.size + 3 := by omega
    rcases h3 with rfl | rfl | rfl | rfl
    · exact (((Blk.new w _ _).alloc _).alloc _).alloc _
    · exact ((Blk.new2 w _ _ _).alloc _).alloc _
    · have h := Blk.new2 (w.alloc (.cells (mkC (n + 1)) 3)) (.cells (mkC (n + 1)) 3) 3 (mkC (n + 1))
      rw [show (w.alloc (.cells (mkC (n + 1)) 3)).heap.size + 1 = w.heap.size + 2 by simp] at h
      exact h.alloc _
    · have h := Blk.new2 ((w.alloc (.cells (mkC (n + 1)) 3)).alloc (.cells (mkC (n + 1)) 3)) (.cells (mkC (n + 1)) 3) 3 (mkC (n + 1))
      rw [show ((w.alloc (.cells (mkC (n + 1)) 3)).alloc (.cells (mkC (n + 1)) 3)).heap.size + 1 = w.heap.size + 3 by simp] at h
      exact h
  refine ⟨?_, hA _ p7 p11, hA _ p8 p12, hA _ p9 p13, hA _ p10 p14, hz, hz, hz, hz, ⟨by omega, by omega, by omega, by omega, p1, p2, p3, p4, p5, p6, p7, p8, p9, p10⟩, ?_⟩
  · have h := Blk.new ((((w.alloc (.cells (mkC (n + 1)) 3)).alloc (.cells (mkC (n + 1)) 3)).alloc (.cells (mkC (n + 1)) 3)).alloc (.cells (mkC (n + 1)) 3)) 88 #[.slice A n c, .slice M m d, .slice (some ⟨b1, 0, none⟩) (n + 1) (n + 1), .slice (some ⟨b2, 0, none⟩) (n + 1) (n + 1), .slice (some ⟨b3, 0, none⟩) (n + 1) (n + 1), .slice (some ⟨b4, 0, none⟩) (n + 1) (n + 1)]
    rw [show ((((w.alloc (.cells (mkC (n + 1)) 3)).alloc (.cells (mkC (n + 1)) 3)).alloc (.cells (mkC (n + 1)) 3)).alloc (.cells (mkC (n + 1)) 3)).heap.size = w.heap.size + 1 + 1 + 1 + 1 by simp] at h
    exact h
  · exact (((((Below.refl _ _).alloc (Nat.le_refl _) _).alloc (by simp) _).alloc (by simp <;> omega) _).alloc (by simp <;> omega) _).alloc (by simp <;> omega) _

/-- the sums up to k, zero beyond. -/
def preL (f : It → Int) (xs : List It) (n k : Nat) : List Int := (List.range (n + 1)).map (fun i => if i ≤ k then sumTo f xs i else 0)
theorem preL_len {f : It → Int} {xs : List It} {n k : Nat} : (preL f xs n k).length = n + 1 := by simp [preL]
theorem preL_zero (f : It → Int) (xs : List It) (n : Nat) : zl (n + 1) = preL f xs n 0 := by
  refine ext_gI (by simp [zl, preL]) fun k hk => ?_
  have hk : k < n + 1 := by simpa [zl] using hk
  rw [gI_zl]
  unfold preL
  rw [gI_range _ hk]
  by_cases h : k ≤ 0
  · have : k = 0 := by omega
    subst this; rfl
  · rw [if_neg h]
theorem preL_at {f : It → Int} {xs : List It} {n k : Nat} (hk : k ≤ n) : gI (preL f xs n k) k = sumTo f xs k := by
  unfold preL; rw [gI_range _ (by omega), if_pos (Nat.le_refl _)]
theorem preL_set {f : It → Int} {xs : List It} {n k : Nat} (hk : k < n) {x : Int} (hx : x = sumTo f xs k + f (gT xs k)) : (preL f xs n k).set (k + 1) x = preL f xs n (k + 1) := by
  subst hx
  refine ext_gI (by simp [preL]) fun i hi => ?_
  have hi : i < n + 1 := by simpa [preL] using hi
  rw [gI_set _ (by rw [preL_len]; omega)]
  unfold preL
  rw [gI_range _ hi, gI_range _ hi]
  by_cases h : i = k + 1
  · subst h; rw [if_pos rfl, if_pos (Nat.le_refl _)]; rfl
  · rw [if_neg h]
    by_cases h2 : i ≤ k
    · rw [if_pos h2, if_pos (by omega)]
    · rw [if_neg h2, if_neg (by omega)]
theorem preL_end (f : It → Int) (xs : List It) (n : Nat) : preL f xs n n = sumL f xs n := by
  refine ext_gI (by simp [preL, sumL]) fun i hi => ?_
  have hi : i < n + 1 := by simpa [preL] using hi
  unfold preL sumL
  rw [gI_range _ hi, gI_range _ hi, if_pos (by omega)]
/-- the beginnings from k on, zero before. -/
def posL (xs : List It) (n k : Nat) : List Int := (List.range (n + 1)).map (fun i => if k ≤ i then (start xs i : Int) else 0)
theorem posL_len {xs : List It} {n k : Nat} : (posL xs n k).length = n + 1 := by simp [posL]
theorem start_len (xs : List It) : start xs xs.length = xs.length := by unfold start; rw [Nat.sub_self]; rfl
theorem start_lt {xs : List It} {k : Nat} (hk : k < xs.length) : start xs k = if (gT xs k).kind = 1 ∨ forcedI (gT xs k) = true then k else start xs (k + 1) := by
  unfold start
  rw [show xs.length - k = (xs.length - (k + 1)) + 1 by omega]
  rfl
theorem posL_first (xs : List It) {n : Nat} (hn : xs.length = n) : (zl (n + 1)).set n (n : Int) = posL xs n n := by
  refine ext_gI (by simp [zl, posL]) fun i hi => ?_
  have hi : i < n + 1 := by simpa [zl] using hi
  rw [gI_set _ (by simp [zl]), gI_zl]
  unfold posL
  rw [gI_range _ hi]
  by_cases h : i = n
  · subst h; rw [if_pos rfl, if_pos (Nat.le_refl _), ← hn, start_len]
  · rw [if_neg h, if_neg (by omega)]
theorem posL_at {xs : List It} {n k : Nat} (hk : k ≤ n) : gI (posL xs n k) k = (start xs k : Int) := by
  unfold posL; rw [gI_range _ (by omega), if_pos (Nat.le_refl _)]
theorem posL_set {xs : List It} {n k : Nat} (hk : k < n) : (posL xs n (k + 1)).set k (start xs k : Int) = posL xs n k := by
  refine ext_gI (by simp [posL]) fun i hi => ?_
  have hi : i < n + 1 := by simpa [posL] using hi
  rw [gI_set _ (by rw [posL_len]; omega)]
  unfold posL
  rw [gI_range _ hi, gI_range _ hi]
  by_cases h : i = k
  · subst h; rw [if_pos rfl, if_pos (Nat.le_refl _)]
  · rw [if_neg h]
    by_cases h2 : k + 1 ≤ i
    · rw [if_pos h2, if_pos (by omega)]
    · rw [if_neg h2, if_neg (by omega)]
theorem posL_end (xs : List It) (n : Nat) : posL xs n 0 = staL xs n := by
  refine ext_gI (by simp [posL, staL]) fun i hi => ?_
  have hi : i < n + 1 := by simpa [posL] using hi
  unfold posL staL
  rw [gI_range _ hi, gI_range _ hi, if_pos (by omega)]
theorem PW.par {w wx : World} {A M : Option Addr} {n c m d g b1 b2 b3 b4 : Nat} {xs : List It} {ms : List Int} (h : PW w wx A M n c m d g b1 b2 b3 b4 (preL wOf xs n n) (preL (·.stretch) xs n n) (preL (·.shrink) xs n n) (posL xs n 0)) (ha : Sl w 6 itC A n xs) (hm : Sl w 1 intC M m ms) :
    Par wx g ⟨A, c, M, d, some ⟨b1, 0, none⟩, some ⟨b2, 0, none⟩, some ⟨b3, 0, none⟩, some ⟨b4, 0, none⟩⟩ n m xs ms := by
  obtain ⟨hb, a1, a2, a3, a4, n1, n2, n3, n4, _, bw⟩ := h
  rw [preL_end] at a1 a2 a3 n1 n2 n3
  rw [posL_end] at a4 n4
  have s1 := a1.sl
  have s2 := a2.sl
  have s3 := a3.sl
  have s4 := a4.sl
  rw [n1] at s1
  rw [n2] at s2
  rw [n3] at s3
  rw [n4] at s4
  exact ⟨hb, ha.below bw, hm.below bw, s1, s2, s3, s4⟩
end Go.Proofs.Ytogbapdioccamaa
