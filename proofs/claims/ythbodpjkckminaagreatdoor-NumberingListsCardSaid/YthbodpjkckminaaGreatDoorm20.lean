/- the law's documents of list paragraphs. the law's list: a document of list paragraphs. The documents that the laws build, plain. The items that the laws build from: lists, levels, restarts; plain. -/
import Derived.Test.YthbodpjkckminaaGreatDoorm19
namespace Go.Proofs.YthbodpjkckminaaGreatDoor
open Go.RowKit

section
variable {P : Program} {ops : Array Oper} {Q : Exit → Act → World → Prop} {md : Region.Mode} {S : World → Prop} {fuel : Nat} {listed : Array Bool} {a : Act} {w : World} {o : Oper} {α : Type} {s : Nat} {enc : α → List Value} {A : Option Addr} {n c : Nat} {xs : List α} {B : Nat} {e : TypeId} {t : TypeId} {b : Nat}
/-- 's = append(s, x, y)' in a region that draws its order. -/
theorem hx_pushN (i : Nat) (d : Option Tmp) (T : Elem P t e s b) (henc : ∀ x : α, (enc x).length = s) (hone : ∀ x : α, ∀ u ∈ enc x, u.oneCell' = true) (sx ox : Operand) (hi : ops[i]? = some o) (hwt : Region.wanted o (yielded ops a.tmps) = true) (hd : o.dst = d)
    (ho : o.op = .call { callee := .builtin .append, args := #[sx, ox], argTypes := #[t, t] })
    (hs : a.eval sx = .slice A n c) (g m cm : Nat) (hx : a.eval ox = .slice (some ⟨g, 0, none⟩) m cm) (hown : Own w B e s enc A n c xs) (ys : List α) (hb : Blk w g e (ys.flatMap enc).toArray) (hm : m = ys.length) (h0 : 0 < m)
    (hn : (n + m) * b ≤ 140737488355328 ∧ n + m ≤ maxLen) (hB : B ≤ w.heap.size)
    (h : ∀ A' c' w', Own w' B e s enc A' (n + m) c' (xs ++ ys) → w.grownBy w' (blk A) → S w' ∧ wpAnyH P md ops Q S fuel (listed.setIfInBounds i true) (a.put d (.slice A' (n + m) c')) w') : StepH P md ops Q S fuel listed a w i := by
  refine hx_wp i hi hwt ?_
  obtain ⟨ht, ti, z, hti, hz, hsz, hbb, hzs, hs0⟩ := T
  obtain ⟨v', w', hr, h2, h3, _, _⟩ := run_append_own_at (P := P) w B t o.type e ti z s b ht hti hz hsz hbb hzs hs0 (.slice A n c) n (xs.flatMap enc) hown.row ⟨g, 0, none⟩ m cm (ys.flatMap enc) (by rw [flat_len henc, hm]) (fun j u hu => by
    rw [addr0]
    exact hb.cell j (by simpa using hu)) (fun u hu => by
    obtain ⟨y, _, hy⟩ := List.mem_flatMap.1 hu
    exact hone y u hy) hn.2 hn.1 hB
  unfold Oper.wp execOp
  simp only [ho, resolve, invoke, builtin, Sem.run_bind, Sem.run_pure, Result.andThen_ok, List.map_toArray, List.map_cons, List.map_nil, hs, hx, hr]
  obtain ⟨g', cap, hv, _, _⟩ := h2.form (by omega)
  subst hv
  rw [blk_own] at h3
  subst hd
  exact h (some ⟨g', 0, none⟩) cap w' ⟨by rw [List.length_append, hown.len, hm], by rw [List.flatMap_append]; simpa using h2⟩ h3
end
def txtX : Fi := ⟨1, ⟨#[120]⟩, []⟩
def parV (v : Int) : Fi := ⟨2, ⟨#[]⟩, [⟨33, 1⟩, ⟨34, v⟩]⟩
def ysK (of : List Int) : List Fi := of.flatMap fun v => [txtX, parV v]
theorem ysK_len (of : List Int) : (ysK of).length = 2 * of.length := by
  induction of with
  | nil => rfl
  | cons v r ih => unfold ysK at ih ⊢; rw [List.flatMap_cons, List.length_append, ih]; simp; omega
theorem ysK_snoc (of : List Int) (v : Int) : ysK (of ++ [v]) = ysK of ++ [txtX, parV v] := by unfold ysK; rw [List.flatMap_append]; rfl
theorem gFi_append {ys zs : List Fi} (k : Nat) : gFi (ys ++ zs) k = if k < ys.length then gFi ys k else gFi zs (k - ys.length) := by
  unfold gFi
  by_cases h : k < ys.length
  · rw [if_pos h, List.getD_eq_getElem?_getD, List.getElem?_append_left h, ← List.getD_eq_getElem?_getD]
  · rw [if_neg h, List.getD_eq_getElem?_getD, List.getElem?_append_right (by omega), ← List.getD_eq_getElem?_getD]
theorem gIt_app {ys zs : List It} (k : Nat) : gIt (ys ++ zs) k = if k < ys.length then gIt ys k else gIt zs (k - ys.length) := by
  unfold gIt
  by_cases h : k < ys.length
  · rw [if_pos h, List.getD_eq_getElem?_getD, List.getElem?_append_left h, ← List.getD_eq_getElem?_getD]
  · rw [if_neg h, List.getD_eq_getElem?_getD, List.getElem?_append_right (by omega), ← List.getD_eq_getElem?_getD]
/-- two items more: a text, and a paragraph's mark whose properties lie in a block of their own. -/
theorem Mk_.two {w w' : World} {B : Nat} {A A' : Option Addr} {n c c' pg : Nat} {zs : List It} {ys : List Fi} {v : Int} (h : Mk_ w B A n c zs ys) (hl : ys.length = n) (hp : Own w B 91 2 prC (some ⟨pg, 0, none⟩) 2 2 [⟨33, 1⟩, ⟨34, v⟩])
    (hO : Own w' B 102 11 itC A' (n + 2) c' (zs ++ [itF txtX svZ, itF (parV v) ⟨some ⟨pg, 0, none⟩, 2, 2⟩])) (hg : w.grownBy w' (blk A)) :
    Mk_ w' B A' (n + 2) c' (zs ++ [itF txtX svZ, itF (parV v) ⟨some ⟨pg, 0, none⟩, 2, 2⟩]) (ys ++ [txtX, parV v]) := by
  have hz := h.o.len
  refine ⟨hO, fun k hk => ?_⟩
  rw [gIt_app, gFi_append, hz, hl]
  by_cases h1 : k < n
  · rw [if_pos h1, if_pos h1]
    obtain ⟨s, e, hs⟩ := h.f k h1
    exact ⟨s, e, hs.keep hg (fun k hk => hs.apart_ty' h.o (by decide) k hk)⟩
  · rw [if_neg h1, if_neg h1]
    rcases (show k - n = 0 ∨ k - n = 1 by omega) with e | e
    · rw [e]; exact ⟨svZ, rfl, Own.nil_ _ _ _ _ _⟩
    · rw [e]; exact ⟨_, rfl, hp.keep hg (fun k hk => hp.apart_ty' h.o (by decide) k hk)⟩
end Go.Proofs.YthbodpjkckminaaGreatDoor

namespace Go.Proofs.YthbodpjkckminaaGreatDoor
open Go.RowKit

structure LkS (w : World) (p4 p5 gl : Nat) (A : Option Addr) (n c : Nat) (AI : Option Addr) (mi cI : Nat) (zs : List It) (ys : List Fi) (v : World) : Prop where
  b4 : Blk v p4 63 #[.slice none 0 0, .slice none 0 0, .int .i64 0, .int .i64 0, .slice none 0 0, .slice none 0 0, .slice none 0 0, .slice none 0 0, .slice none 0 0, .slice none 0 0, .slice none 0 0]
  b5 : Blk v p5 63 #[.slice AI mi cI, .slice none 0 0, .int .i64 0, .int .i64 0, .slice none 0 0, .slice none 0 0, .slice none 0 0, .slice none 0 0, .slice (some ⟨gl, 0, none⟩) 1 1, .slice none 0 0, .slice none 0 0]
  bl : Blk v gl 96 #[.int .i64 1, .slice A n c]
  fm : Mk_ v w.heap.size AI mi cI zs ys
  l4 : w.heap.size ≤ p4
  l5 : w.heap.size ≤ p5
  n45 : p4 ≠ p5
  bel : Below w.heap.size w v
section
variable {w v v' : World} {p4 p5 gl n c mi cI : Nat} {A AI : Option Addr} {zs : List It} {ys : List Fi}
theorem LkS.sB (h : LkS w p4 p5 gl A n c AI mi cI zs ys v) : w.heap.size ≤ v.heap.size := h.bel.size
theorem LkS.below (h : LkS w p4 p5 gl A n c AI mi cI zs ys v) (hb : Below v.heap.size v v') : LkS w p4 p5 gl A n c AI mi cI zs ys v' :=
  ⟨h.b4.below hb, h.b5.below hb, h.bl.below hb, h.fm.below hb, h.l4, h.l5, h.n45, below_trans' h.bel h.bel.size hb⟩
theorem LkS.grow9 (h : LkS w p4 p5 gl A n c AI mi cI zs ys v) {A' : Option Addr} {m' c' : Nat} {zs' : List It} (_ : Own v' w.heap.size 102 11 itC A' m' c' zs') (hg : v.grownBy v' (blk AI)) : Below w.heap.size w v' :=
  h.bel.grown hg h.bel.size (fun k e => (h.fm.o.lt k e).1)
theorem LkS.two (h : LkS w p4 p5 gl A n c AI mi cI zs ys v) (hl : ys.length = mi) {pg : Nat} {x : Int} (hp : Own v w.heap.size 91 2 prC (some ⟨pg, 0, none⟩) 2 2 [⟨33, 1⟩, ⟨34, x⟩]) {A' : Option Addr} {c' : Nat}
    (hO : Own v' w.heap.size 102 11 itC A' (mi + 2) c' (zs ++ [itF txtX svZ, itF (parV x) ⟨some ⟨pg, 0, none⟩, 2, 2⟩])) (hg : v.grownBy v' (blk AI)) :
    LkS w p4 p5 gl A n c A' (mi + 2) c' (zs ++ [itF txtX svZ, itF (parV x) ⟨some ⟨pg, 0, none⟩, 2, 2⟩]) (ys ++ [txtX, parV x]) (v'.setCell ⟨p5, 0, none⟩ (.slice A' (mi + 2) c')) ∧ Blk v' p5 63 #[.slice AI mi cI, .slice none 0 0, .int .i64 0, .int .i64 0, .slice none 0 0, .slice none 0 0, .slice none 0 0, .slice none 0 0, .slice (some ⟨gl, 0, none⟩) 1 1, .slice none 0 0, .slice none 0 0] := by
  have hM := h.fm.two hl hp hO hg
  have hG := gset v' p5 0 (.slice A' (mi + 2) c')
  have y4 := h.b4.keep hg (fun e => h.fm.o.ne_blk h.b4 (by decide) e)
  have y5 := h.b5.keep hg (fun e => h.fm.o.ne_blk h.b5 (by decide) e)
  have yl := h.bl.keep hg (fun e => h.fm.o.ne_blk h.bl (by decide) e)
  refine ⟨⟨y4.keep hG (by have := h.n45; simp; omega), y5.set_ 0 _, yl.keep hG (y5.ne_ty yl (by decide)), ⟨hM.o.keep hG (fun k hk e => by cases hk; exact hM.o.ne_blk y5 (by decide) e), fun k hk => ?_⟩, h.l4, h.l5, h.n45, (h.grow9 hO hg).setCell (p := ⟨p5, 0, none⟩) h.l5 _⟩, y5⟩
  obtain ⟨s, e, hs⟩ := hM.f k hk
  exact ⟨s, e, hs.keep hG (fun k hk e => by cases hk; exact hs.ne_blk y5 (by decide) e)⟩
end
def LkPost (w : World) (A : Option Addr) (n c : Nat) (of : List Int) (e : Ending) (w' : World) : Prop := ∃ (AI : Option Addr) (cI : Nat) (zs : List It) (gl : Nat), e = .returned (.agg (docL AI (2 * of.length) cI (some ⟨gl, 0, none⟩) 1 1).toArray) ∧ Mk_ w' w.heap.size AI (2 * of.length) cI zs (ysK of) ∧ Blk w' gl 96 #[.int .i64 1, .slice A n c] ∧ Below w.heap.size w w'
theorem lk_new (w : World) (A : Option Addr) (n c : Nat) : LkS w w.heap.size (w.heap.size + 1 + 1) (w.heap.size + 1) A n c none 0 0 [] [] (((w.alloc (.cells #[.slice none 0 0, .slice none 0 0, .int .i64 0, .int .i64 0, .slice none 0 0, .slice none 0 0, .slice none 0 0, .slice none 0 0, .slice none 0 0, .slice none 0 0, .slice none 0 0] 63)).alloc (.cells #[.int .i64 1, .slice A n c] 96)).alloc (.cells #[.slice none 0 0, .slice none 0 0, .int .i64 0, .int .i64 0, .slice none 0 0, .slice none 0 0, .slice none 0 0, .slice none 0 0, .slice (some ⟨w.heap.size + 1, 0, none⟩) 1 1, .slice none 0 0, .slice none 0 0] 63)) := by
  have B4 := ((Blk.new w 63 #[.slice none 0 0, .slice none 0 0, .int .i64 0, .int .i64 0, .slice none 0 0, .slice none 0 0, .slice none 0 0, .slice none 0 0, .slice none 0 0, .slice none 0 0, .slice none 0 0]).alloc (.cells #[.int .i64 1, .slice A n c] 96)).alloc (.cells #[.slice none 0 0, .slice none 0 0, .int .i64 0, .int .i64 0, .slice none 0 0, .slice none 0 0, .slice none 0 0, .slice none 0 0, .slice (some ⟨w.heap.size + 1, 0, none⟩) 1 1, .slice none 0 0, .slice none 0 0] 63)
  have BL := (Blk.new (w.alloc (.cells #[.slice none 0 0, .slice none 0 0, .int .i64 0, .int .i64 0, .slice none 0 0, .slice none 0 0, .slice none 0 0, .slice none 0 0, .slice none 0 0, .slice none 0 0, .slice none 0 0] 63)) 96 #[.int .i64 1, .slice A n c]).alloc (.cells #[.slice none 0 0, .slice none 0 0, .int .i64 0, .int .i64 0, .slice none 0 0, .slice none 0 0, .slice none 0 0, .slice none 0 0, .slice (some ⟨w.heap.size + 1, 0, none⟩) 1 1, .slice none 0 0, .slice none 0 0] 63)
  have B5 := Blk.new ((w.alloc (.cells #[.slice none 0 0, .slice none 0 0, .int .i64 0, .int .i64 0, .slice none 0 0, .slice none 0 0, .slice none 0 0, .slice none 0 0, .slice none 0 0, .slice none 0 0, .slice none 0 0] 63)).alloc (.cells #[.int .i64 1, .slice A n c] 96)) 63 #[.slice none 0 0, .slice none 0 0, .int .i64 0, .int .i64 0, .slice none 0 0, .slice none 0 0, .slice none 0 0, .slice none 0 0, .slice (some ⟨w.heap.size + 1, 0, none⟩) 1 1, .slice none 0 0, .slice none 0 0]
  simp only [World.size_alloc] at B4 BL B5
  exact ⟨B4, B5, BL, Mk_.nil _ _ _, Nat.le_refl _, by omega, by omega, (((alloc1 w _).alloc (by simp) _).alloc (by simp; omega) _)⟩
set_option maxRecDepth 100000 in
set_option maxHeartbeats 8000000 in
theorem llist_any (A : Option Addr) (n c : Nat) (O : Option Addr) (r co : Nat) (of : List Int) (w : World) (ho : Sl w 1 intC O r of) (hr : r ≤ 1000) :
    Calls Tryz.prog 25 #[.slice A n c, .slice O r co] w (LkPost w A n c of) := by
  have hlen := ho.len
  have HX := Lib.hid (lk_new w A n c)
  have HP := Lib.hid (show ∀ e w', (∃ (AI : Option Addr) (cI : Nat) (zs : List It) (gl : Nat), e = .returned (.agg (docL AI (2 * of.length) cI (some ⟨gl, 0, none⟩) 1 1).toArray) ∧ Mk_ w' w.heap.size AI (2 * of.length) cI zs (ysK of) ∧ Blk w' gl 96 #[.int .i64 1, .slice A n c] ∧ Below w.heap.size w w') → LkPost w A n c of e w' from fun _ _ h => h)
  have HLN := Lib.hid hlen
  clear hlen
  go_enter Tryz.func25, Tryz.ntmps25
  go_upto_region 1 with fail
  go_cut [5] (fun v5 wx => ∃ p4 p5 gl, w.heap.size = p4 ∧ v5 = .pointer (some ⟨p5, 0, none⟩) ∧ LkS w p4 p5 gl A n c none 0 0 [] [] wx)
  case first =>
    go_wp2_with fail
    go_meet
    case rel => exact ⟨_, _, _, rfl, rfl, HX.out⟩
  case rest =>
  obtain ⟨p4, p5, gl, hp4, rfl, X0⟩ := hcut
  rw [hp4]
  clear HX hp4
  generalize wc = w1 at *
  go_wp2_with fail
  go_loopw [6] (fun vi wr => ∃ (i : Nat) (AI : Option Addr) (cI : Nat) (zs : List It), vi = .int .i64 i ∧ i ≤ r ∧ LkS w p4 p5 gl A n c AI (2 * i) cI zs (ysK (of.take i)) wr) (fun vi _ => r - (intOf vi).toNat)
  case atStart => exact ⟨0, none, 0, [], rfl, Nat.zero_le _, X0⟩
  case round =>
    obtain ⟨i, AI, cI, zs, rfl, hi, X⟩ := hrel
    clear X0
    by_cases hlt : i < r
    · obtain ⟨ad, eO, hadl, hc0⟩ := ho.int hlt
      subst eO
      have HTS := Lib.hid (take_snocI (xs := of) (k := i) (by rw [HLN.out]; exact hlt))
      generalize gI of i = v at *
      have HC := Lib.hid (fun W (hb : Below w.heap.size w W) => keepC hb hc0)
      have hlt' : (i : Int) < r := by omega
      go_upto_region 5 with fail
      have Y0 := X.below (bDrew (Below.refl _ wr))
      have hHeld := HC.out wr.drew Y0.bel
      refine wp_region_held_drew (S := fun w' => w'.cell? (ad.add i) = some (.int .i64 v)) (by kernel_rfl) (HC.out wr X.bel) (fun _ => ?_)
      clear X hc0
      generalize wr.drew = wd at *
      have Y1 := Y0.below (alloc1 wd (.cells #[.int .i64 33, .int .i64 1, .int .i64 34, .int .i64 v] 91))
      have Y2 := Y1.below (alloc1 _ (.cells ([itF txtX svZ, itF (parV v) ⟨some ⟨wd.heap.size, 0, none⟩, 2, 2⟩].flatMap itC).toArray 102))
      have PO : Own ((wd.alloc (.cells #[.int .i64 33, .int .i64 1, .int .i64 34, .int .i64 v] 91)).alloc (.cells ([itF txtX svZ, itF (parV v) ⟨some ⟨wd.heap.size, 0, none⟩, 2, 2⟩].flatMap itC).toArray 102)) w.heap.size 91 2 prC (some ⟨wd.heap.size, 0, none⟩) 2 2 [⟨33, 1⟩, ⟨34, v⟩] := ((Own.lit (w := wd) (B := w.heap.size) (s := 2) (e := 91) (enc := prC) (xs := [⟨33, 1⟩, ⟨34, v⟩]) Y0.sB rfl (show (2 : Nat) ≤ maxLen by unfold maxLen; omega)).alloc (.cells ([itF txtX svZ, itF (parV v) ⟨some ⟨wd.heap.size, 0, none⟩, 2, 2⟩].flatMap itC).toArray 102))
      have BI := Blk.new (wd.alloc (.cells #[.int .i64 33, .int .i64 1, .int .i64 34, .int .i64 v] 91)) 102 ([itF txtX svZ, itF (parV v) ⟨some ⟨wd.heap.size, 0, none⟩, 2, 2⟩].flatMap itC).toArray
      obtain ⟨wd2, hwd2⟩ : ∃ W, W = (wd.alloc (.cells #[.int .i64 33, .int .i64 1, .int .i64 34, .int .i64 v] 91)).alloc (.cells ([itF txtX svZ, itF (parV v) ⟨some ⟨wd.heap.size, 0, none⟩, 2, 2⟩].flatMap itC).toArray 102) := ⟨_, rfl⟩
      rw [← hwd2] at Y2 PO BI
      have HW2 := Lib.hid hwd2
      clear hwd2
      have S1 := HC.out _ Y1.bel
      have S2 := HC.out _ Y2.bel
      have m0 := Y0.b5.cell 0 rfl
      have m1 := Y1.b5.cell 0 rfl
      have m2 := Y2.b5.cell 0 rfl
      refine hx_take 0 (some 18) _ rfl (by kernel_rfl) (by kernel_rfl) (by kernel_rfl) (fun _ _ _ h => h) rfl (Or.inl ⟨by rfl, fun w hSw => by first | (go_simp; done) | (go_simp; with_reducible rfl) | (go_simp; rfl)⟩) (by assumption) ?_
      try simp only [Act.put, List.setIfInBounds_toArray, List.set_cons_zero, List.set_cons_succ]
      refine hx_take 2 (some 20) _ rfl (by kernel_rfl) (by kernel_rfl) (by kernel_rfl) (fun _ _ _ h => h) rfl (Or.inl ⟨by rfl, fun w hSw => by first | (go_simp; done) | (go_simp; with_reducible rfl) | (go_simp; rfl)⟩) (by assumption) ?_
      try simp only [Act.put, List.setIfInBounds_toArray, List.set_cons_zero, List.set_cons_succ]
      refine hx_take 3 (some 21) _ rfl (by kernel_rfl) (by kernel_rfl) (by kernel_rfl) (fun _ _ _ h => h) rfl (Or.inl ⟨by rfl, fun w hSw => by first | (go_simp; done) | (go_simp; with_reducible rfl) | (go_simp; rfl)⟩) (by assumption) ?_
      try simp only [Act.put, List.setIfInBounds_toArray, List.set_cons_zero, List.set_cons_succ]
      refine hx_take 4 (some 22) _ rfl (by kernel_rfl) (by kernel_rfl) (by kernel_rfl) (fun _ _ _ h => h) rfl (Or.inl ⟨by rfl, fun w hSw => by first | (go_simp; done) | (go_simp; with_reducible rfl) | (go_simp; rfl)⟩) (by assumption) ?_
      try simp only [Act.put, List.setIfInBounds_toArray, List.set_cons_zero, List.set_cons_succ]
      refine hx_take 5 (some 23) _ rfl (by kernel_rfl) (by kernel_rfl) (by kernel_rfl) (fun _ _ _ h => h) rfl (Or.inl ⟨by rfl, fun w hSw => by first | (go_simp; done) | (go_simp; with_reducible rfl) | (go_simp; rfl)⟩) (by assumption) ?_
      try simp only [Act.put, List.setIfInBounds_toArray, List.set_cons_zero, List.set_cons_succ]
      refine hx_take 6 (some 24) _ rfl (by kernel_rfl) (by kernel_rfl) (by kernel_rfl) (fun _ _ _ h => h) rfl (Or.inl ⟨by rfl, fun w hSw => by first | (go_simp; done) | (go_simp; with_reducible rfl) | (go_simp; rfl)⟩) (by assumption) ?_
      try simp only [Act.put, List.setIfInBounds_toArray, List.set_cons_zero, List.set_cons_succ]
      refine hx_take 7 (some 25) _ rfl (by kernel_rfl) (by kernel_rfl) (by kernel_rfl) (fun _ _ _ h => h) rfl (Or.inl ⟨by rfl, fun w hSw => by first | (go_simp; done) | (go_simp; with_reducible rfl) | (go_simp; rfl)⟩) (by assumption) ?_
      try simp only [Act.put, List.setIfInBounds_toArray, List.set_cons_zero, List.set_cons_succ]
      refine hx_take 8 (some 26) _ rfl (by kernel_rfl) (by kernel_rfl) (by kernel_rfl) (fun _ _ _ h => h) rfl (Or.inl ⟨by rfl, fun w hSw => by first | (go_simp; done) | (go_simp; with_reducible rfl) | (go_simp; rfl)⟩) (by assumption) ?_
      try simp only [Act.put, List.setIfInBounds_toArray, List.set_cons_zero, List.set_cons_succ]
      refine hx2 1 9 (by kernel_rfl) ?_ ?_
      · refine hx_val 1 (some 19) (.slice AI (2 * i) cI) wd rfl (by rfl) rfl (by first | (go_simp; done) | (go_simp; rfl)) hHeld ?_
        try simp only [Act.put, List.setIfInBounds_toArray, List.set_cons_zero, List.set_cons_succ]
        refine hx1 9 (by kernel_rfl) ?_
        refine hx_val 9 (some 27) (.slice (some ⟨wd.heap.size, 0, none⟩) 2 2) (wd.alloc (.cells #[.int .i64 33, .int .i64 1, .int .i64 34, .int .i64 v] 91)) rfl (by rfl) rfl (by first | (go_simp; done) | (go_simp; rfl)) S1 ?_
        try simp only [Act.put, List.setIfInBounds_toArray, List.set_cons_zero, List.set_cons_succ]
        refine hx_take 10 (some 28) _ rfl (by kernel_rfl) (by kernel_rfl) (by kernel_rfl) (fun _ _ _ h => h) rfl (Or.inl ⟨by rfl, fun w hSw => by first | (go_simp; done) | (go_simp; with_reducible rfl) | (go_simp; rfl)⟩) (by assumption) ?_
        try simp only [Act.put, List.setIfInBounds_toArray, List.set_cons_zero, List.set_cons_succ]
        refine hx_take 11 (some 29) _ rfl (by kernel_rfl) (by kernel_rfl) (by kernel_rfl) (fun _ _ _ h => h) rfl (Or.inl ⟨by rfl, fun w hSw => by first | (go_simp; done) | (go_simp; with_reducible rfl) | (go_simp; rfl)⟩) (by assumption) ?_
        try simp only [Act.put, List.setIfInBounds_toArray, List.set_cons_zero, List.set_cons_succ]
        refine hx1 12 (by kernel_rfl) ?_
        refine hx_val 12 (some 30) (.slice (some ⟨(wd.alloc (.cells #[.int .i64 33, .int .i64 1, .int .i64 34, .int .i64 v] 91)).heap.size, 0, none⟩) 2 2) wd2 rfl (by rfl) rfl (by rw [HW2.out]; first | (go_simp; done) | (go_simp; rfl)) S2 ?_
        try simp only [Act.put, List.setIfInBounds_toArray, List.set_cons_zero, List.set_cons_succ]
        refine hx1 13 (by kernel_rfl) ?_
        refine hx_pushN 13 (some 31) elemIt itC_len itC_one (.tmp 19) (.tmp 30) rfl (by rfl) rfl rfl rfl (wd.alloc (.cells #[.int .i64 33, .int .i64 1, .int .i64 34, .int .i64 v] 91)).heap.size 2 2 rfl Y2.fm.o [itF txtX svZ, itF (parV v) ⟨some ⟨wd.heap.size, 0, none⟩, 2, 2⟩] BI rfl (by omega) ⟨by omega, by unfold maxLen; omega⟩ Y2.sB ?_
        intro A3 c3 w9 ho9 hg9
        obtain ⟨Y9, y5⟩ := Y2.two (by rw [ysK_len, List.length_take, HLN.out]; omega) PO ho9 hg9
        have f5 := y5.frozen 0
        have c5 := y5.cell 0 rfl
        have S9 : w9.cell? (ad.add i) = some (.int .i64 v) := HC.out w9 (Y2.grow9 ho9 hg9)
        have S10 : (w9.setCell ⟨p5, 0, none⟩ (.slice A3 (2 * i + 2) c3)).cell? (ad.add i) = some (.int .i64 v) := HC.out _ Y9.bel
        refine ⟨S9, ?_⟩
        try simp only [Act.put, List.setIfInBounds_toArray, List.set_cons_zero, List.set_cons_succ]
        refine hx_take 14 (some 32) _ rfl (by kernel_rfl) (by kernel_rfl) (by kernel_rfl) (fun _ _ _ h => h) rfl (Or.inl ⟨by rfl, fun w hSw => by first | (go_simp; done) | (go_simp; with_reducible rfl) | (go_simp; rfl)⟩) (by assumption) ?_
        try simp only [Act.put, List.setIfInBounds_toArray, List.set_cons_zero, List.set_cons_succ]
        refine hx1 15 (by kernel_rfl) ?_
        refine hx_store1 15 p5 (.slice A3 (2 * i + 2) c3) rfl (by rfl) rfl (by first | (go_simp; done) | (go_simp; rfl)) S10 ?_
        refine wpAnyH_done (by kernel_rfl) ?_ _
        have HF := Lib.hid Y9
        clear Y9 y5 f5 c5 S9 S10 ho9 hg9
        go_wp2_with fail
        go_roundw
        case rel => exact ⟨i + 1, A3, c3, _, by simp, hlt, by rw [HTS.out, ysK_snoc]; exact HF.out⟩
        case measure => rw [intOf, intOf]; omega
      · refine hx_val 9 (some 27) (.slice (some ⟨wd.heap.size, 0, none⟩) 2 2) (wd.alloc (.cells #[.int .i64 33, .int .i64 1, .int .i64 34, .int .i64 v] 91)) rfl (by rfl) rfl (by first | (go_simp; done) | (go_simp; rfl)) S1 ?_
        try simp only [Act.put, List.setIfInBounds_toArray, List.set_cons_zero, List.set_cons_succ]
        refine hx_take 10 (some 28) _ rfl (by kernel_rfl) (by kernel_rfl) (by kernel_rfl) (fun _ _ _ h => h) rfl (Or.inl ⟨by rfl, fun w hSw => by first | (go_simp; done) | (go_simp; with_reducible rfl) | (go_simp; rfl)⟩) (by assumption) ?_
        try simp only [Act.put, List.setIfInBounds_toArray, List.set_cons_zero, List.set_cons_succ]
        refine hx_take 11 (some 29) _ rfl (by kernel_rfl) (by kernel_rfl) (by kernel_rfl) (fun _ _ _ h => h) rfl (Or.inl ⟨by rfl, fun w hSw => by first | (go_simp; done) | (go_simp; with_reducible rfl) | (go_simp; rfl)⟩) (by assumption) ?_
        try simp only [Act.put, List.setIfInBounds_toArray, List.set_cons_zero, List.set_cons_succ]
        refine hx2 1 12 (by kernel_rfl) ?_ ?_
        · refine hx_val 1 (some 19) (.slice AI (2 * i) cI) _ rfl (by rfl) rfl (by first | (go_simp; done) | (go_simp; rfl)) S1 ?_
          try simp only [Act.put, List.setIfInBounds_toArray, List.set_cons_zero, List.set_cons_succ]
          refine hx1 12 (by kernel_rfl) ?_
          refine hx_val 12 (some 30) (.slice (some ⟨(wd.alloc (.cells #[.int .i64 33, .int .i64 1, .int .i64 34, .int .i64 v] 91)).heap.size, 0, none⟩) 2 2) wd2 rfl (by rfl) rfl (by rw [HW2.out]; first | (go_simp; done) | (go_simp; rfl)) S2 ?_
          try simp only [Act.put, List.setIfInBounds_toArray, List.set_cons_zero, List.set_cons_succ]
          refine hx1 13 (by kernel_rfl) ?_
          refine hx_pushN 13 (some 31) elemIt itC_len itC_one (.tmp 19) (.tmp 30) rfl (by rfl) rfl rfl rfl (wd.alloc (.cells #[.int .i64 33, .int .i64 1, .int .i64 34, .int .i64 v] 91)).heap.size 2 2 rfl Y2.fm.o [itF txtX svZ, itF (parV v) ⟨some ⟨wd.heap.size, 0, none⟩, 2, 2⟩] BI rfl (by omega) ⟨by omega, by unfold maxLen; omega⟩ Y2.sB ?_
          intro A3 c3 w9 ho9 hg9
          obtain ⟨Y9, y5⟩ := Y2.two (by rw [ysK_len, List.length_take, HLN.out]; omega) PO ho9 hg9
          have f5 := y5.frozen 0
          have c5 := y5.cell 0 rfl
          have S9 : w9.cell? (ad.add i) = some (.int .i64 v) := HC.out w9 (Y2.grow9 ho9 hg9)
          have S10 : (w9.setCell ⟨p5, 0, none⟩ (.slice A3 (2 * i + 2) c3)).cell? (ad.add i) = some (.int .i64 v) := HC.out _ Y9.bel
          refine ⟨S9, ?_⟩
          try simp only [Act.put, List.setIfInBounds_toArray, List.set_cons_zero, List.set_cons_succ]
          refine hx_take 14 (some 32) _ rfl (by kernel_rfl) (by kernel_rfl) (by kernel_rfl) (fun _ _ _ h => h) rfl (Or.inl ⟨by rfl, fun w hSw => by first | (go_simp; done) | (go_simp; with_reducible rfl) | (go_simp; rfl)⟩) (by assumption) ?_
          try simp only [Act.put, List.setIfInBounds_toArray, List.set_cons_zero, List.set_cons_succ]
          refine hx1 15 (by kernel_rfl) ?_
          refine hx_store1 15 p5 (.slice A3 (2 * i + 2) c3) rfl (by rfl) rfl (by first | (go_simp; done) | (go_simp; rfl)) S10 ?_
          refine wpAnyH_done (by kernel_rfl) ?_ _
          have HF := Lib.hid Y9
          clear Y9 y5 f5 c5 S9 S10 ho9 hg9
          go_wp2_with fail
          go_roundw
          case rel => exact ⟨i + 1, A3, c3, _, by simp, hlt, by rw [HTS.out, ysK_snoc]; exact HF.out⟩
          case measure => rw [intOf, intOf]; omega
        · refine hx_val 12 (some 30) (.slice (some ⟨(wd.alloc (.cells #[.int .i64 33, .int .i64 1, .int .i64 34, .int .i64 v] 91)).heap.size, 0, none⟩) 2 2) wd2 rfl (by rfl) rfl (by rw [HW2.out]; first | (go_simp; done) | (go_simp; rfl)) S2 ?_
          try simp only [Act.put, List.setIfInBounds_toArray, List.set_cons_zero, List.set_cons_succ]
          refine hx1 1 (by kernel_rfl) ?_
          refine hx_val 1 (some 19) (.slice AI (2 * i) cI) wd2 rfl (by rfl) rfl (by first | (go_simp; done) | (go_simp; rfl)) S2 ?_
          try simp only [Act.put, List.setIfInBounds_toArray, List.set_cons_zero, List.set_cons_succ]
          refine hx1 13 (by kernel_rfl) ?_
          refine hx_pushN 13 (some 31) elemIt itC_len itC_one (.tmp 19) (.tmp 30) rfl (by rfl) rfl rfl rfl (wd.alloc (.cells #[.int .i64 33, .int .i64 1, .int .i64 34, .int .i64 v] 91)).heap.size 2 2 rfl Y2.fm.o [itF txtX svZ, itF (parV v) ⟨some ⟨wd.heap.size, 0, none⟩, 2, 2⟩] BI rfl (by omega) ⟨by omega, by unfold maxLen; omega⟩ Y2.sB ?_
          intro A3 c3 w9 ho9 hg9
          obtain ⟨Y9, y5⟩ := Y2.two (by rw [ysK_len, List.length_take, HLN.out]; omega) PO ho9 hg9
          have f5 := y5.frozen 0
          have c5 := y5.cell 0 rfl
          have S9 : w9.cell? (ad.add i) = some (.int .i64 v) := HC.out w9 (Y2.grow9 ho9 hg9)
          have S10 : (w9.setCell ⟨p5, 0, none⟩ (.slice A3 (2 * i + 2) c3)).cell? (ad.add i) = some (.int .i64 v) := HC.out _ Y9.bel
          refine ⟨S9, ?_⟩
          try simp only [Act.put, List.setIfInBounds_toArray, List.set_cons_zero, List.set_cons_succ]
          refine hx_take 14 (some 32) _ rfl (by kernel_rfl) (by kernel_rfl) (by kernel_rfl) (fun _ _ _ h => h) rfl (Or.inl ⟨by rfl, fun w hSw => by first | (go_simp; done) | (go_simp; with_reducible rfl) | (go_simp; rfl)⟩) (by assumption) ?_
          try simp only [Act.put, List.setIfInBounds_toArray, List.set_cons_zero, List.set_cons_succ]
          refine hx1 15 (by kernel_rfl) ?_
          refine hx_store1 15 p5 (.slice A3 (2 * i + 2) c3) rfl (by rfl) rfl (by first | (go_simp; done) | (go_simp; rfl)) S10 ?_
          refine wpAnyH_done (by kernel_rfl) ?_ _
          have HF := Lib.hid Y9
          clear Y9 y5 f5 c5 S9 S10 ho9 hg9
          go_wp2_with fail
          go_roundw
          case rel => exact ⟨i + 1, A3, c3, _, by simp, hlt, by rw [HTS.out, ysK_snoc]; exact HF.out⟩
          case measure => rw [intOf, intOf]; omega
    · have : i = r := by omega
      subst this
      have q0 := X.b5.cell 0 rfl
      have q1 := X.b5.cell 1 rfl
      have q2 := X.b5.cell 2 rfl
      have q3 := X.b5.cell 3 rfl
      have q4 := X.b5.cell 4 rfl
      have q5 := X.b5.cell 5 rfl
      have q6 := X.b5.cell 6 rfl
      have q7 := X.b5.cell 7 rfl
      have q8 := X.b5.cell 8 rfl
      have q9 := X.b5.cell 9 rfl
      have q10 := X.b5.cell 10 rfl
      have B4 := X.b4
      have htk : of.take i = of := List.take_of_length_le (by rw [HLN.out]; exact Nat.le_refl _)
      rw [htk] at X
      have hG := gsetRow wr p4 #[.slice AI (2 * i) cI, .slice none 0 0, .int .i64 0, .int .i64 0, .slice none 0 0, .slice none 0 0, .slice none 0 0, .slice none 0 0, .slice (some ⟨gl, 0, none⟩) 1 1, .slice none 0 0, .slice none 0 0]
      have HM : Mk_ (wr.setRow p4 #[.slice AI (2 * i) cI, .slice none 0 0, .int .i64 0, .int .i64 0, .slice none 0 0, .slice none 0 0, .slice none 0 0, .slice none 0 0, .slice (some ⟨gl, 0, none⟩) 1 1, .slice none 0 0, .slice none 0 0]) w.heap.size AI (2 * i) cI zs (ysK of) := ⟨X.fm.o.keep hG (fun k hk e => by cases hk; exact X.fm.o.ne_blk X.b4 (by decide) e), fun k hk => by
        obtain ⟨s, e, hs⟩ := X.fm.f k hk
        exact ⟨s, e, hs.keep hG (fun k hk e => by cases hk; exact hs.ne_blk X.b4 (by decide) e)⟩⟩
      have HE := Lib.hid (And.intro HM (And.intro (X.bl.keep hG (X.b4.ne_ty X.bl (by decide))) (below_setRow X.bel X.l4 #[.slice AI (2 * i) cI, .slice none 0 0, .int .i64 0, .int .i64 0, .slice none 0 0, .slice none 0 0, .slice none 0 0, .slice none 0 0, .slice (some ⟨gl, 0, none⟩) 1 1, .slice none 0 0, .slice none 0 0])))
      clear hG HM X htk
      unfold Blk at B4
      go_wp2_with (refine wpList_store_row rfl 63 _ _ rfl p4 #[.slice AI (2 * i) cI, .slice none 0 0, .int .i64 0, .int .i64 0, .slice none 0 0, .slice none 0 0, .slice none 0 0, .slice none 0 0, .slice (some ⟨gl, 0, none⟩) 1 1, .slice none 0 0, .slice none 0 0] rfl rfl 63 _ B4 (by kernel_rfl) rfl (by simp [Value.oneCell']) ?_)
      refine bodyPost_ret (results_cell_row rfl _ _ p4 63 _ (0, 0) _ rfl (setRow_heap _ p4 _ _ _ _ B4) Tryz.underlying63 rfl (by kernel_rfl)) rfl ?_
      exact HP.out _ _ ⟨AI, cI, zs, gl, (by rw [HLN.out]; rfl), (by rw [HLN.out]; exact HE.out.1), HE.out.2.1, HE.out.2.2⟩
end Go.Proofs.YthbodpjkckminaaGreatDoor

namespace Go.Proofs.YthbodpjkckminaaGreatDoor
open Go.RowKit

/-- an entry without its position. -/
def En.k (e : En) : Int × Int × Int × ByteArray := (e.list, e.level, e.num, e.lab)
def nxY (es : List LsE) (vs : List (List Lv)) (f : Int → Cn) (y : Fi) : Cn := nextC (lvs es vs (of1 es y.ps)) (lsF es (of1 es y.ps)).n (f (of1 es y.ps)) (of2 es y.ps - 1).toNat (of3 es y.ps y.ps)
def outK (es : List LsE) (vs : List (List Lv)) (f : Int → Cn) (y : Fi) : Int × Int × Int × ByteArray :=
  (of1 es y.ps, of2 es y.ps, (nxY es vs f y (of2 es y.ps - 1).toNat).1, fillB (lvs es vs (of1 es y.ps)) (of2 es y.ps - 1).toNat (numsF (lvs es vs (of1 es y.ps)) (nxY es vs f y) ((of2 es y.ps - 1).toNat + 1)))
def outL (es : List LsE) (vs : List (List Lv)) : (Int → Cn) → List Fi → List (Int × Int × Int × ByteArray)
  | _, [] => []
  | f, y :: r => if of1 es y.ps = 0 then outL es vs f r else outK es vs f y :: outL es vs (updI f (of1 es y.ps) (nxY es vs f y)) r
theorem fold_out (es : List LsE) (vs : List (List Lv)) (ys : List Fi) : ∀ (l : List Nat) (st : Rs), (l.foldl (stepR es vs ys) st).es.map En.k = st.es.map En.k ++ outL es vs st.f (l.map (gFi ys))
  | [], st => by simp [outL]
  | k :: r, st => by
    rw [List.foldl_cons, fold_out es vs ys r, List.map_cons, outL]
    by_cases h : pid es ys k = 0
    · rw [stepR_no h, if_pos (show of1 es (gFi ys k).ps = 0 from h)]
    · rw [stepR_yes h, if_neg (show ¬ of1 es (gFi ys k).ps = 0 from h)]
      simp only [List.map_append, List.map_cons, List.map_nil, List.append_assoc, List.cons_append, List.nil_append]
      rfl
theorem pmL_all {ys : List Fi} : ∀ {n : Nat}, (∀ k, k < n → (gFi ys k).kind = 2) → pmL ys n = List.range n
  | 0, _ => rfl
  | n + 1, h => by rw [pmL, if_pos (h n (by omega)), pmL_all (fun k hk => h k (by omega)), List.range_succ]
theorem range_gFi (ys : List Fi) : (List.range ys.length).map (gFi ys) = ys := by
  apply List.ext_getElem
  · simp
  · intro i h1 h2
    simp only [List.getElem_map, List.getElem_range]
    unfold gFi
    rw [List.getD_eq_getElem?_getD, List.getElem?_eq_getElem h2]; rfl
theorem runL_out {es : List LsE} {vs : List (List Lv)} {ys : List Fi} (h : ∀ k, k < ys.length → (gFi ys k).kind = 2) :
    (runL es vs ys (pmL ys ys.length)).es.map En.k = outL es vs (fun _ => cnZ) ys := by
  rw [pmL_all h]
  unfold runL
  rw [fold_out, range_gFi]
  rfl
/-- what another list does leaves the labels of the first one. -/
theorem outL_sep (es : List LsE) (vs : List (List Lv)) : ∀ (zs : List Fi) (f f' : Int → Cn), f 1 = f' 1 → (∀ y ∈ zs, of1 es y.ps = 0 ∨ of1 es y.ps = 1 ∨ of1 es y.ps = 2) →
    (outL es vs f zs).filter (fun e => e.1 == 1) = outL es vs f' (zs.filter (fun y => !(of1 es y.ps == 2)))
  | [], _, _, _, _ => rfl
  | y :: r, f, f', hf, h => by
    have ih := fun f f' hf => outL_sep es vs r f f' hf (fun z hz => h z (List.mem_cons_of_mem _ hz))
    rcases h y (List.mem_cons_self ..) with h0 | h1 | h2
    · rw [outL, if_pos h0, List.filter_cons_of_pos (by rw [h0]; rfl), outL, if_pos h0]
      exact ih f f' hf
    · have hn : ¬ of1 es y.ps = 0 := by rw [h1]; decide
      have hx : nxY es vs f y = nxY es vs f' y := by unfold nxY; rw [h1, hf]
      have hk : outK es vs f y = outK es vs f' y := by unfold outK; rw [hx]
      rw [outL, if_neg hn, List.filter_cons_of_pos (l := r) (by rw [h1]; rfl), outL, if_neg hn, List.filter_cons_of_pos (by show (of1 es y.ps == 1) = true; rw [h1]; rfl), hk, ih _ (updI f' (of1 es y.ps) (nxY es vs f' y)) (by unfold updI; rw [h1, if_pos rfl, if_pos rfl, hx])]
    · have hn : ¬ of1 es y.ps = 0 := by rw [h2]; decide
      rw [outL, if_neg hn, List.filter_cons_of_neg (l := r) (by rw [h2]; decide), List.filter_cons_of_neg (by show ¬ (of1 es y.ps == 1) = true; rw [h2]; decide)]
      exact ih _ f' (by unfold updI; rw [h2, if_neg (by decide)]; exact hf)
theorem filter_at {α : Type} (p : α → Bool) (d : α) : ∀ (l : List α) (i : Nat), i < l.length → p (l.getD i d) = true → (l.take i).countP p < (l.filter p).length ∧ (l.filter p).getD ((l.take i).countP p) d = l.getD i d
  | [], _, h, _ => absurd h (Nat.not_lt_zero _)
  | x :: r, 0, _, hp => by
    have hx : p x = true := hp
    rw [List.filter_cons_of_pos hx]
    exact ⟨by simp, rfl⟩
  | x :: r, i + 1, h, hp => by
    have hp' : p (r.getD i d) = true := hp
    obtain ⟨h1, h2⟩ := filter_at p d r i (by simpa using h) hp'
    by_cases hx : p x = true
    · rw [List.filter_cons_of_pos hx, List.take_succ_cons, List.countP_cons_of_pos hx]
      exact ⟨by simp; omega, h2⟩
    · rw [List.filter_cons_of_neg hx, List.take_succ_cons, List.countP_cons_of_neg hx]
      exact ⟨h1, h2⟩
/-- the state behind the first paragraphs of one list. -/
def stI (es : List LsE) (vs : List (List Lv)) (zs : List Fi) : Nat → Cn
  | 0 => cnZ
  | j + 1 => nextC (lvs es vs 1) (lsF es 1).n (stI es vs zs j) (of2 es (gFi zs j).ps - 1).toNat (of3 es (gFi zs j).ps (gFi zs j).ps)
theorem outL_one (es : List LsE) (vs : List (List Lv)) (zs : List Fi) (h : ∀ k, k < zs.length → of1 es (gFi zs k).ps = 1) : ∀ (r : List Fi) (j : Nat) (f : Int → Cn), zs.drop j = r → f 1 = stI es vs zs j →
    (outL es vs f r).length = r.length ∧ ∀ i, i < r.length → ∃ b, (outL es vs f r).getD i (0, 0, 0, ⟨#[]⟩) = (1, of2 es (gFi zs (j + i)).ps, (stI es vs zs (j + i + 1) (of2 es (gFi zs (j + i)).ps - 1).toNat).1, b)
  | [], _, _, _, _ => ⟨rfl, fun i hi => absurd hi (Nat.not_lt_zero _)⟩
  | y :: r, j, f, hd, hf => by
    have hj : j < zs.length := by
      rcases Nat.lt_or_ge j zs.length with h1 | h1
      · exact h1
      · rw [List.drop_of_length_le h1] at hd; cases hd
    have hy : gFi zs j = y := by
      unfold gFi
      rw [List.getD_eq_getElem?_getD, List.getElem?_eq_getElem hj]
      rw [List.drop_eq_getElem_cons hj] at hd
      injection hd with h1 h2
    have hr : zs.drop (j + 1) = r := by
      rw [List.drop_eq_getElem_cons hj] at hd
      injection hd with h1 h2
    have h1 : of1 es y.ps = 1 := by rw [← hy]; exact h j hj
    have hn : ¬ of1 es y.ps = 0 := by rw [h1]; decide
    have hx : nxY es vs f y = stI es vs zs (j + 1) := by unfold nxY; rw [stI, h1, hf, hy]
    obtain ⟨e1, e2⟩ := outL_one es vs zs h r (j + 1) (updI f (of1 es y.ps) (nxY es vs f y)) hr (by unfold updI; rw [if_pos h1.symm, hx])
    rw [outL, if_neg hn]
    refine ⟨by rw [List.length_cons, e1, List.length_cons], fun i hi => ?_⟩
    match i with
    | 0 =>
      refine ⟨(outK es vs f y).2.2.2, ?_⟩
      rw [List.getD_cons_zero]
      show (of1 es y.ps, of2 es y.ps, (nxY es vs f y (of2 es y.ps - 1).toNat).1, (outK es vs f y).2.2.2) = _
      rw [hx, h1, show j + 0 = j from rfl, hy]
    | i + 1 =>
      obtain ⟨b, hb⟩ := e2 i (by simpa using hi)
      refine ⟨b, ?_⟩
      rw [List.getD_cons_succ, hb, show j + 1 + i = j + (i + 1) by omega]
/-- consecutive paragraphs of a level, none of a lower one between them: the number is one more. -/
theorem stI_next (es : List LsE) (vs : List (List Lv)) (zs : List Fi) (L : Nat) (i : Nat) (hL : (of2 es (gFi zs i).ps - 1).toNat = L) : ∀ d, (∀ j, i < j → j ≤ i + d → L < (of2 es (gFi zs j).ps - 1).toNat) →
    stI es vs zs (i + d + 1) L = ((stI es vs zs (i + 1) L).1, true)
  | 0, _ => by
    rw [Nat.add_zero, stI, hL]
    unfold nextC
    rw [if_pos rfl]
    split
    · rfl
    · split
      · rfl
      · rfl
  | d + 1, h => by
    have ih := stI_next es vs zs L i hL d (fun j h1 h2 => h j h1 (by omega))
    have h1 := h (i + d + 1) (by omega) (by omega)
    rw [← ih, show i + (d + 1) + 1 = i + d + 1 + 1 by omega, stI]
    unfold nextC
    rw [if_neg (by omega), if_neg (by omega)]
theorem inc_num (es : List LsE) (vs : List (List Lv)) (zs : List Fi) (i k : Nat) (hik : i < k) (hm : ∀ j, i < j → j < k → of2 es (gFi zs i).ps < of2 es (gFi zs j).ps) (h1 : 1 ≤ of2 es (gFi zs i).ps) (he : of2 es (gFi zs k).ps = of2 es (gFi zs i).ps) (hr : of3 es (gFi zs k).ps (gFi zs k).ps = 0) :
    (stI es vs zs (k + 1) (of2 es (gFi zs k).ps - 1).toNat).1 = (stI es vs zs (i + 1) (of2 es (gFi zs i).ps - 1).toNat).1 + 1 := by
  have h := stI_next es vs zs _ i rfl (k - i - 1) (fun j h1 h2 => by have := hm j h1 (by omega); omega)
  rw [show i + (k - i - 1) + 1 = k by omega] at h
  rw [he, stI, he]
  unfold nextC
  rw [if_pos rfl, hr, if_neg (by omega), h, if_pos rfl]
end Go.Proofs.YthbodpjkckminaaGreatDoor

namespace Go.Proofs.YthbodpjkckminaaGreatDoor
open Go.RowKit

/-- what a paragraph is built from. -/
structure Im where
  li : Int
  lv : Int
  re : Int
def imZ : Im := ⟨0, 0, 0⟩
def imC (x : Im) : List Value := [.int .u8 x.li, .int .u8 x.lv, .int .u8 x.re]
theorem imC_len (x : Im) : (imC x).length = 3 := rfl
theorem imC_one (x : Im) : ∀ u ∈ imC x, u.oneCell' = true := by intro u hu; simp [imC] at hu; rcases hu with rfl | rfl | rfl <;> rfl
def gIm (l : List Im) (k : Nat) : Im := l.getD k imZ
def okU (a : Int) : Prop := 0 ≤ a ∧ a ≤ 255
structure ImOk (x : Im) : Prop where
  li : okU x.li
  lv : okU x.lv
  re : okU x.re
def reB (x : Im) : Bool := decide (4 < x.re % 8)
def liB (x : Im) : Bool := decide (x.li % 3 < 2)
def imQ (x : Im) : List Pr := if reB x = true then [⟨33, 1 + x.li % 3⟩, ⟨34, 1 + x.lv % 9⟩, ⟨35, x.re % 8⟩] else [⟨33, 1 + x.li % 3⟩, ⟨34, 1 + x.lv % 9⟩]
def imP (x : Im) : List Pr := if liB x = true then imQ x else []
def imF (x : Im) : Fi := ⟨2, ⟨#[]⟩, imP x⟩
theorem imP_len (x : Im) : (imP x).length ≤ 3 := by unfold imP imQ; split <;> (try split) <;> simp
theorem all3 {p : Int → Int → Int → Bool} (h : ((List.range 2).all fun a => (List.range 9).all fun b => (List.range 8).all fun c => p a b c) = true) {a b c : Int} (ha : 0 ≤ a ∧ a < 2) (hb : 0 ≤ b ∧ b < 9) (hc : 0 ≤ c ∧ c < 8) : p a b c = true := by
  have h1 := List.all_eq_true.1 h a.toNat (by simp; omega)
  have h2 := List.all_eq_true.1 h1 b.toNat (by simp; omega)
  have h3 := List.all_eq_true.1 h2 c.toNat (by simp; omega)
  rw [Int.toNat_of_nonneg ha.1, Int.toNat_of_nonneg hb.1, Int.toNat_of_nonneg hc.1] at h3
  exact h3
theorem pck3 {a b c : Int} (ha : 0 ≤ a ∧ a < 2) (hb : 0 ≤ b ∧ b < 9) (hc : 0 ≤ c ∧ c < 8) : pckE 2 [⟨33, 1 + a⟩, ⟨34, 1 + b⟩, ⟨35, c⟩] = 0 := by
  have := all3 (p := fun a b c => pckE 2 [⟨33, 1 + a⟩, ⟨34, 1 + b⟩, ⟨35, c⟩] == 0) (by kernel_rfl) ha hb hc
  simpa using this
theorem pck2 {a b : Int} (ha : 0 ≤ a ∧ a < 2) (hb : 0 ≤ b ∧ b < 9) : pckE 2 [⟨33, 1 + a⟩, ⟨34, 1 + b⟩] = 0 := by
  have := all3 (p := fun a b _ => pckE 2 [⟨33, 1 + a⟩, ⟨34, 1 + b⟩] == 0) (by kernel_rfl) ha hb (c := 0) ⟨by omega, by omega⟩
  simpa using this
theorem imP_ok (x : Im) : PrOk (imP x) := by
  unfold imP
  cases hl : liB x
  · rw [if_neg (by simp)]
    exact ⟨by kernel_rfl, by kernel_rfl, fun k hk => absurd hk (Nat.not_lt_zero _), by simp⟩
  · rw [if_pos rfl]
    have ha : 0 ≤ x.li % 3 ∧ x.li % 3 < 2 := ⟨by omega, by unfold liB at hl; simpa using hl⟩
    unfold imQ
    cases hr : reB x
    · rw [if_neg (by simp)]
      refine ⟨pck2 ha ⟨by omega, by omega⟩, by kernel_rfl, fun k hk => ?_, by simp⟩
      have hk2 : k < 2 := hk
      rcases (show k = 0 ∨ k = 1 by omega) with rfl | rfl
      · exact (show (kyF 33).grp = 2 by kernel_rfl)
      · exact (show (kyF 34).grp = 2 by kernel_rfl)
    · rw [if_pos rfl]
      refine ⟨pck3 ha ⟨by omega, by omega⟩ ⟨by omega, by omega⟩, by kernel_rfl, fun k hk => ?_, by simp⟩
      have hk2 : k < 3 := hk
      rcases (show k = 0 ∨ k = 1 ∨ k = 2 by omega) with rfl | rfl | rfl
      · exact (show (kyF 33).grp = 2 by kernel_rfl)
      · exact (show (kyF 34).grp = 2 by kernel_rfl)
      · exact (show (kyF 35).grp = 2 by kernel_rfl)
theorem imV33 (x : Im) : valV (imP x) 33 = if liB x = true then 1 + x.li % 3 else 0 := by
  unfold imP imQ
  cases liB x
  · kernel_rfl
  · cases reB x <;> kernel_rfl
theorem imV34 (x : Im) (h : liB x = true) : valV (imP x) 34 = 1 + x.lv % 9 := by
  unfold imP imQ
  rw [h]
  cases reB x <;> kernel_rfl
theorem imV35 (x : Im) (h : liB x = true) : valV (imP x) 35 = if reB x = true then x.re % 8 else 0 := by
  unfold imP imQ
  rw [h]
  cases reB x <;> kernel_rfl
/-- the two lists, as they lie. -/
def esT (Aa : Option Addr) (na ca : Nat) (Ab : Option Addr) (nb cb : Nat) : List LsE := [⟨1, Aa, na, ca⟩, ⟨2, Ab, nb, cb⟩]
def idI (x : Im) : Int := if liB x = true then 1 + x.li % 3 else 0
section
variable (Aa : Option Addr) (na ca : Nat) (Ab : Option Addr) (nb cb : Nat)
theorem idsT : idsL (esT Aa na ca Ab nb cb) = [1, 2] := rfl
theorem ofT (x : Im) : ofB (esT Aa na ca Ab nb cb) (valV (imP x) 33) = liB x := by
  rw [imV33]
  unfold ofB
  rw [idsT]
  cases hl : liB x
  · simp
  · have ha : 0 ≤ x.li % 3 ∧ x.li % 3 < 2 := ⟨by omega, by unfold liB at hl; simpa using hl⟩
    simp
    omega
theorem of1T (x : Im) : of1 (esT Aa na ca Ab nb cb) (imP x) = idI x := by
  unfold of1 idI
  rw [ofT, imV33]
  cases liB x <;> rfl
theorem idI_or (x : Im) : idI x = 0 ∨ idI x = 1 ∨ idI x = 2 := by
  unfold idI
  cases hl : liB x
  · exact .inl rfl
  · have ha : 0 ≤ x.li % 3 ∧ x.li % 3 < 2 := ⟨by omega, by unfold liB at hl; simpa using hl⟩
    rw [if_pos rfl]; omega
theorem of2T (x : Im) (h : liB x = true) : of2 (esT Aa na ca Ab nb cb) (imP x) = min (1 + x.lv % 9) ((lsF (esT Aa na ca Ab nb cb) (idI x)).n : Nat) := by
  unfold of2
  rw [ofT, h, if_pos rfl, imV34 x h, imV33]
  rfl
theorem of3T (x : Im) (h : liB x = true) : of3 (esT Aa na ca Ab nb cb) (imP x) (imP x) = if reB x = true then x.re % 8 else 0 := by
  unfold of3
  rw [ofT, h, if_pos rfl, imV35 x h]
end
/-- the document's items: of the first 40. -/
def ysB (l : List Im) : List Fi := (l.take 40).map imF
theorem ysB_len (l : List Im) : (ysB l).length = min 40 l.length := by unfold ysB; rw [List.length_map, List.length_take]
theorem ysB_at (l : List Im) {k : Nat} (hk : k < (ysB l).length) : gFi (ysB l) k = imF (gIm l k) := by
  rw [ysB_len] at hk
  unfold gFi ysB gIm
  rw [List.getD_eq_getElem?_getD, List.getElem?_map, List.getElem?_take_of_lt (by omega), List.getElem?_eq_getElem (by omega), List.getD_eq_getElem?_getD, List.getElem?_eq_getElem (by omega)]
  rfl
theorem ysB_kind (l : List Im) : ∀ k, k < (ysB l).length → (gFi (ysB l) k).kind = 2 := fun k hk => by rw [ysB_at l hk]; rfl
theorem ysB_dy (l : List Im) : DocFl (ysB l) := by
  have hln := ysB_len l
  refine ⟨⟨⟨⟨by omega, fun k => ?_⟩, fun k hk => .inl (ysB_kind l k hk)⟩, fun k hk => ?_⟩, fun k hk => ysB_kind l k (by omega)⟩
  · by_cases hk : k < (ysB l).length
    · rw [ysB_at l hk]; exact Nat.le_trans (imP_len _) (by omega)
    · rw [gFi_out (by omega)]; decide
  · rw [ysB_at l hk]
    exact ⟨by show 0 ≤ 1000000; omega, fun h => by cases h⟩
end Go.Proofs.YthbodpjkckminaaGreatDoor
