/- numbering.All of a flat document. the law's documents of list paragraphs. the law's list: a document of list paragraphs. the law's first example. -/
import Derived.Test.YthbodpjkckminaaGreatDoorV36m
import Derived.Test.YthbodpjkckminaaGreatDoorm19
namespace Go.Proofs.YthbodpjkckminaaGreatDoor
open Go.RowKit

def EnPost (w : World) (es : List En) (e : Ending) (w' : World) : Prop := ∃ (A' : Option Addr) (c' : Nat), e = .returned (.slice A' es.length c') ∧ Own w' w.heap.size 73 6 enC A' es.length c' es ∧ Below w.heap.size w w'
theorem fldOut (b : Nat) (AP : Option Addr) (np cp : Nat) (AE : Option Addr) (ne ce : Nat) (w : World) : (Instr.field 118 (.agg #[.map (some b), .slice AP np cp, .slice AE ne ce]) 2).run Tryz.prog w = .ok (.slice AE ne ce) w := by kernel_rfl
set_option maxRecDepth 100000 in
set_option maxHeartbeats 4000000 in
theorem nall_any (A : Option Addr) (m c : Nat) (LA : Option Addr) (ln lc : Nat) (xs : List It) (ys : List Fi) (es : List LsE) (vs : List (List Lv)) (w : World) (hg : Gl w) (hD : DocR w A m xs ys LA ln es vs) :
    Calls Tryz.prog 20 #[.agg (docL A m c LA ln lc).toArray] w (EnPost w (runL es vs ys (pmL ys m)).es) := by
  have N1 := Blk.new w 63 (docL A m c LA ln lc).toArray
  have hb := alloc1 w (.cells (docL A m c LA ln lc).toArray 63)
  have cR := run_any A m c LA ln lc xs ys es vs _ (hg.below hb) (hD.below hb)
  have HP := Lib.hid (show ∀ e w', (∃ (A' : Option Addr) (c' : Nat), e = .returned (.slice A' (runL es vs ys (pmL ys m)).es.length c') ∧ Own w' w.heap.size 73 6 enC A' (runL es vs ys (pmL ys m)).es.length c' (runL es vs ys (pmL ys m)).es ∧ Below w.heap.size w w') → EnPost w (runL es vs ys (pmL ys m)).es e w' from fun _ _ h => h)
  generalize runL es vs ys (pmL ys m) = st at *
  unfold RunPost at cR
  rw [show (docL A m c LA ln lc).toArray = #[.slice A m c, .slice none 0 0, .int .i64 0, .int .i64 0, .slice none 0 0, .slice none 0 0, .slice none 0 0, .slice none 0 0, .slice LA ln lc, .slice none 0 0, .slice none 0 0] from rfl] at *
  clear hg hD
  go_enter Tryz.func20, Tryz.ntmps20
  go_upto_region 1 with fail
  have q0 := N1.cell 0 rfl
  have q1 := N1.cell 1 rfl
  have q2 := N1.cell 2 rfl
  have q3 := N1.cell 3 rfl
  have q4 := N1.cell 4 rfl
  have q5 := N1.cell 5 rfl
  have q6 := N1.cell 6 rfl
  have q7 := N1.cell 7 rfl
  have q8 := N1.cell 8 rfl
  have q9 := N1.cell 9 rfl
  have q10 := N1.cell 10 rfl
  generalize w.alloc (.cells #[.slice A m c, .slice none 0 0, .int .i64 0, .int .i64 0, .slice none 0 0, .slice none 0 0, .slice none 0 0, .slice none 0 0, .slice LA ln lc, .slice none 0 0, .slice none 0 0] 63) = w1 at *
  go_wp2_with (go_at_call 46; refine cR.mono ?_; rintro e w2 ⟨b, AP, cp, AE, ce, rfl, _, oe, hb2⟩; have hf := fldOut b AP st.ps.length cp AE st.es.length ce w2; have HE := Lib.hid (And.intro (oe.base hb.size) (below_trans' hb hb.size hb2)); clear oe hb2)
  go_ret
  exact HP.out _ _ ⟨AE, ce, rfl, HE.out.1, HE.out.2⟩
end Go.Proofs.YthbodpjkckminaaGreatDoor

namespace Go.Proofs.YthbodpjkckminaaGreatDoor
open Go.RowKit

section
variable {P : Program} {ops : Array Oper} {Q : Exit → Act → World → Prop} {md : Region.Mode} {S : World → Prop} {fuel : Nat} {listed : Array Bool} {a : Act} {w : World} {o : Oper} {α : Type} {s : Nat} {enc : α → List Value} {A : Option Addr} {n c : Nat} {xs : List α} {B : Nat} {e : TypeId} {t : TypeId} {b : Nat}
/-- 's = append(s, x, y)' in a region that draws its order. -/
theorem hx_pushN (i : Nat) (d : Option Tmp) (T : Elem P t e s b) (henc : ∀ x : α, (enc x).length = s) (hone : ∀ x : α, ∀ u ∈ enc x, u.oneCell' = true) (sx ox : Operand) (hi : ops[i]? = some o) (hwt : Region.wanted o (yielded ops a.tmps) = true) (hd : o.dst = d)
    (ho : o.op = .call { callee := .builtin .append, args := #[sx, ox], argTypes := #[t, t] })
    (hs : a.eval sx = .slice A n c) (g m cm : Nat) (hx : a.eval ox = .slice (some ⟨g, 0, none⟩) m cm) (hown : Own w B e s enc A n c xs) (ys : List α) (hb : Blk w g e (ys.flatMap enc).toArray) (hm : m = ys.length) (h0 : 0 < m)
    (hn : (n + m) * b ≤ 140737488355328 ∧ n + m ≤ maxLen) (hB : B ≤ w.heap.size)
    (h : ∀ A' c' w', Own w' B e s enc A' (n + m) c' (xs ++ ys) → w.grownBy w' (blk A) → S w' ∧ wpAnyH P md ops Q S fuel (listed.setIfInBounds i true) (a.put d (.slice A' (n + m) c')) w') : StepH P md ops Q S fuel listed a w i := by
  refine hx_wp i hi hwt ?_
  obtain ⟨ht, ti, z, hti, hz, hsz, hbb, hzs, hs0⟩ := T
  obtain ⟨v', w', hr, h2, h3, _, _⟩ := run_append_own_at (P := P) w B t o.type e ti z s b ht hti hz hsz hbb hzs hs0 (.slice A n c) n (xs.flatMap enc) hown.row ⟨g, 0, none⟩ m cm (ys.flatMap enc) (by rw [flat_len henc, hm]) (fun j u hu => by
    rw [addr0]
    exact hb.cell j (by simpa using hu)) (fun u hu => by
    obtain ⟨y, _, hy⟩ := List.mem_flatMap.1 hu
    exact hone y u hy) hn.2 hn.1 hB
  unfold Oper.wp execOp
  simp only [ho, resolve, invoke, builtin, Sem.run_bind, Sem.run_pure, Result.andThen_ok, List.map_toArray, List.map_cons, List.map_nil, hs, hx, hr]
  obtain ⟨g', cap, hv, _, _⟩ := h2.form (by omega)
  subst hv
  rw [blk_own] at h3
  subst hd
  exact h (some ⟨g', 0, none⟩) cap w' ⟨by rw [List.length_append, hown.len, hm], by rw [List.flatMap_append]; simpa using h2⟩ h3
end
def txtX : Fi := ⟨1, ⟨#[120]⟩, []⟩
def parV (v : Int) : Fi := ⟨2, ⟨#[]⟩, [⟨33, 1⟩, ⟨34, v⟩]⟩
def ysK (of : List Int) : List Fi := of.flatMap fun v => [txtX, parV v]
theorem ysK_len (of : List Int) : (ysK of).length = 2 * of.length := by
  induction of with
  | nil => rfl
  | cons v r ih => unfold ysK at ih ⊢; rw [List.flatMap_cons, List.length_append, ih]; simp; omega
theorem ysK_snoc (of : List Int) (v : Int) : ysK (of ++ [v]) = ysK of ++ [txtX, parV v] := by unfold ysK; rw [List.flatMap_append]; rfl
theorem gFi_append {ys zs : List Fi} (k : Nat) : gFi (ys ++ zs) k = if k < ys.length then gFi ys k else gFi zs (k - ys.length) := by
  unfold gFi
  by_cases h : k < ys.length
  · rw [if_pos h, List.getD_eq_getElem?_getD, List.getElem?_append_left h, ← List.getD_eq_getElem?_getD]
  · rw [if_neg h, List.getD_eq_getElem?_getD, List.getElem?_append_right (by omega), ← List.getD_eq_getElem?_getD]
theorem gIt_app {ys zs : List It} (k : Nat) : gIt (ys ++ zs) k = if k < ys.length then gIt ys k else gIt zs (k - ys.length) := by
  unfold gIt
  by_cases h : k < ys.length
  · rw [if_pos h, List.getD_eq_getElem?_getD, List.getElem?_append_left h, ← List.getD_eq_getElem?_getD]
  · rw [if_neg h, List.getD_eq_getElem?_getD, List.getElem?_append_right (by omega), ← List.getD_eq_getElem?_getD]
/-- two items more: a text, and a paragraph's mark whose properties lie in a block of their own. -/
theorem Mk_.two {w w' : World} {B : Nat} {A A' : Option Addr} {n c c' pg : Nat} {zs : List It} {ys : List Fi} {v : Int} (h : Mk_ w B A n c zs ys) (hl : ys.length = n) (hp : Own w B 91 2 prC (some ⟨pg, 0, none⟩) 2 2 [⟨33, 1⟩, ⟨34, v⟩])
    (hO : Own w' B 102 11 itC A' (n + 2) c' (zs ++ [itF txtX svZ, itF (parV v) ⟨some ⟨pg, 0, none⟩, 2, 2⟩])) (hg : w.grownBy w' (blk A)) :
    Mk_ w' B A' (n + 2) c' (zs ++ [itF txtX svZ, itF (parV v) ⟨some ⟨pg, 0, none⟩, 2, 2⟩]) (ys ++ [txtX, parV v]) := by
  have hz := h.o.len
  refine ⟨hO, fun k hk => ?_⟩
  rw [gIt_app, gFi_append, hz, hl]
  by_cases h1 : k < n
  · rw [if_pos h1, if_pos h1]
    obtain ⟨s, e, hs⟩ := h.f k h1
    exact ⟨s, e, hs.keep hg (fun k hk => hs.apart_ty' h.o (by decide) k hk)⟩
  · rw [if_neg h1, if_neg h1]
    rcases (show k - n = 0 ∨ k - n = 1 by omega) with e | e
    · rw [e]; exact ⟨svZ, rfl, Own.nil_ _ _ _ _ _⟩
    · rw [e]; exact ⟨_, rfl, hp.keep hg (fun k hk => hp.apart_ty' h.o (by decide) k hk)⟩
end Go.Proofs.YthbodpjkckminaaGreatDoor

namespace Go.Proofs.YthbodpjkckminaaGreatDoor
open Go.RowKit

structure LkS (w : World) (p4 p5 gl : Nat) (A : Option Addr) (n c : Nat) (AI : Option Addr) (mi cI : Nat) (zs : List It) (ys : List Fi) (v : World) : Prop where
  b4 : Blk v p4 63 #[.slice none 0 0, .slice none 0 0, .int .i64 0, .int .i64 0, .slice none 0 0, .slice none 0 0, .slice none 0 0, .slice none 0 0, .slice none 0 0, .slice none 0 0, .slice none 0 0]
  b5 : Blk v p5 63 #[.slice AI mi cI, .slice none 0 0, .int .i64 0, .int .i64 0, .slice none 0 0, .slice none 0 0, .slice none 0 0, .slice none 0 0, .slice (some ⟨gl, 0, none⟩) 1 1, .slice none 0 0, .slice none 0 0]
  bl : Blk v gl 96 #[.int .i64 1, .slice A n c]
  fm : Mk_ v w.heap.size AI mi cI zs ys
  l4 : w.heap.size ≤ p4
  l5 : w.heap.size ≤ p5
  n45 : p4 ≠ p5
  bel : Below w.heap.size w v
section
variable {w v v' : World} {p4 p5 gl n c mi cI : Nat} {A AI : Option Addr} {zs : List It} {ys : List Fi}
theorem LkS.sB (h : LkS w p4 p5 gl A n c AI mi cI zs ys v) : w.heap.size ≤ v.heap.size := h.bel.size
theorem LkS.below (h : LkS w p4 p5 gl A n c AI mi cI zs ys v) (hb : Below v.heap.size v v') : LkS w p4 p5 gl A n c AI mi cI zs ys v' :=
  ⟨h.b4.below hb, h.b5.below hb, h.bl.below hb, h.fm.below hb, h.l4, h.l5, h.n45, below_trans' h.bel h.bel.size hb⟩
theorem LkS.grow9 (h : LkS w p4 p5 gl A n c AI mi cI zs ys v) {A' : Option Addr} {m' c' : Nat} {zs' : List It} (_ : Own v' w.heap.size 102 11 itC A' m' c' zs') (hg : v.grownBy v' (blk AI)) : Below w.heap.size w v' :=
  h.bel.grown hg h.bel.size (fun k e => (h.fm.o.lt k e).1)
theorem LkS.two (h : LkS w p4 p5 gl A n c AI mi cI zs ys v) (hl : ys.length = mi) {pg : Nat} {x : Int} (hp : Own v w.heap.size 91 2 prC (some ⟨pg, 0, none⟩) 2 2 [⟨33, 1⟩, ⟨34, x⟩]) {A' : Option Addr} {c' : Nat}
    (hO : Own v' w.heap.size 102 11 itC A' (mi + 2) c' (zs ++ [itF txtX svZ, itF (parV x) ⟨some ⟨pg, 0, none⟩, 2, 2⟩])) (hg : v.grownBy v' (blk AI)) :
    LkS w p4 p5 gl A n c A' (mi + 2) c' (zs ++ [itF txtX svZ, itF (parV x) ⟨some ⟨pg, 0, none⟩, 2, 2⟩]) (ys ++ [txtX, parV x]) (v'.setCell ⟨p5, 0, none⟩ (.slice A' (mi + 2) c')) ∧ Blk v' p5 63 #[.slice AI mi cI, .slice none 0 0, .int .i64 0, .int .i64 0, .slice none 0 0, .slice none 0 0, .slice none 0 0, .slice none 0 0, .slice (some ⟨gl, 0, none⟩) 1 1, .slice none 0 0, .slice none 0 0] := by
  have hM := h.fm.two hl hp hO hg
  have hG := gset v' p5 0 (.slice A' (mi + 2) c')
  have y4 := h.b4.keep hg (fun e => h.fm.o.ne_blk h.b4 (by decide) e)
  have y5 := h.b5.keep hg (fun e => h.fm.o.ne_blk h.b5 (by decide) e)
  have yl := h.bl.keep hg (fun e => h.fm.o.ne_blk h.bl (by decide) e)
  refine ⟨⟨y4.keep hG (by have := h.n45; simp; omega), y5.set_ 0 _, yl.keep hG (y5.ne_ty yl (by decide)), ⟨hM.o.keep hG (fun k hk e => by cases hk; exact hM.o.ne_blk y5 (by decide) e), fun k hk => ?_⟩, h.l4, h.l5, h.n45, (h.grow9 hO hg).setCell (p := ⟨p5, 0, none⟩) h.l5 _⟩, y5⟩
  obtain ⟨s, e, hs⟩ := hM.f k hk
  exact ⟨s, e, hs.keep hG (fun k hk e => by cases hk; exact hs.ne_blk y5 (by decide) e)⟩
end
def LkPost (w : World) (A : Option Addr) (n c : Nat) (of : List Int) (e : Ending) (w' : World) : Prop := ∃ (AI : Option Addr) (cI : Nat) (zs : List It) (gl : Nat), e = .returned (.agg (docL AI (2 * of.length) cI (some ⟨gl, 0, none⟩) 1 1).toArray) ∧ Mk_ w' w.heap.size AI (2 * of.length) cI zs (ysK of) ∧ Blk w' gl 96 #[.int .i64 1, .slice A n c] ∧ Below w.heap.size w w'
theorem lk_new (w : World) (A : Option Addr) (n c : Nat) : LkS w w.heap.size (w.heap.size + 1 + 1) (w.heap.size + 1) A n c none 0 0 [] [] (((w.alloc (.cells #[.slice none 0 0, .slice none 0 0, .int .i64 0, .int .i64 0, .slice none 0 0, .slice none 0 0, .slice none 0 0, .slice none 0 0, .slice none 0 0, .slice none 0 0, .slice none 0 0] 63)).alloc (.cells #[.int .i64 1, .slice A n c] 96)).alloc (.cells #[.slice none 0 0, .slice none 0 0, .int .i64 0, .int .i64 0, .slice none 0 0, .slice none 0 0, .slice none 0 0, .slice none 0 0, .slice (some ⟨w.heap.size + 1, 0, none⟩) 1 1, .slice none 0 0, .slice none 0 0] 63)) := by
  have B4 := ((Blk.new w 63 #[.slice none 0 0, .slice none 0 0, .int .i64 0, .int .i64 0, .slice none 0 0, .slice none 0 0, .slice none 0 0, .slice none 0 0, .slice none 0 0, .slice none 0 0, .slice none 0 0]).alloc (.cells #[.int .i64 1, .slice A n c] 96)).alloc (.cells #[.slice none 0 0, .slice none 0 0, .int .i64 0, .int .i64 0, .slice none 0 0, .slice none 0 0, .slice none 0 0, .slice none 0 0, .slice (some ⟨w.heap.size + 1, 0, none⟩) 1 1, .slice none 0 0, .slice none 0 0] 63)
  have BL := (Blk.new (w.alloc (.cells #[.slice none 0 0, .slice none 0 0, .int .i64 0, .int .i64 0, .slice none 0 0, .slice none 0 0, .slice none 0 0, .slice none 0 0, .slice none 0 0, .slice none 0 0, .slice none 0 0] 63)) 96 #[.int .i64 1, .slice A n c]).alloc (.cells #[.slice none 0 0, .slice none 0 0, .int .i64 0, .int .i64 0, .slice none 0 0, .slice none 0 0, .slice none 0 0, .slice none 0 0, .slice (some ⟨w.heap.size + 1, 0, none⟩) 1 1, .slice none 0 0, .slice none 0 0] 63)
  have B5 := Blk.new ((w.alloc (.cells #[.slice none 0 0, .slice none 0 0, .int .i64 0, .int .i64 0, .slice none 0 0, .slice none 0 0, .slice none 0 0, .slice none 0 0, .slice none 0 0, .slice none 0 0, .slice none 0 0] 63)).alloc (.cells #[.int .i64 1, .slice A n c] 96)) 63 #[.slice none 0 0, .slice none 0 0, .int .i64 0, .int .i64 0, .slice none 0 0, .slice none 0 0, .slice none 0 0, .slice none 0 0, .slice (some ⟨w.heap.size + 1, 0, none⟩) 1 1, .slice none 0 0, .slice none 0 0]
  simp only [World.size_alloc] at B4 BL B5
  exact ⟨B4, B5, BL, Mk_.nil _ _ _, Nat.le_refl _, by omega, by omega, (((alloc1 w _).alloc (by simp) _).alloc (by simp; omega) _)⟩
set_option maxRecDepth 100000 in
set_option maxHeartbeats 8000000 in
theorem llist_any (A : Option Addr) (n c : Nat) (O : Option Addr) (r co : Nat) (of : List Int) (w : World) (ho : Sl w 1 intC O r of) (hr : r ≤ 1000) :
    Calls Tryz.prog 25 #[.slice A n c, .slice O r co] w (LkPost w A n c of) := by
  have hlen := ho.len
  have HX := Lib.hid (lk_new w A n c)
  have HP := Lib.hid (show ∀ e w', (∃ (AI : Option Addr) (cI : Nat) (zs : List It) (gl : Nat), e = .returned (.agg (docL AI (2 * of.length) cI (some ⟨gl, 0, none⟩) 1 1).toArray) ∧ Mk_ w' w.heap.size AI (2 * of.length) cI zs (ysK of) ∧ Blk w' gl 96 #[.int .i64 1, .slice A n c] ∧ Below w.heap.size w w') → LkPost w A n c of e w' from fun _ _ h => h)
  have HLN := Lib.hid hlen
  clear hlen
  go_enter Tryz.func25, Tryz.ntmps25
  go_upto_region 1 with fail
  go_cut [5] (fun v5 wx => ∃ p4 p5 gl, w.heap.size = p4 ∧ v5 = .pointer (some ⟨p5, 0, none⟩) ∧ LkS w p4 p5 gl A n c none 0 0 [] [] wx)
  case first =>
    go_wp2_with fail
    go_meet
    case rel => exact ⟨_, _, _, rfl, rfl, HX.out⟩
  case rest =>
  obtain ⟨p4, p5, gl, hp4, rfl, X0⟩ := hcut
  rw [hp4]
  clear HX hp4
  generalize wc = w1 at *
  go_wp2_with fail
  go_loopw [6] (fun vi wr => ∃ (i : Nat) (AI : Option Addr) (cI : Nat) (zs : List It), vi = .int .i64 i ∧ i ≤ r ∧ LkS w p4 p5 gl A n c AI (2 * i) cI zs (ysK (of.take i)) wr) (fun vi _ => r - (intOf vi).toNat)
  case atStart => exact ⟨0, none, 0, [], rfl, Nat.zero_le _, X0⟩
  case round =>
    obtain ⟨i, AI, cI, zs, rfl, hi, X⟩ := hrel
    clear X0
    by_cases hlt : i < r
    · obtain ⟨ad, eO, hadl, hc0⟩ := ho.int hlt
      subst eO
      have HTS := Lib.hid (take_snocI (xs := of) (k := i) (by rw [HLN.out]; exact hlt))
      generalize gI of i = v at *
      have HC := Lib.hid (fun W (hb : Below w.heap.size w W) => keepC hb hc0)
      have hlt' : (i : Int) < r := by omega
      go_upto_region 5 with fail
      have Y0 := X.below (bDrew (Below.refl _ wr))
      have hHeld := HC.out wr.drew Y0.bel
      refine wp_region_held_drew (S := fun w' => w'.cell? (ad.add i) = some (.int .i64 v)) (by kernel_rfl) (HC.out wr X.bel) (fun _ => ?_)
      clear X hc0
      generalize wr.drew = wd at *
      have Y1 := Y0.below (alloc1 wd (.cells #[.int .i64 33, .int .i64 1, .int .i64 34, .int .i64 v] 91))
      have Y2 := Y1.below (alloc1 _ (.cells ([itF txtX svZ, itF (parV v) ⟨some ⟨wd.heap.size, 0, none⟩, 2, 2⟩].flatMap itC).toArray 102))
      have PO : Own ((wd.alloc (.cells #[.int .i64 33, .int .i64 1, .int .i64 34, .int .i64 v] 91)).alloc (.cells ([itF txtX svZ, itF (parV v) ⟨some ⟨wd.heap.size, 0, none⟩, 2, 2⟩].flatMap itC).toArray 102)) w.heap.size 91 2 prC (some ⟨wd.heap.size, 0, none⟩) 2 2 [⟨33, 1⟩, ⟨34, v⟩] := ((Own.lit (w := wd) (B := w.heap.size) (s := 2) (e := 91) (enc := prC) (xs := [⟨33, 1⟩, ⟨34, v⟩]) Y0.sB rfl (show (2 : Nat) ≤ maxLen by unfold maxLen; omega)).alloc (.cells ([itF txtX svZ, itF (parV v) ⟨some ⟨wd.heap.size, 0, none⟩, 2, 2⟩].flatMap itC).toArray 102))
      have BI := Blk.new (wd.alloc (.cells #[.int .i64 33, .int .i64 1, .int .i64 34, .int .i64 v] 91)) 102 ([itF txtX svZ, itF (parV v) ⟨some ⟨wd.heap.size, 0, none⟩, 2, 2⟩].flatMap itC).toArray
      obtain ⟨wd2, hwd2⟩ : ∃ W, W = (wd.alloc (.cells #[.int .i64 33, .int .i64 1, .int .i64 34, .int .i64 v] 91)).alloc (.cells ([itF txtX svZ, itF (parV v) ⟨some ⟨wd.heap.size, 0, none⟩, 2, 2⟩].flatMap itC).toArray 102) := ⟨_, rfl⟩
      rw [← hwd2] at Y2 PO BI
      have HW2 := Lib.hid hwd2
      clear hwd2
      have S1 := HC.out _ Y1.bel
      have S2 := HC.out _ Y2.bel
      have m0 := Y0.b5.cell 0 rfl
      have m1 := Y1.b5.cell 0 rfl
      have m2 := Y2.b5.cell 0 rfl
      refine hx_take 0 (some 18) _ rfl (by kernel_rfl) (by kernel_rfl) (by kernel_rfl) (fun _ _ _ h => h) rfl (Or.inl ⟨by rfl, fun w hSw => by first | (go_simp; done) | (go_simp; with_reducible rfl) | (go_simp; rfl)⟩) (by assumption) ?_
      try simp only [Act.put, List.setIfInBounds_toArray, List.set_cons_zero, List.set_cons_succ]
      refine hx_take 2 (some 20) _ rfl (by kernel_rfl) (by kernel_rfl) (by kernel_rfl) (fun _ _ _ h => h) rfl (Or.inl ⟨by rfl, fun w hSw => by first | (go_simp; done) | (go_simp; with_reducible rfl) | (go_simp; rfl)⟩) (by assumption) ?_
      try simp only [Act.put, List.setIfInBounds_toArray, List.set_cons_zero, List.set_cons_succ]
      refine hx_take 3 (some 21) _ rfl (by kernel_rfl) (by kernel_rfl) (by kernel_rfl) (fun _ _ _ h => h) rfl (Or.inl ⟨by rfl, fun w hSw => by first | (go_simp; done) | (go_simp; with_reducible rfl) | (go_simp; rfl)⟩) (by assumption) ?_
      try simp only [Act.put, List.setIfInBounds_toArray, List.set_cons_zero, List.set_cons_succ]
      refine hx_take 4 (some 22) _ rfl (by kernel_rfl) (by kernel_rfl) (by kernel_rfl) (fun _ _ _ h => h) rfl (Or.inl ⟨by rfl, fun w hSw => by first | (go_simp; done) | (go_simp; with_reducible rfl) | (go_simp; rfl)⟩) (by assumption) ?_
      try simp only [Act.put, List.setIfInBounds_toArray, List.set_cons_zero, List.set_cons_succ]
      refine hx_take 5 (some 23) _ rfl (by kernel_rfl) (by kernel_rfl) (by kernel_rfl) (fun _ _ _ h => h) rfl (Or.inl ⟨by rfl, fun w hSw => by first | (go_simp; done) | (go_simp; with_reducible rfl) | (go_simp; rfl)⟩) (by assumption) ?_
      try simp only [Act.put, List.setIfInBounds_toArray, List.set_cons_zero, List.set_cons_succ]
      refine hx_take 6 (some 24) _ rfl (by kernel_rfl) (by kernel_rfl) (by kernel_rfl) (fun _ _ _ h => h) rfl (Or.inl ⟨by rfl, fun w hSw => by first | (go_simp; done) | (go_simp; with_reducible rfl) | (go_simp; rfl)⟩) (by assumption) ?_
      try simp only [Act.put, List.setIfInBounds_toArray, List.set_cons_zero, List.set_cons_succ]
      refine hx_take 7 (some 25) _ rfl (by kernel_rfl) (by kernel_rfl) (by kernel_rfl) (fun _ _ _ h => h) rfl (Or.inl ⟨by rfl, fun w hSw => by first | (go_simp; done) | (go_simp; with_reducible rfl) | (go_simp; rfl)⟩) (by assumption) ?_
      try simp only [Act.put, List.setIfInBounds_toArray, List.set_cons_zero, List.set_cons_succ]
      refine hx_take 8 (some 26) _ rfl (by kernel_rfl) (by kernel_rfl) (by kernel_rfl) (fun _ _ _ h => h) rfl (Or.inl ⟨by rfl, fun w hSw => by first | (go_simp; done) | (go_simp; with_reducible rfl) | (go_simp; rfl)⟩) (by assumption) ?_
      try simp only [Act.put, List.setIfInBounds_toArray, List.set_cons_zero, List.set_cons_succ]
      refine hx2 1 9 (by kernel_rfl) ?_ ?_
      · refine hx_val 1 (some 19) (.slice AI (2 * i) cI) wd rfl (by rfl) rfl (by first | (go_simp; done) | (go_simp; rfl)) hHeld ?_
        try simp only [Act.put, List.setIfInBounds_toArray, List.set_cons_zero, List.set_cons_succ]
        refine hx1 9 (by kernel_rfl) ?_
        refine hx_val 9 (some 27) (.slice (some ⟨wd.heap.size, 0, none⟩) 2 2) (wd.alloc (.cells #[.int .i64 33, .int .i64 1, .int .i64 34, .int .i64 v] 91)) rfl (by rfl) rfl (by first | (go_simp; done) | (go_simp; rfl)) S1 ?_
        try simp only [Act.put, List.setIfInBounds_toArray, List.set_cons_zero, List.set_cons_succ]
        refine hx_take 10 (some 28) _ rfl (by kernel_rfl) (by kernel_rfl) (by kernel_rfl) (fun _ _ _ h => h) rfl (Or.inl ⟨by rfl, fun w hSw => by first | (go_simp; done) | (go_simp; with_reducible rfl) | (go_simp; rfl)⟩) (by assumption) ?_
        try simp only [Act.put, List.setIfInBounds_toArray, List.set_cons_zero, List.set_cons_succ]
        refine hx_take 11 (some 29) _ rfl (by kernel_rfl) (by kernel_rfl) (by kernel_rfl) (fun _ _ _ h => h) rfl (Or.inl ⟨by rfl, fun w hSw => by first | (go_simp; done) | (go_simp; with_reducible rfl) | (go_simp; rfl)⟩) (by assumption) ?_
        try simp only [Act.put, List.setIfInBounds_toArray, List.set_cons_zero, List.set_cons_succ]
        refine hx1 12 (by kernel_rfl) ?_
        refine hx_val 12 (some 30) (.slice (some ⟨(wd.alloc (.cells #[.int .i64 33, .int .i64 1, .int .i64 34, .int .i64 v] 91)).heap.size, 0, none⟩) 2 2) wd2 rfl (by rfl) rfl (by rw [HW2.out]; first | (go_simp; done) | (go_simp; rfl)) S2 ?_
        try simp only [Act.put, List.setIfInBounds_toArray, List.set_cons_zero, List.set_cons_succ]
        refine hx1 13 (by kernel_rfl) ?_
        refine hx_pushN 13 (some 31) elemIt itC_len itC_one (.tmp 19) (.tmp 30) rfl (by rfl) rfl rfl rfl (wd.alloc (.cells #[.int .i64 33, .int .i64 1, .int .i64 34, .int .i64 v] 91)).heap.size 2 2 rfl Y2.fm.o [itF txtX svZ, itF (parV v) ⟨some ⟨wd.heap.size, 0, none⟩, 2, 2⟩] BI rfl (by omega) ⟨by omega, by unfold maxLen; omega⟩ Y2.sB ?_
        intro A3 c3 w9 ho9 hg9
        obtain ⟨Y9, y5⟩ := Y2.two (by rw [ysK_len, List.length_take, HLN.out]; omega) PO ho9 hg9
        have f5 := y5.frozen 0
        have c5 := y5.cell 0 rfl
        have S9 : w9.cell? (ad.add i) = some (.int .i64 v) := HC.out w9 (Y2.grow9 ho9 hg9)
        have S10 : (w9.setCell ⟨p5, 0, none⟩ (.slice A3 (2 * i + 2) c3)).cell? (ad.add i) = some (.int .i64 v) := HC.out _ Y9.bel
        refine ⟨S9, ?_⟩
        try simp only [Act.put, List.setIfInBounds_toArray, List.set_cons_zero, List.set_cons_succ]
        refine hx_take 14 (some 32) _ rfl (by kernel_rfl) (by kernel_rfl) (by kernel_rfl) (fun _ _ _ h => h) rfl (Or.inl ⟨by rfl, fun w hSw => by first | (go_simp; done) | (go_simp; with_reducible rfl) | (go_simp; rfl)⟩) (by assumption) ?_
        try simp only [Act.put, List.setIfInBounds_toArray, List.set_cons_zero, List.set_cons_succ]
        refine hx1 15 (by kernel_rfl) ?_
        refine hx_store1 15 p5 (.slice A3 (2 * i + 2) c3) rfl (by rfl) rfl (by first | (go_simp; done) | (go_simp; rfl)) S10 ?_
        refine wpAnyH_done (by kernel_rfl) ?_ _
        have HF := Lib.hid Y9
        clear Y9 y5 f5 c5 S9 S10 ho9 hg9
        go_wp2_with fail
        go_roundw
        case rel => exact ⟨i + 1, A3, c3, _, by simp, hlt, by rw [HTS.out, ysK_snoc]; exact HF.out⟩
        case measure => rw [intOf, intOf]; omega
      · refine hx_val 9 (some 27) (.slice (some ⟨wd.heap.size, 0, none⟩) 2 2) (wd.alloc (.cells #[.int .i64 33, .int .i64 1, .int .i64 34, .int .i64 v] 91)) rfl (by rfl) rfl (by first | (go_simp; done) | (go_simp; rfl)) S1 ?_
        try simp only [Act.put, List.setIfInBounds_toArray, List.set_cons_zero, List.set_cons_succ]
        refine hx_take 10 (some 28) _ rfl (by kernel_rfl) (by kernel_rfl) (by kernel_rfl) (fun _ _ _ h => h) rfl (Or.inl ⟨by rfl, fun w hSw => by first | (go_simp; done) | (go_simp; with_reducible rfl) | (go_simp; rfl)⟩) (by assumption) ?_
        try simp only [Act.put, List.setIfInBounds_toArray, List.set_cons_zero, List.set_cons_succ]
        refine hx_take 11 (some 29) _ rfl (by kernel_rfl) (by kernel_rfl) (by kernel_rfl) (fun _ _ _ h => h) rfl (Or.inl ⟨by rfl, fun w hSw => by first | (go_simp; done) | (go_simp; with_reducible rfl) | (go_simp; rfl)⟩) (by assumption) ?_
        try simp only [Act.put, List.setIfInBounds_toArray, List.set_cons_zero, List.set_cons_succ]
        refine hx2 1 12 (by kernel_rfl) ?_ ?_
        · refine hx_val 1 (some 19) (.slice AI (2 * i) cI) _ rfl (by rfl) rfl (by first | (go_simp; done) | (go_simp; rfl)) S1 ?_
          try simp only [Act.put, List.setIfInBounds_toArray, List.set_cons_zero, List.set_cons_succ]
          refine hx1 12 (by kernel_rfl) ?_
          refine hx_val 12 (some 30) (.slice (some ⟨(wd.alloc (.cells #[.int .i64 33, .int .i64 1, .int .i64 34, .int .i64 v] 91)).heap.size, 0, none⟩) 2 2) wd2 rfl (by rfl) rfl (by rw [HW2.out]; first | (go_simp; done) | (go_simp; rfl)) S2 ?_
          try simp only [Act.put, List.setIfInBounds_toArray, List.set_cons_zero, List.set_cons_succ]
          refine hx1 13 (by kernel_rfl) ?_
          refine hx_pushN 13 (some 31) elemIt itC_len itC_one (.tmp 19) (.tmp 30) rfl (by rfl) rfl rfl rfl (wd.alloc (.cells #[.int .i64 33, .int .i64 1, .int .i64 34, .int .i64 v] 91)).heap.size 2 2 rfl Y2.fm.o [itF txtX svZ, itF (parV v) ⟨some ⟨wd.heap.size, 0, none⟩, 2, 2⟩] BI rfl (by omega) ⟨by omega, by unfold maxLen; omega⟩ Y2.sB ?_
          intro A3 c3 w9 ho9 hg9
          obtain ⟨Y9, y5⟩ := Y2.two (by rw [ysK_len, List.length_take, HLN.out]; omega) PO ho9 hg9
          have f5 := y5.frozen 0
          have c5 := y5.cell 0 rfl
          have S9 : w9.cell? (ad.add i) = some (.int .i64 v) := HC.out w9 (Y2.grow9 ho9 hg9)
          have S10 : (w9.setCell ⟨p5, 0, none⟩ (.slice A3 (2 * i + 2) c3)).cell? (ad.add i) = some (.int .i64 v) := HC.out _ Y9.bel
          refine ⟨S9, ?_⟩
          try simp only [Act.put, List.setIfInBounds_toArray, List.set_cons_zero, List.set_cons_succ]
          refine hx_take 14 (some 32) _ rfl (by kernel_rfl) (by kernel_rfl) (by kernel_rfl) (fun _ _ _ h => h) rfl (Or.inl ⟨by rfl, fun w hSw => by first | (go_simp; done) | (go_simp; with_reducible rfl) | (go_simp; rfl)⟩) (by assumption) ?_
          try simp only [Act.put, List.setIfInBounds_toArray, List.set_cons_zero, List.set_cons_succ]
          refine hx1 15 (by kernel_rfl) ?_
          refine hx_store1 15 p5 (.slice A3 (2 * i + 2) c3) rfl (by rfl) rfl (by first | (go_simp; done) | (go_simp; rfl)) S10 ?_
          refine wpAnyH_done (by kernel_rfl) ?_ _
          have HF := Lib.hid Y9
          clear Y9 y5 f5 c5 S9 S10 ho9 hg9
          go_wp2_with fail
          go_roundw
          case rel => exact ⟨i + 1, A3, c3, _, by simp, hlt, by rw [HTS.out, ysK_snoc]; exact HF.out⟩
          case measure => rw [intOf, intOf]; omega
        · refine hx_val 12 (some 30) (.slice (some ⟨(wd.alloc (.cells #[.int .i64 33, .int .i64 1, .int .i64 34, .int .i64 v] 91)).heap.size, 0, none⟩) 2 2) wd2 rfl (by rfl) rfl (by rw [HW2.out]; first | (go_simp; done) | (go_simp; rfl)) S2 ?_
          try simp only [Act.put, List.setIfInBounds_toArray, List.set_cons_zero, List.set_cons_succ]
          refine hx1 1 (by kernel_rfl) ?_
          refine hx_val 1 (some 19) (.slice AI (2 * i) cI) wd2 rfl (by rfl) rfl (by first | (go_simp; done) | (go_simp; rfl)) S2 ?_
          try simp only [Act.put, List.setIfInBounds_toArray, List.set_cons_zero, List.set_cons_succ]
          refine hx1 13 (by kernel_rfl) ?_
          refine hx_pushN 13 (some 31) elemIt itC_len itC_one (.tmp 19) (.tmp 30) rfl (by rfl) rfl rfl rfl (wd.alloc (.cells #[.int .i64 33, .int .i64 1, .int .i64 34, .int .i64 v] 91)).heap.size 2 2 rfl Y2.fm.o [itF txtX svZ, itF (parV v) ⟨some ⟨wd.heap.size, 0, none⟩, 2, 2⟩] BI rfl (by omega) ⟨by omega, by unfold maxLen; omega⟩ Y2.sB ?_
          intro A3 c3 w9 ho9 hg9
          obtain ⟨Y9, y5⟩ := Y2.two (by rw [ysK_len, List.length_take, HLN.out]; omega) PO ho9 hg9
          have f5 := y5.frozen 0
          have c5 := y5.cell 0 rfl
          have S9 : w9.cell? (ad.add i) = some (.int .i64 v) := HC.out w9 (Y2.grow9 ho9 hg9)
          have S10 : (w9.setCell ⟨p5, 0, none⟩ (.slice A3 (2 * i + 2) c3)).cell? (ad.add i) = some (.int .i64 v) := HC.out _ Y9.bel
          refine ⟨S9, ?_⟩
          try simp only [Act.put, List.setIfInBounds_toArray, List.set_cons_zero, List.set_cons_succ]
          refine hx_take 14 (some 32) _ rfl (by kernel_rfl) (by kernel_rfl) (by kernel_rfl) (fun _ _ _ h => h) rfl (Or.inl ⟨by rfl, fun w hSw => by first | (go_simp; done) | (go_simp; with_reducible rfl) | (go_simp; rfl)⟩) (by assumption) ?_
          try simp only [Act.put, List.setIfInBounds_toArray, List.set_cons_zero, List.set_cons_succ]
          refine hx1 15 (by kernel_rfl) ?_
          refine hx_store1 15 p5 (.slice A3 (2 * i + 2) c3) rfl (by rfl) rfl (by first | (go_simp; done) | (go_simp; rfl)) S10 ?_
          refine wpAnyH_done (by kernel_rfl) ?_ _
          have HF := Lib.hid Y9
          clear Y9 y5 f5 c5 S9 S10 ho9 hg9
          go_wp2_with fail
          go_roundw
          case rel => exact ⟨i + 1, A3, c3, _, by simp, hlt, by rw [HTS.out, ysK_snoc]; exact HF.out⟩
          case measure => rw [intOf, intOf]; omega
    · have : i = r := by omega
      subst this
      have q0 := X.b5.cell 0 rfl
      have q1 := X.b5.cell 1 rfl
      have q2 := X.b5.cell 2 rfl
      have q3 := X.b5.cell 3 rfl
      have q4 := X.b5.cell 4 rfl
      have q5 := X.b5.cell 5 rfl
      have q6 := X.b5.cell 6 rfl
      have q7 := X.b5.cell 7 rfl
      have q8 := X.b5.cell 8 rfl
      have q9 := X.b5.cell 9 rfl
      have q10 := X.b5.cell 10 rfl
      have B4 := X.b4
      have htk : of.take i = of := List.take_of_length_le (by rw [HLN.out]; exact Nat.le_refl _)
      rw [htk] at X
      have hG := gsetRow wr p4 #[.slice AI (2 * i) cI, .slice none 0 0, .int .i64 0, .int .i64 0, .slice none 0 0, .slice none 0 0, .slice none 0 0, .slice none 0 0, .slice (some ⟨gl, 0, none⟩) 1 1, .slice none 0 0, .slice none 0 0]
      have HM : Mk_ (wr.setRow p4 #[.slice AI (2 * i) cI, .slice none 0 0, .int .i64 0, .int .i64 0, .slice none 0 0, .slice none 0 0, .slice none 0 0, .slice none 0 0, .slice (some ⟨gl, 0, none⟩) 1 1, .slice none 0 0, .slice none 0 0]) w.heap.size AI (2 * i) cI zs (ysK of) := ⟨X.fm.o.keep hG (fun k hk e => by cases hk; exact X.fm.o.ne_blk X.b4 (by decide) e), fun k hk => by
        obtain ⟨s, e, hs⟩ := X.fm.f k hk
        exact ⟨s, e, hs.keep hG (fun k hk e => by cases hk; exact hs.ne_blk X.b4 (by decide) e)⟩⟩
      have HE := Lib.hid (And.intro HM (And.intro (X.bl.keep hG (X.b4.ne_ty X.bl (by decide))) (below_setRow X.bel X.l4 #[.slice AI (2 * i) cI, .slice none 0 0, .int .i64 0, .int .i64 0, .slice none 0 0, .slice none 0 0, .slice none 0 0, .slice none 0 0, .slice (some ⟨gl, 0, none⟩) 1 1, .slice none 0 0, .slice none 0 0])))
      clear hG HM X htk
      unfold Blk at B4
      go_wp2_with (refine wpList_store_row rfl 63 _ _ rfl p4 #[.slice AI (2 * i) cI, .slice none 0 0, .int .i64 0, .int .i64 0, .slice none 0 0, .slice none 0 0, .slice none 0 0, .slice none 0 0, .slice (some ⟨gl, 0, none⟩) 1 1, .slice none 0 0, .slice none 0 0] rfl rfl 63 _ B4 (by kernel_rfl) rfl (by simp [Value.oneCell']) ?_)
      refine bodyPost_ret (results_cell_row rfl _ _ p4 63 _ (0, 0) _ rfl (setRow_heap _ p4 _ _ _ _ B4) Tryz.underlying63 rfl (by kernel_rfl)) rfl ?_
      exact HP.out _ _ ⟨AI, cI, zs, gl, (by rw [HLN.out]; rfl), (by rw [HLN.out]; exact HE.out.1), HE.out.2.1, HE.out.2.2⟩
end Go.Proofs.YthbodpjkckminaaGreatDoor

namespace Go.Proofs.YthbodpjkckminaaGreatDoor
open Go.RowKit

def ofK : List Int := [1, 2, 2, 1, 2]
def enKn : List En := [⟨0, 1, 1, 1, ⟨#[49, 46]⟩⟩, ⟨2, 1, 2, 1, ⟨#[49, 97, 41]⟩⟩, ⟨4, 1, 2, 2, ⟨#[49, 98, 41]⟩⟩, ⟨6, 1, 1, 2, ⟨#[50, 46]⟩⟩, ⟨8, 1, 2, 1, ⟨#[50, 97, 41]⟩⟩]
theorem pm_kn : pmL (ysK ofK) 10 = [1, 3, 5, 7, 9] := by decide
theorem cl_kn : clE knL = 0 := by kernel_rfl
theorem es_kn (AL : Option Addr) : (runL [⟨1, AL, 2, 2⟩] [knL] (ysK ofK) [1, 3, 5, 7, 9]).es = enKn := by kernel_rfl
theorem k10 {P : Nat → Prop} (h0 : P 0) (h1 : P 1) (h2 : P 2) (h3 : P 3) (h4 : P 4) (h5 : P 5) (h6 : P 6) (h7 : P 7) (h8 : P 8) (h9 : P 9) (k : Nat) (hk : k < 10) : P k := by
  rcases (show k = 0 ∨ k = 1 ∨ k = 2 ∨ k = 3 ∨ k = 4 ∨ k = 5 ∨ k = 6 ∨ k = 7 ∨ k = 8 ∨ k = 9 by omega) with rfl | rfl | rfl | rfl | rfl | rfl | rfl | rfl | rfl | rfl <;> assumption
theorem ysK10 : (ysK ofK).length = 10 := rfl
theorem psK (k : Nat) : (gFi (ysK ofK) k).ps.length ≤ 2 := by
  by_cases h : k < 10
  · exact k10 (P := fun k => (gFi (ysK ofK) k).ps.length ≤ 2) (by decide) (by decide) (by decide) (by decide) (by decide) (by decide) (by decide) (by decide) (by decide) (by decide) k h
  · rw [gFi_out (by rw [ysK10]; omega)]; decide
theorem oneX : OneF txtX := ⟨by decide, fun _ => ⟨by kernel_rfl, by kernel_rfl⟩⟩
theorem oneV (v : Int) : OneF (parV v) := ⟨by show 0 ≤ 1000000; omega, fun h => by cases h⟩
theorem dyK : DocFl (ysK ofK) := by
  refine ⟨⟨⟨⟨by rw [ysK10]; omega, fun k => Nat.le_trans (psK k) (by omega)⟩, fun k hk => ?_⟩, fun k hk => ?_⟩, fun k hk => ?_⟩
  · rw [ysK10] at hk
    exact k10 (P := fun k => (gFi (ysK ofK) k).kind = 2 ∨ ((gFi (ysK ofK) k).kind = 1 ∧ (gFi (ysK ofK) k).text.size ≠ 0 ∧ (0 < k → (gFi (ysK ofK) (k - 1)).kind = 2)))
      (.inr ⟨rfl, by decide, fun h => absurd h (by omega)⟩) (.inl rfl) (.inr ⟨rfl, by decide, fun _ => rfl⟩) (.inl rfl) (.inr ⟨rfl, by decide, fun _ => rfl⟩) (.inl rfl) (.inr ⟨rfl, by decide, fun _ => rfl⟩) (.inl rfl) (.inr ⟨rfl, by decide, fun _ => rfl⟩) (.inl rfl) k hk
  · rw [ysK10] at hk
    exact k10 (P := fun k => OneF (gFi (ysK ofK) k)) oneX (oneV _) oneX (oneV _) oneX (oneV _) oneX (oneV _) oneX (oneV _) k hk
  · rw [ysK10] at hk
    obtain rfl : k = 9 := by omega
    rfl
theorem prK (v : Int) (h : v = 1 ∨ v = 2) : PrOk (parV v).ps := by
  refine ⟨?_, ?_, fun k hk => ?_, by show 2 ≤ 1000000; omega⟩
  · rcases h with rfl | rfl <;> kernel_rfl
  · rcases h with rfl | rfl <;> kernel_rfl
  · have hk2 : k < 2 := hk
    rcases (show k = 0 ∨ k = 1 by omega) with rfl | rfl
    · exact (show (kyF 33).grp = 2 by kernel_rfl)
    · exact (show (kyF 34).grp = 2 by kernel_rfl)
theorem drK {w : World} {AI : Option Addr} {c gl : Nat} {zs : List It} {AL : Option Addr} {B : Nat} (hM : Mk_ w B AI 10 c zs (ysK ofK)) (hb : Blk w gl 96 #[.int .i64 1, .slice AL 2 2]) (hl : Sl w 4 lvC AL 2 knL) :
    DocR w AI 10 zs (ysK ofK) (some ⟨gl, 0, none⟩) 1 [⟨1, AL, 2, 2⟩] [knL] := by
  refine ⟨hM.fl rfl, dyK, ⟨Blk.slq (xs := [(⟨1, AL, 2, 2⟩ : LsE)]) hb lsC_len rfl, fun k hk => ?_, fun k hk => ?_, rfl⟩, by omega, fun k hk => ?_, fun k hk hk2 => ?_⟩
  · obtain rfl : k = 0 := by omega
    exact hl
  · obtain rfl : k = 0 := by omega
    exact Nat.le_refl _
  · obtain rfl : k = 0 := by omega
    exact cl_kn
  · revert hk2
    exact k10 (P := fun k => (gFi (ysK ofK) k).kind = 2 → PrOk (gFi (ysK ofK) k).ps) (fun h => by cases h) (fun _ => prK 1 (.inl rfl)) (fun h => by cases h) (fun _ => prK 2 (.inr rfl)) (fun h => by cases h) (fun _ => prK 2 (.inr rfl)) (fun h => by cases h) (fun _ => prK 1 (.inl rfl)) (fun h => by cases h) (fun _ => prK 2 (.inr rfl)) k hk
def enZ : En := ⟨0, 0, 0, 0, ⟨#[]⟩⟩
def gEn (es : List En) (k : Nat) : En := es.getD k enZ
theorem Sl.en {w : World} {A : Option Addr} {n : Nat} {es : List En} (h : Sl w 6 enC A n es) {k : Nat} (hk : k < n) :
    ∃ ad, A = some ad ∧ ad.block < w.heap.size ∧ w.cell? (ad.add (k * 6)) = some (.int .i64 0) ∧ w.cell? ⟨(ad.add (k * 6)).block, (ad.add (k * 6)).off + 1, none⟩ = some (.int .i64 (gEn es k).at_) ∧ w.cell? ⟨(ad.add (k * 6)).block, (ad.add (k * 6)).off + 2, none⟩ = some (.int .i64 (gEn es k).list) ∧ w.cell? ⟨(ad.add (k * 6)).block, (ad.add (k * 6)).off + 3, none⟩ = some (.int .i64 (gEn es k).level)
      ∧ w.cell? ⟨(ad.add (k * 6)).block, (ad.add (k * 6)).off + 4, none⟩ = some (.int .i64 (gEn es k).num) ∧ w.cell? ⟨(ad.add (k * 6)).block, (ad.add (k * 6)).off + 5, none⟩ = some (.string (gEn es k).lab) := by
  obtain ⟨ad, e, hl, h0, hj⟩ := h.fld enZ hk
  exact ⟨ad, e, hl, h0 _ rfl, hj 1 _ (by omega) rfl, hj 2 _ (by omega) rfl, hj 3 _ (by omega) rfl, hj 4 _ (by omega) rfl, hj 5 _ (by omega) rfl⟩
theorem cells_kn {w : World} {B g c : Nat} (oE : Own w B 73 6 enC (some ⟨g, 0, none⟩) 5 c enKn) :
    w.cell? ⟨g, 5, none⟩ = some (.string ⟨#[49, 46]⟩) ∧ w.cell? ⟨g, 11, none⟩ = some (.string ⟨#[49, 97, 41]⟩) ∧ w.cell? ⟨g, 17, none⟩ = some (.string ⟨#[49, 98, 41]⟩) ∧ w.cell? ⟨g, 23, none⟩ = some (.string ⟨#[50, 46]⟩) ∧ w.cell? ⟨g, 29, none⟩ = some (.string ⟨#[50, 97, 41]⟩) ∧ w.cell? ⟨g, 25, none⟩ = some (.int .i64 8) := by
  have rE := fun k hk => (oE.field enC_len (k := k) hk)
  refine ⟨?_, ?_, ?_, ?_, ?_, ?_⟩
  · obtain ⟨g', x, e1, _, _, hx, hc⟩ := rE 0 (by omega); cases e1; cases hx; exact hc 5 _ rfl
  · obtain ⟨g', x, e1, _, _, hx, hc⟩ := rE 1 (by omega); cases e1; cases hx; exact hc 5 _ rfl
  · obtain ⟨g', x, e1, _, _, hx, hc⟩ := rE 2 (by omega); cases e1; cases hx; exact hc 5 _ rfl
  · obtain ⟨g', x, e1, _, _, hx, hc⟩ := rE 3 (by omega); cases e1; cases hx; exact hc 5 _ rfl
  · obtain ⟨g', x, e1, _, _, hx, hc⟩ := rE 4 (by omega); cases e1; cases hx; exact hc 5 _ rfl
  · obtain ⟨g', x, e1, _, _, hx, hc⟩ := rE 4 (by omega); cases e1; cases hx; exact hc 1 _ rfl
set_option maxRecDepth 100000 in
set_option maxHeartbeats 8000000 in
theorem known_any (w : World) (hg : Gl w) : Calls Tryz.prog 8 #[] w fun e w' => e = .returned (.bool true) ∧ Below w.heap.size w w' := by
  have cL := levels_any w
  have cK := Lib.hid (fun W AL O (ho : Sl W 1 intC O 5 ofK) => llist_any AL 2 2 O 5 5 ofK W ho (by omega))
  unfold LkPost at cK
  rw [show 2 * ofK.length = 10 from rfl] at cK
  have cA := Lib.hid (fun W AI cI gl zs AL (hb : Below w.heap.size w W) (h : DocR W AI 10 zs (ysK ofK) (some ⟨gl, 0, none⟩) 1 [⟨1, AL, 2, 2⟩] [knL]) => nall_any AI 10 cI (some ⟨gl, 0, none⟩) 1 1 zs (ysK ofK) [⟨1, AL, 2, 2⟩] [knL] W (hg.below hb) h)
  unfold EnPost at cA
  rw [pm_kn] at cA
  go_enter Tryz.func8, Tryz.ntmps8
  go_wp2_with (go_at_call 26; refine cL.mono ?_; rintro e w2 ⟨AL, rfl, oL, hb2⟩; have oo := Own.lit (w := w2) (B := w.heap.size) (s := 1) (e := 3) (enc := intC) (xs := ofK) hb2.size rfl (show (5 : Nat) ≤ maxLen by unfold maxLen; omega); rw [show (ofK.flatMap intC).toArray = #[.int .i64 1, .int .i64 2, .int .i64 2, .int .i64 1, .int .i64 2] from rfl] at oo; have hal := alloc1 w2 (.cells #[.int .i64 1, .int .i64 2, .int .i64 2, .int .i64 1, .int .i64 2] 3))
  have oL := oL.below hal
  have hbw := below_trans' hb2 hb2.size hal
  have cK := cK.out _ AL _ (oo.sl intC_len)
  generalize w2.alloc (.cells #[.int .i64 1, .int .i64 2, .int .i64 2, .int .i64 1, .int .i64 2] 3) = w3 at *
  clear oo hal hb2 cL
  go_wp2_with (go_at_call 25; refine cK.mono ?_; rintro e w4 ⟨AI, cI, zs, gl, rfl, hM, hbl, hb4⟩; have cA := cA.out w4 AI cI gl zs AL (below_trans' hbw hbw.size hb4) (drK hM hbl ((oL.sl lvC_len).below hb4)))
  go_wp2_with (go_at_call 20; refine cA.mono ?_; rintro e w5 ⟨AE, cE, rfl, oE, hb5⟩; rw [show (runL [⟨1, AL, 2, 2⟩] [knL] (ysK ofK) [1, 3, 5, 7, 9]).es = enKn from es_kn AL, show enKn.length = 5 from rfl] at oE ⊢; have HB := Lib.hid (below_trans' (below_trans' hbw hbw.size hb4) (below_trans' hbw hbw.size hb4).size hb5); obtain ⟨g5, rfl, _, _⟩ := oE.form (by omega); obtain ⟨f0, f1, f2, f3, f4, f5⟩ := cells_kn oE; clear oE)
  go_ret
  exact ⟨rfl, HB.out⟩
end Go.Proofs.YthbodpjkckminaaGreatDoor
