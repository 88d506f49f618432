/- The scanner: flush, place, digit. -/
import Derived.Test.YtjpbmeonkfkgdaaF3
import Derived.Deep.AppendLies
import Derived.Deep.RegionLaw
import Derived.Deep.QuietTactic
import Derived.BigQuiet
namespace Go.Proofs.Ytjpbmeonkfkgdaa
open Go.RowKit

theorem cell_grown {w w' : World} {g : Nat} {p : Addr} {u : Value} (hg : w.grownBy w' (some g)) (hp : p.block ≠ g) (h : w.cell? p = some u) : w'.cell? p = some u :=
  (World.cell?_of_block (hg.block _ (World.block_lt_of_cell? _ _ h) (by intro e; injection e with e; exact hp e))).trans h
theorem keep1 {w w' : World} {p0 : Addr} {v0 : Value} (hb : Below w.heap.size w w') (h : w.cell? p0 = some v0) : w'.cell? p0 = some v0 := (hb.cell (World.block_lt_of_cell? _ _ h)).trans h
/-- append of one element that lies in a block just made, as a step of a region. -/
theorem step_push {α : Type} {P : Program} {t e : TypeId} {s b : Nat} {enc : α → List Value} (T : Elem P t e s b) {ops : Array Oper} {o : Oper} {a : Act} {w : World} {K : Act → World → Prop} {Q : Exit → Act → World → Prop} {E : Prop}
    {A : Option Addr} {n c B : Nat} {xs : List α} (hgd : o.guard = none) (sx ox : Operand) (ho : o.op = .call { callee := .builtin .append, args := #[sx, ox], argTypes := #[t, t] })
    (hs : a.eval sx = .slice A n c) (ad : Addr) (hx : a.eval ox = .slice (some ad) 1 1) (hown : Own w B e s enc A n c xs) (x : α) (hcell : ∀ j u, (enc x)[j]? = some u → w.cell? (ad.add j) = some u) (h1 : ∀ u ∈ enc x, u.oneCell' = true) (hl : (enc x).length = s)
    (hn : (n + 1) * b ≤ 140737488355328 ∧ n + 1 ≤ maxLen) (hB : B ≤ w.heap.size)
    (h : ∀ g c' w', Own w' B e s enc (some ⟨g, 0, none⟩) (n + 1) c' (xs ++ [x]) → w.grownBy w' (blk A) → (blk A = some g ∨ g = w.heap.size) → K (a.put o.dst (.slice (some ⟨g, 0, none⟩) (n + 1) c')) w') :
    if Region.wanted o (yielded ops a.tmps) = true then Oper.wp P o a w K Q else E := by
  obtain ⟨ht, i, z, hi, hz, hsz, hb, hzs, hs0⟩ := T
  refine step_append_lies w hgd sx ox t ho B e i z s b ht hi hz hsz hb hzs hs0 (.slice A n c) n (xs.flatMap enc) hs hown.row ad 1 1 (enc x) hx (by omega) hcell h1 (by omega) hn.2 hn.1 hB _ rfl ?_
  intro g cap w' hown' hg hat hlt
  rw [blk_own] at hg hat
  exact h g cap w' ⟨by rw [List.length_append, hown.len]; rfl, by rw [List.flatMap_append]; simpa using hown'⟩ hg hat

set_option maxHeartbeats 2000000 in
set_option maxRecDepth 100000 in
theorem flush_any (B g : Nat) (s : ByteArray) (at_ pl : Nat) (lit : List UInt8) (ps : List Pt) (e : Int) (w : World) (h : Sc w B g s at_ lit ps pl e) (hl : lit.length ≤ 4096 ∧ ps.length ≤ 4096) (hB : B ≤ w.heap.size) :
    Calls Try.prog 38 #[.pointer (some ⟨g, 0, none⟩)] w fun er w' => er = .returned (.tuple #[]) ∧ Sc w' B g s at_ [] (flushP lit ps) pl e ∧ Below B w w' := by
  obtain ⟨sp, A1, c1, A2, c2, hsp, hb, hp⟩ := h
  have hlen := blen_any g lit.length c1 A1 w (hb.cell 3 rfl)
  by_cases h0 : lit = []
  · subst h0
    have e0 : flushP [] ps = ps := if_pos rfl
    rw [e0]
    have HB := Lib.hid hb
    clear hb
    go_enter Try.func38, Try.ntmps38
    go_wp2_with (go_at_call 44; refine hlen.mono ?_; rintro er w1 ⟨rfl, rfl⟩)
    go_end0
    exact ⟨rfl, ⟨sp, A1, c1, A2, c2, hsp, HB.out, hp⟩, Below.refl _ _⟩
  · have e0 : flushP lit ps = ps ++ [⟨lit, 0, false⟩] := if_neg h0
    have HE := Lib.hid e0
    have hpos : decide (0 < lit.length) = true := decide_eq_true (List.length_pos_iff.2 h0)
    have k4 : w.cell? ⟨g, 4, none⟩ = some (.slice A2 ps.length c2) := hb.cell 4 rfl
    have k3 : w.cell? ⟨g, 3, none⟩ = some (.slice A1 lit.length c1) := hb.cell 3 rfl
    have hstr := bstring_any g B lit.length c1 A1 lit (w.drewN 1) k3 (hp.o1.drewN 1) h0
    have hl2 := hl.2
    have hgl := hb.lt
    clear e0
    go_enter Try.func38, Try.ntmps38
    go_upto_region 1 with (go_at_call 44; refine hlen.mono ?_; rintro er w1 ⟨rfl, rfl⟩)
    go_region_law
      (first
        | (go_simp; go_at_call 45; refine hstr.mono ?_; rintro er wS ⟨ga, hga, hBa, rfl, hgs⟩; have hne9 : ga ≠ g := (by have := hp.n1; rw [hga] at this; intro e; exact this (by rw [e]; rfl)); have s9 : wS.cell? ⟨g, 4, none⟩ = some (.slice A2 ps.length c2) := cell_grown hgs (fun e => hne9 e.symm) k4; have r9 : wS.cell? ⟨g, 3, none⟩ = some (.slice A1 lit.length c1) := cell_grown hgs (fun e => hne9 e.symm) k3; have bS := (hb.drewN 1).keep hgs (fun e => by injection e with e; exact hne9 e); have s8 : (wS.alloc (.cells #[.string ⟨lit.toArray⟩, .int .i64 0, .bool false] 93)).cell? ⟨g, 4, none⟩ = some (.slice A2 ps.length c2) := (bS.alloc _).cell 4 rfl; have oS := (hp.o2.drewN 1).keep hgs (fun k hk hk2 => by injection hk with hk; exact hp.ap ga (by rw [hga]; rfl) (by rw [hk]; exact hk2)))
        | (refine step_push elemP (by rfl) (.tmp 11) (.tmp 17) (by rfl) (by rfl) ⟨wS.heap.size, 0, none⟩ (by rfl) (oS.alloc _) (⟨lit, 0, false⟩ : Pt) (fun j u hu => World.news_of_block (cs := (ptC ⟨lit, 0, false⟩).toArray) (t := 93) (fr := (0, 0)) (heap_alloc_new wS _) j u (by simpa using hu)) (ptC_one _) (ptC_len _) (by unfold maxLen; omega) (by have := hgs.size; simp at this ⊢; omega) ?_; intro g5 c5 w5 ho5 hg5 ha5; have b5 := (bS.alloc (.cells (ptC ⟨lit, 0, false⟩).toArray 93)).keep hg5 hp.n2; have s9 : w5.cell? ⟨g, 4, none⟩ = some (.slice A2 ps.length c2) := b5.cell 4 rfl; have r9 : w5.cell? ⟨g, 3, none⟩ = some (.slice A1 lit.length c1) := b5.cell 3 rfl; have f9 := b5.frozen 4))
    all_goals
      have b6 := b5.set_ 4 (.slice (some ⟨g5, 0, none⟩) (ps.length + 1) c5)
      have u2 : (w5.setCell ⟨g, 4, none⟩ (.slice (some ⟨g5, 0, none⟩) (ps.length + 1) c5)).cell? ⟨g, 2, none⟩ = some sp := b6.cell 2 rfl
      have u3 : (w5.setCell ⟨g, 4, none⟩ (.slice (some ⟨g5, 0, none⟩) (ps.length + 1) c5)).cell? ⟨g, 3, none⟩ = some (.slice A1 lit.length c1) := b6.cell 3 rfl
      have kr := breset_any g _ _ _ u2 u3 (b6.frozen 2) (b6.frozen 3)
      go_wp2_with (go_at_call 46; refine kr.mono ?_; rintro er w7 ⟨rfl, rfl⟩)
      go_end0
      have hn5 : blk (some (⟨g5, 0, none⟩ : Addr)) ≠ some g := by
        rcases ha5 with h | h
        · exact fun e2 => hp.n2 (h.trans e2)
        · intro e2; injection e2 with e2; have := bS.lt; simp at h e2; omega
      have k9 := (gset w5 g 4 (.slice (some ⟨g5, 0, none⟩) (ps.length + 1) c5)).trans ((gset _ g 2 (.pointer none)).trans (gset _ g 3 (.slice none 0 0)))
      have hsz := hgs.size
      refine ⟨rfl, ⟨.pointer none, none, 0, some ⟨g5, 0, none⟩, c5, .inl rfl, ?_, ⟨hp.hg, Own.nil_ _ _ _ _ _, ?_, by simp [blk], hn5, Apart.none_l⟩⟩, ?_⟩
      · rw [HE.out, List.length_append]
        exact (b6.set_ 2 _).set_ 3 _
      · rw [HE.out, List.length_append]
        exact ho5.keep k9 (fun k hk => by injection hk with hk; rw [← hk]; exact hn5)
      · have h1 := (below_drewN (Below.refl B w1) 1).grown hgs hB (fun k hk => by injection hk with hk; omega)
        have h2 := (h1.alloc (Nat.le_trans hB hsz) (.cells (ptC ⟨lit, 0, false⟩).toArray 93)).grown hg5 (Nat.le_trans hB (by simp at hsz ⊢; omega)) (fun k hk => (oS.lt k hk).1)
        exact ((h2.setCell (p := ⟨g, 4, none⟩) hp.hg _).setCell (p := ⟨g, 2, none⟩) hp.hg _).setCell (p := ⟨g, 3, none⟩) hp.hg _
end Go.Proofs.Ytjpbmeonkfkgdaa
