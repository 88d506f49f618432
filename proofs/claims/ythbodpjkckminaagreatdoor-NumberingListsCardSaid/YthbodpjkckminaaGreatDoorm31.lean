/- numbering.Find of a flat document. numbering.At of a flat document. the law NumberingLists, plain. -/
import Derived.Test.YthbodpjkckminaaGreatDoorm30
import Derived.Test.YthbodpjkckminaaGreatDoorm26
namespace Go.Proofs.YthbodpjkckminaaGreatDoor
open Go.RowKit Go.Sort

def pfE (x : Int) (lb : ByteArray) (e : En) : Bool := e.list == x && e.lab.toList == lb.toList
set_option maxRecDepth 100000 in
theorem find1_any (q1 q2 : Nat) (at_ li lv nu : Int) (la : ByteArray) (x : Int) (lb : ByteArray) (w : World) (h1 : w.cell? ⟨q1, 0, none⟩ = some (.int .i64 x)) (h2 : w.cell? ⟨q2, 0, none⟩ = some (.string lb)) :
    Calls Tryz.prog 51 #[.agg #[.int .i64 0, .int .i64 at_, .int .i64 li, .int .i64 lv, .int .i64 nu, .string la], .pointer (some ⟨q1, 0, none⟩), .pointer (some ⟨q2, 0, none⟩)] w fun e w' => e = .returned (.bool (pfE x lb ⟨at_, li, lv, nu, la⟩)) ∧ Below w.heap.size w w' := by
  have hb := alloc1 w (.cells #[.int .i64 0, .int .i64 at_, .int .i64 li, .int .i64 lv, .int .i64 nu, .string la] 73)
  have N3 := Blk.new w 73 #[.int .i64 0, .int .i64 at_, .int .i64 li, .int .i64 lv, .int .i64 nu, .string la]
  have h1 := keepC hb h1
  have h2 := keepC hb h2
  have hpf : pfE x lb ⟨at_, li, lv, nu, la⟩ = (li == x && la.toList == lb.toList) := rfl
  have HPF := Lib.hid hpf
  clear hpf
  go_enter Tryz.func51, Tryz.ntmps51
  go_upto_region 1 with fail
  generalize w.alloc (.cells #[.int .i64 0, .int .i64 at_, .int .i64 li, .int .i64 lv, .int .i64 nu, .string la] 73) = w1 at *
  have n2 := N3.cell 2 rfl
  have n5 := N3.cell 5 rfl
  have HB := Lib.hid hb
  clear hb N3
  obtain ⟨p3, hp3⟩ : ∃ p, p = w.heap.size := ⟨_, rfl⟩
  have HP3 := Lib.hid hp3
  rw [← hp3] at n2 n5 ⊢
  clear hp3
  cases h : (li == x)
  · rw [h] at HPF
    go_wp2_with fail
    go_ret
    exact ⟨by rw [HPF.out]; rfl, HB.out⟩
  · rw [h] at HPF
    go_wp2_with fail
    go_ret
    exact ⟨by rw [HPF.out]; rfl, HB.out⟩
def FdE (E : List En) (x : Int) (lb : ByteArray) (r : Int) : Prop := (∃ i : Nat, i < E.length ∧ r = (i : Int) ∧ pfE x lb (gEn E i) = true ∧ ∀ t, t < i → pfE x lb (gEn E t) = false) ∨ (r = -1 ∧ ∀ t, t < E.length → pfE x lb (gEn E t) = false)
set_option maxRecDepth 100000 in
set_option maxHeartbeats 4000000 in
theorem indexEn_any (A : Option Addr) (n c q1 q2 : Nat) (E : List En) (x : Int) (lb : ByteArray) (w : World) (ha : Sl w 6 enC A n E) (hn : n ≤ 1000000) (h1 : Blk w q1 3 #[.int .i64 x]) (h2 : Blk w q2 9 #[.string lb]) :
    Calls Tryz.prog 50 #[.slice A n c, .func (.func 51) #[] #[.pointer (some ⟨q1, 0, none⟩), .pointer (some ⟨q2, 0, none⟩)]] w fun e w' => (∃ r, e = .returned (.int .i64 r) ∧ FdE E x lb r) ∧ Below w.heap.size w w' := by
  have hln := ha.len
  have HLN := Lib.hid hln
  have HR := Lib.hid (show ∀ r, ((∃ i : Nat, i < E.length ∧ r = (i : Int) ∧ pfE x lb (gEn E i) = true ∧ ∀ t, t < i → pfE x lb (gEn E t) = false) ∨ (r = -1 ∧ ∀ t, t < E.length → pfE x lb (gEn E t) = false)) → FdE E x lb r from fun _ h => h)
  clear hln
  go_enter Tryz.func50, Tryz.ntmps50
  go_wp2_with fail
  go_loopw [8] (fun vi wr => ∃ i : Nat, vi = .int .i64 i ∧ i ≤ n ∧ Below w.heap.size w wr ∧ ∀ t, t < i → pfE x lb (gEn E t) = false) (fun vi _ => n - (intOf vi).toNat)
  case atStart => exact ⟨0, rfl, Nat.zero_le _, Below.refl _ _, fun t ht => absurd ht (Nat.not_lt_zero _)⟩
  case round =>
    obtain ⟨i, rfl, hi, hb, hz⟩ := hrel
    have HZ := Lib.hid hz
    clear hz
    by_cases hlt : i < n
    · obtain ⟨ad, e, hl2, f0, f1, f2, f3, f4, f5⟩ := (ha.below hb).en hlt
      subst e
      have c1 := find1_any q1 q2 (gEn E i).at_ (gEn E i).list (gEn E i).level (gEn E i).num (gEn E i).lab x lb wr (keepC hb (h1.cell 0 rfl)) (keepC hb (h2.cell 0 rfl))
      have HI := Lib.hid (show pfE x lb ⟨(gEn E i).at_, (gEn E i).list, (gEn E i).level, (gEn E i).num, (gEn E i).lab⟩ = pfE x lb (gEn E i) from rfl)
      rw [HI.out] at c1
      obtain ⟨b, hbv⟩ : ∃ b, pfE x lb (gEn E i) = b := ⟨_, rfl⟩
      rw [hbv] at c1
      have HB := Lib.hid hbv
      clear hbv HI
      generalize (gEn E i).at_ = v1 at *
      generalize (gEn E i).list = v2 at *
      generalize (gEn E i).level = v3 at *
      generalize (gEn E i).num = v4 at *
      generalize (gEn E i).lab = v5 at *
      cases b
      · go_wp2_with (go_at_call 51; refine c1.mono ?_; rintro e w2 ⟨rfl, hb2⟩)
        go_roundw
        case rel => exact ⟨i + 1, by simp, by omega, below_trans' hb hb.size hb2, fun t ht => by
          rcases (show t < i ∨ t = i by omega) with h | rfl
          · exact HZ.out t h
          · exact HB.out⟩
        case measure => rw [intOf, intOf]; omega
      · go_wp2_with (go_at_call 51; refine c1.mono ?_; rintro e w2 ⟨rfl, hb2⟩)
        go_ret
        exact ⟨⟨_, rfl, HR.out _ (.inl ⟨i, by rw [HLN.out]; exact hlt, rfl, HB.out, HZ.out⟩)⟩, below_trans' hb hb.size hb2⟩
    · have : i = n := by omega
      subst this
      go_wp2_with fail
      go_ret
      exact ⟨⟨_, rfl, HR.out _ (.inr ⟨rfl, by rw [HLN.out]; exact HZ.out⟩)⟩, hb⟩
theorem boxes_fd (w : World) (D E : Array Value) (x y : Value) : Blk ((((w.alloc (.cells D 63)).alloc (.cells #[x] 3)).alloc (.cells #[y] 9)).alloc (.cells E 73)) w.heap.size 63 D
    ∧ Blk ((((w.alloc (.cells D 63)).alloc (.cells #[x] 3)).alloc (.cells #[y] 9)).alloc (.cells E 73)) (w.heap.size + 1) 3 #[x]
    ∧ Blk ((((w.alloc (.cells D 63)).alloc (.cells #[x] 3)).alloc (.cells #[y] 9)).alloc (.cells E 73)) (w.heap.size + 1 + 1) 9 #[y]
    ∧ Blk ((((w.alloc (.cells D 63)).alloc (.cells #[x] 3)).alloc (.cells #[y] 9)).alloc (.cells E 73)) (w.heap.size + 1 + 1 + 1) 73 E
    ∧ Below w.heap.size w ((((w.alloc (.cells D 63)).alloc (.cells #[x] 3)).alloc (.cells #[y] 9)).alloc (.cells E 73)) := by
  have B2 := (((Blk.new w 63 D).alloc (.cells #[x] 3)).alloc (.cells #[y] 9)).alloc (.cells E 73)
  have B3 := ((Blk.new (w.alloc (.cells D 63)) 3 #[x]).alloc (.cells #[y] 9)).alloc (.cells E 73)
  have B4 := (Blk.new ((w.alloc (.cells D 63)).alloc (.cells #[x] 3)) 9 #[y]).alloc (.cells E 73)
  have B5 := Blk.new (((w.alloc (.cells D 63)).alloc (.cells #[x] 3)).alloc (.cells #[y] 9)) 73 E
  simp only [World.size_alloc] at B3 B4 B5
  exact ⟨B2, B3, B4, B5, (((alloc1 w _).alloc (by simp) _).alloc (by simp; omega) _).alloc (by simp; omega) _⟩
def enV (e : En) : Value := .agg #[.int .i64 0, .int .i64 e.at_, .int .i64 e.list, .int .i64 e.level, .int .i64 e.num, .string e.lab]
def FnR (E : List En) (x : Int) (lb : ByteArray) (e : En) (ok : Bool) : Prop := (ok = true ∧ ∃ i : Nat, i < E.length ∧ pfE x lb (gEn E i) = true ∧ (∀ t, t < i → pfE x lb (gEn E t) = false) ∧ e = gEn E i) ∨ (ok = false ∧ ∀ t, t < E.length → pfE x lb (gEn E t) = false)
def FnPost (w : World) (E : List En) (x : Int) (lb : ByteArray) (r : Ending) (w' : World) : Prop := ∃ e ok, r = .returned (.tuple #[enV e, .bool ok]) ∧ FnR E x lb e ok ∧ Below w.heap.size w w'
set_option maxRecDepth 100000 in
set_option maxHeartbeats 8000000 in
theorem nfind_any (A : Option Addr) (m c : Nat) (LA : Option Addr) (ln lc : Nat) (xs : List It) (ys : List Fi) (es : List LsE) (vs : List (List Lv)) (x : Int) (lb : ByteArray) (w : World) (hg : Gl w) (hD : DocR w A m xs ys LA ln es vs) (hE : (runL es vs ys (pmL ys m)).es.length ≤ 1000000) :
    Calls Tryz.prog 24 #[.agg (docL A m c LA ln lc).toArray, .int .i64 x, .string lb] w (FnPost w (runL es vs ys (pmL ys m)).es x lb) := by
  have cA := Lib.hid (fun W (hb : Below w.heap.size w W) => nall_any A m c LA ln lc xs ys es vs W (hg.below hb) (hD.below hb))
  have HX := Lib.hid (boxes_fd w #[.slice A m c, .slice none 0 0, .int .i64 0, .int .i64 0, .slice none 0 0, .slice none 0 0, .slice none 0 0, .slice none 0 0, .slice LA ln lc, .slice none 0 0, .slice none 0 0] #[.int .i64 0, .int .i64 0, .int .i64 0, .int .i64 0, .int .i64 0, .string ⟨#[]⟩] (.int .i64 x) (.string lb))
  rw [show (docL A m c LA ln lc).toArray = #[.slice A m c, .slice none 0 0, .int .i64 0, .int .i64 0, .slice none 0 0, .slice none 0 0, .slice none 0 0, .slice none 0 0, .slice LA ln lc, .slice none 0 0, .slice none 0 0] from rfl] at *
  unfold EnPost at cA
  generalize (runL es vs ys (pmL ys m)).es = E at *
  have HP := Lib.hid (show ∀ r w', (∃ e ok, r = .returned (.tuple #[enV e, .bool ok]) ∧ FnR E x lb e ok ∧ Below w.heap.size w w') → FnPost w E x lb r w' from fun _ _ h => h)
  clear hg hD
  go_enter Tryz.func24, Tryz.ntmps24
  go_upto_region 0 with fail
  go_cut [3, 4, 5, 6, 7] (fun v3 v4 v5 v6 v7 wx => ∃ p3 p4 p5 p6, v3 = .pointer (some ⟨p3, 0, none⟩) ∧ v4 = .pointer (some ⟨p4, 0, none⟩) ∧ v5 = .pointer (some ⟨p5, 0, none⟩) ∧ v6 = .pointer (some ⟨p6, 0, none⟩) ∧ v7 = .bool false ∧ Blk wx p3 63 #[.slice A m c, .slice none 0 0, .int .i64 0, .int .i64 0, .slice none 0 0, .slice none 0 0, .slice none 0 0, .slice none 0 0, .slice LA ln lc, .slice none 0 0, .slice none 0 0] ∧ Blk wx p4 3 #[.int .i64 x] ∧ Blk wx p5 9 #[.string lb] ∧ Blk wx p6 73 #[.int .i64 0, .int .i64 0, .int .i64 0, .int .i64 0, .int .i64 0, .string ⟨#[]⟩] ∧ w.heap.size ≤ p6 ∧ Below w.heap.size w wx)
  case first =>
    clear cA HP
    go_wp2_with fail
    go_meet
    case rel => exact ⟨_, _, _, _, rfl, rfl, rfl, rfl, rfl, HX.out.1, HX.out.2.1, HX.out.2.2.1, HX.out.2.2.2.1, by omega, HX.out.2.2.2.2⟩
  case rest =>
  obtain ⟨p3, p4, p5, p6, rfl, rfl, rfl, rfl, rfl, B3, B4, B5, B6, hp6, hbw⟩ := hcut
  clear HX
  generalize wc = w1 at *
  have q0 := B3.cell 0 rfl
  have q1 := B3.cell 1 rfl
  have q2 := B3.cell 2 rfl
  have q3 := B3.cell 3 rfl
  have q4 := B3.cell 4 rfl
  have q5 := B3.cell 5 rfl
  have q6 := B3.cell 6 rfl
  have q7 := B3.cell 7 rfl
  have q8 := B3.cell 8 rfl
  have q9 := B3.cell 9 rfl
  have q10 := B3.cell 10 rfl
  have cA := cA.out w1 hbw
  go_upto_region 2 with (go_at_call 20; refine cA.mono ?_; rintro e w2 ⟨A1, c1, rfl, o1, hb2⟩)
  have S1 := o1.sl enC_len
  have cI := indexEn_any A1 E.length c1 p4 p5 E x lb w2 S1 hE (B4.below hb2) (B5.below hb2)
  have B6 := B6.below hb2
  have hbw := below_trans' hbw hbw.size hb2
  clear q0 q1 q2 q3 q4 q5 q6 q7 q8 q9 q10 cA o1 B3 B4 B5 hb2
  go_upto_region 3 with (go_at_call 50; refine cI.mono ?_; rintro e w3 ⟨⟨r, rfl, hr⟩, hb3⟩)
  have B6 := B6.below hb3
  have S1 := S1.below hb3
  have hbw := below_trans' hbw hbw.size hb3
  clear cI hb3
  rcases hr with ⟨i, hi, rfl, hpt, hpf⟩ | ⟨rfl, hpf⟩
  · obtain ⟨ad, eA, hl, f0, f1, f2, f3, f4, f5⟩ := S1.en hi
    subst eA
    have hi' : (i : Int) < E.length := by omega
    have hni : ¬ (i : Int) < 0 := by omega
    have HF := Lib.hid (show FnR E x lb (gEn E i) true from .inl ⟨rfl, i, hi, hpt, hpf, rfl⟩)
    obtain ⟨en, hen⟩ : ∃ en, gEn E i = en := ⟨_, rfl⟩
    rw [hen] at HF f1 f2 f3 f4 f5
    clear hen hpt hpf S1
    obtain ⟨v1, v2, v3, v4, v5⟩ := en
    simp only at f1 f2 f3 f4 f5
    unfold Blk at B6
    have HE := Lib.hid (below_setRow hbw hp6 #[.int .i64 0, .int .i64 v1, .int .i64 v2, .int .i64 v3, .int .i64 v4, .string v5])
    clear hbw
    go_wp2_with (refine wpList_store_row rfl 73 _ _ rfl p6 #[.int .i64 0, .int .i64 v1, .int .i64 v2, .int .i64 v3, .int .i64 v4, .string v5] rfl rfl 73 _ B6 (by kernel_rfl) rfl (by simp [Value.oneCell']) ?_)
    refine bodyPost_ret (results_cell_tmp rfl _ _ p6 73 _ (0, 0) _ rfl (setRow_heap _ p6 _ _ _ _ B6) Tryz.underlying73 rfl (by kernel_rfl)) rfl ?_
    exact HP.out _ _ ⟨_, true, rfl, HF.out, HE.out⟩
  · have HF := Lib.hid (show FnR E x lb ⟨0, 0, 0, 0, ⟨#[]⟩⟩ false from .inr ⟨rfl, hpf⟩)
    clear hpf S1
    unfold Blk at B6
    have HE := Lib.hid (below_setRow hbw hp6 #[.int .i64 0, .int .i64 0, .int .i64 0, .int .i64 0, .int .i64 0, .string ⟨#[]⟩])
    clear hbw
    go_wp2_with (refine wpList_store_row rfl 73 _ _ rfl p6 #[.int .i64 0, .int .i64 0, .int .i64 0, .int .i64 0, .int .i64 0, .string ⟨#[]⟩] rfl rfl 73 _ B6 (by kernel_rfl) rfl (by simp [Value.oneCell']) ?_)
    refine bodyPost_ret (results_cell_tmp rfl _ _ p6 73 _ (0, 0) _ rfl (setRow_heap _ p6 _ _ _ _ B6) Tryz.underlying73 rfl (by kernel_rfl)) rfl ?_
    exact HP.out _ _ ⟨_, false, rfl, HF.out, HE.out⟩
end Go.Proofs.YthbodpjkckminaaGreatDoor

namespace Go.Proofs.YthbodpjkckminaaGreatDoor
open Go.RowKit Go.Sort

def inB (q : Int) (b : Bk) : Bool := decide (b.lo ≤ q) && decide (q < b.hi)
def FaR (ps : List Bk) (E : List En) (q : Int) (e : En) (r : Int) : Prop := (r = 0 ∧ ∃ j : Nat, j < ps.length ∧ inB q (gBk ps j) = true ∧ (∀ t, t < j → inB q (gBk ps t) = false) ∧ e = gEn E j) ∨ (r = 26 ∧ e = ⟨0, 0, 0, 0, ⟨#[]⟩⟩ ∧ ∀ t, t < ps.length → inB q (gBk ps t) = false)
def FaPost (w : World) (ps : List Bk) (E : List En) (q : Int) (r : Ending) (w' : World) : Prop := ∃ e c, r = .returned (.tuple #[enV e, .int .i64 c]) ∧ FaR ps E q e c ∧ Below w.heap.size w w'
theorem Sl.pl {w : World} {A : Option Addr} {n : Nat} {bs : List Bk} (h : Sl w 5 plC A n bs) {k : Nat} (hk : k < n) :
    ∃ ad, A = some ad ∧ ad.block < w.heap.size ∧ w.cell? (ad.add (k * 5)) = some (.int .i64 0) ∧ w.cell? ⟨(ad.add (k * 5)).block, (ad.add (k * 5)).off + 1, none⟩ = some (.int .i64 (gBk bs k).kind) ∧ w.cell? ⟨(ad.add (k * 5)).block, (ad.add (k * 5)).off + 2, none⟩ = some (.int .i64 (gBk bs k).lo) ∧ w.cell? ⟨(ad.add (k * 5)).block, (ad.add (k * 5)).off + 3, none⟩ = some (.int .i64 (gBk bs k).hi)
      ∧ w.cell? ⟨(ad.add (k * 5)).block, (ad.add (k * 5)).off + 4, none⟩ = some (.bool (gBk bs k).mark) := by
  obtain ⟨ad, e, hl, h0, hj⟩ := h.fld bkZ hk
  exact ⟨ad, e, hl, h0 _ rfl, hj 1 _ (by omega) rfl, hj 2 _ (by omega) rfl, hj 3 _ (by omega) rfl, hj 4 _ (by omega) rfl⟩
theorem runL_lens (es : List LsE) (vs : List (List Lv)) (ys : List Fi) (l : List Nat) : (runL es vs ys l).ps.length = (runL es vs ys l).es.length := by
  unfold runL
  have h : ∀ (l : List Nat) (st : Rs), st.ps.length = st.es.length → (l.foldl (stepR es vs ys) st).ps.length = (l.foldl (stepR es vs ys) st).es.length := by
    intro l
    induction l with
    | nil => intro st h; exact h
    | cons k r ih =>
      intro st h
      rw [List.foldl_cons]
      apply ih
      unfold stepR
      split
      · exact h
      · simp [h]
  exact h l rsZ rfl
theorem boxes_at (w : World) (D E P : Array Value) : Blk (((w.alloc (.cells D 63)).alloc (.cells P 71)).alloc (.cells E 73)) w.heap.size 63 D
    ∧ Blk (((w.alloc (.cells D 63)).alloc (.cells P 71)).alloc (.cells E 73)) (w.heap.size + 1) 71 P
    ∧ Blk (((w.alloc (.cells D 63)).alloc (.cells P 71)).alloc (.cells E 73)) (w.heap.size + 1 + 1) 73 E
    ∧ Below w.heap.size w (((w.alloc (.cells D 63)).alloc (.cells P 71)).alloc (.cells E 73)) := by
  have B2 := ((Blk.new w 63 D).alloc (.cells P 71)).alloc (.cells E 73)
  have B3 := (Blk.new (w.alloc (.cells D 63)) 71 P).alloc (.cells E 73)
  have B4 := Blk.new ((w.alloc (.cells D 63)).alloc (.cells P 71)) 73 E
  simp only [World.size_alloc] at B3 B4
  exact ⟨B2, B3, B4, (((alloc1 w _).alloc (by simp) _).alloc (by simp; omega) _)⟩
set_option maxRecDepth 100000 in
set_option maxHeartbeats 8000000 in
theorem nat_any (A : Option Addr) (m c : Nat) (LA : Option Addr) (ln lc : Nat) (xs : List It) (ys : List Fi) (es : List LsE) (vs : List (List Lv)) (k q : Nat) (w : World) (hg : Gl w) (hD : DocR w A m xs ys LA ln es vs) (hk : k < m) (hk2 : (gFi ys k).kind = 2) (hq : frK ys k = q) (hE : (runL es vs ys (pmL ys m)).es.length ≤ 1000000) :
    Calls Tryz.prog 23 #[.agg (docL A m c LA ln lc).toArray, .agg #[.int .i64 0, .int .i64 (q : Nat)]] w (FaPost w (runL es vs ys (pmL ys m)).ps (runL es vs ys (pmL ys m)).es (q : Nat)) := by
  have cP := Lib.hid (fun W (hb : Below w.heap.size w W) => ppara_any A m c LA ln lc xs ys k W (hD.below hb).fl hD.dy hk hk2 (hD.pr k hk hk2))
  rw [hq] at cP
  have cR := Lib.hid (fun W (hb : Below w.heap.size w W) => run_any A m c LA ln lc xs ys es vs W (hg.below hb) (hD.below hb))
  have hpe := runL_lens es vs ys (pmL ys m)
  have HX := Lib.hid (boxes_at w #[.slice A m c, .slice none 0 0, .int .i64 0, .int .i64 0, .slice none 0 0, .slice none 0 0, .slice none 0 0, .slice none 0 0, .slice LA ln lc, .slice none 0 0, .slice none 0 0] #[.int .i64 0, .int .i64 0, .int .i64 0, .int .i64 0, .int .i64 0, .string ⟨#[]⟩] #[.int .i64 0, .int .i64 (q : Nat)])
  rw [show (docL A m c LA ln lc).toArray = #[.slice A m c, .slice none 0 0, .int .i64 0, .int .i64 0, .slice none 0 0, .slice none 0 0, .slice none 0 0, .slice none 0 0, .slice LA ln lc, .slice none 0 0, .slice none 0 0] from rfl] at *
  generalize runL es vs ys (pmL ys m) = st at *
  obtain ⟨sf, ps, E⟩ := st
  simp only at hE hpe ⊢
  unfold RunPost at cR
  unfold SpPost at cP
  simp only at cR
  have HP := Lib.hid (show ∀ r w', (∃ e c, r = .returned (.tuple #[enV e, .int .i64 c]) ∧ FaR ps E (q : Nat) e c ∧ Below w.heap.size w w') → FaPost w ps E (q : Nat) r w' from fun _ _ h => h)
  have HPE := Lib.hid hpe
  have hps : ps.length ≤ 1000000 := by omega
  clear hg hD hk hk2 hq hpe
  go_enter Tryz.func23, Tryz.ntmps23
  go_upto_region 0 with fail
  go_cut [2, 3, 4, 5] (fun v2 v3 v4 v5 wx => ∃ p2 p3 p4, v2 = .pointer (some ⟨p2, 0, none⟩) ∧ v3 = .pointer (some ⟨p3, 0, none⟩) ∧ v4 = .pointer (some ⟨p4, 0, none⟩) ∧ v5 = .int .i64 0 ∧ Blk wx p2 63 #[.slice A m c, .slice none 0 0, .int .i64 0, .int .i64 0, .slice none 0 0, .slice none 0 0, .slice none 0 0, .slice none 0 0, .slice LA ln lc, .slice none 0 0, .slice none 0 0] ∧ Blk wx p3 71 #[.int .i64 0, .int .i64 (q : Nat)] ∧ Blk wx p4 73 #[.int .i64 0, .int .i64 0, .int .i64 0, .int .i64 0, .int .i64 0, .string ⟨#[]⟩] ∧ w.heap.size ≤ p4 ∧ Below w.heap.size w wx)
  case first =>
    clear cP cR HP
    go_wp2_with fail
    go_meet
    case rel => exact ⟨_, _, _, rfl, rfl, rfl, rfl, HX.out.1, HX.out.2.1, HX.out.2.2.1, by omega, HX.out.2.2.2⟩
  case rest =>
  obtain ⟨p2, p3, p4, rfl, rfl, rfl, rfl, B2, B3, B4, hp4, hbw⟩ := hcut
  clear HX
  generalize wc = w1 at *
  have q0 := B2.cell 0 rfl
  have q1 := B2.cell 1 rfl
  have q2 := B2.cell 2 rfl
  have q3 := B2.cell 3 rfl
  have q4 := B2.cell 4 rfl
  have q5 := B2.cell 5 rfl
  have q6 := B2.cell 6 rfl
  have q7 := B2.cell 7 rfl
  have q8 := B2.cell 8 rfl
  have q9 := B2.cell 9 rfl
  have q10 := B2.cell 10 rfl
  have k0 := B3.cell 0 rfl
  have k1 := B3.cell 1 rfl
  have cP := cP.out w1 hbw
  go_upto_region 4 with (go_at_call 49; refine cP.mono ?_; rintro e w2 ⟨A9, c9, rfl, _, hb2⟩)
  have B2 := B2.below hb2
  have B3 := B3.below hb2
  have B4 := B4.below hb2
  have hbw := below_trans' hbw hbw.size hb2
  clear q0 q1 q2 q3 q4 q5 q6 q7 q8 q9 q10 k0 k1 cP hb2
  have q0 := B2.cell 0 rfl
  have q1 := B2.cell 1 rfl
  have q2 := B2.cell 2 rfl
  have q3 := B2.cell 3 rfl
  have q4 := B2.cell 4 rfl
  have q5 := B2.cell 5 rfl
  have q6 := B2.cell 6 rfl
  have q7 := B2.cell 7 rfl
  have q8 := B2.cell 8 rfl
  have q9 := B2.cell 9 rfl
  have q10 := B2.cell 10 rfl
  have cR := cR.out w2 hbw
  go_upto_region 5 with (go_at_call 46; refine cR.mono ?_; rintro e w3 ⟨b, AP, cp, AE, ce, rfl, op, oe, hb3⟩)
  have hal := alloc1 w3 (.cells #[.map (some b), .slice AP ps.length cp, .slice AE E.length ce] 118)
  have B8 := Blk.new w3 118 #[.map (some b), .slice AP ps.length cp, .slice AE E.length ce]
  have hb4 := below_trans' hb3 hb3.size hal
  have B3 := B3.below hb4
  have B4 := B4.below hb4
  have S1 := (op.sl plC_len).below hal
  have S2 := (oe.sl enC_len).below hal
  have hbw := below_trans' hbw hbw.size hb4
  clear q0 q1 q2 q3 q4 q5 q6 q7 q8 q9 q10 cR op oe hb3 hb4 hal B2
  generalize w3.alloc (.cells #[.map (some b), .slice AP ps.length cp, .slice AE E.length ce] 118) = w4 at *
  generalize w3.heap.size = p8 at *
  have m1 := B8.cell 1 rfl
  go_wp2_with fail
  go_loopw [26] (fun vi wr => ∃ i : Nat, vi = .int .i64 i ∧ i ≤ ps.length ∧ Below w4.heap.size w4 wr ∧ ∀ t, t < i → inB (q : Nat) (gBk ps t) = false) (fun vi _ => ps.length - (intOf vi).toNat)
  case atStart => exact ⟨0, rfl, Nat.zero_le _, Below.refl _ _, fun t ht => absurd ht (Nat.not_lt_zero _)⟩
  case round =>
    obtain ⟨i, rfl, hi, hb, hz⟩ := hrel
    have HZ := Lib.hid hz
    clear hz m1
    by_cases hlt : i < ps.length
    · obtain ⟨ad, eA, hl2, f0, f1, f2, f3, f4⟩ := (S1.below hb).pl hlt
      subst eA
      have hlt' : (i : Int) < ps.length := by omega
      have HBI := Lib.hid (show inB (q : Nat) (gBk ps i) = (decide ((gBk ps i).lo ≤ (q : Nat)) && decide (((q : Nat) : Int) < (gBk ps i).hi)) from rfl)
      generalize (gBk ps i).kind = bk at *
      generalize (gBk ps i).mark = bm at *
      generalize hlo : (gBk ps i).lo = lo at *
      generalize hhi : (gBk ps i).hi = hi2 at *
      clear hlo hhi
      go_upto_region 8 with fail
      have N10 := Blk.new wr 128 #[.int .i64 0, .int .i64 bk, .int .i64 lo, .int .i64 hi2, .bool bm]
      have hal := alloc1 wr (.cells #[.int .i64 0, .int .i64 bk, .int .i64 lo, .int .i64 hi2, .bool bm] 128)
      have hb5 := below_trans' hb hb.size hal
      clear f0 f1 f2 f3 f4 hal hb
      generalize wr.alloc (.cells #[.int .i64 0, .int .i64 bk, .int .i64 lo, .int .i64 hi2, .bool bm] 128) = w5 at *
      generalize wr.heap.size = p10 at *
      have n0 := N10.cell 0 rfl
      have n2 := N10.cell 2 rfl
      have n3 := N10.cell 3 rfl
      have B3' := B3.below hb5
      have k0 := B3'.cell 0 rfl
      have k1 := B3'.cell 1 rfl
      by_cases h1 : lo ≤ ((q : Nat) : Int)
      · by_cases h2 : ((q : Nat) : Int) < hi2
        · have HT := Lib.hid (show inB (q : Nat) (gBk ps i) = true by rw [HBI.out, decide_eq_true h1, decide_eq_true h2]; rfl)
          have hiE : i < E.length := by rw [← HPE.out]; exact hlt
          have hiE' : (i : Int) < E.length := by omega
          obtain ⟨ad2, eE, hl3, g0, g1, g2, g3, g4, g5⟩ := (S2.below hb5).en hiE
          subst eE
          have HF := Lib.hid (show FaR ps E (q : Nat) (gEn E i) 0 from .inl ⟨rfl, i, hlt, HT.out, HZ.out, rfl⟩)
          obtain ⟨en, hen⟩ : ∃ en, gEn E i = en := ⟨_, rfl⟩
          rw [hen] at HF g1 g2 g3 g4 g5
          obtain ⟨v1, v2, v3, v4, v5⟩ := en
          simp only at g1 g2 g3 g4 g5
          have m2 := (B8.below hb5).cell 2 rfl
          have B4' := B4.below hb5
          have HE := Lib.hid (below_setRow (below_trans' hbw hbw.size hb5) hp4 #[.int .i64 0, .int .i64 v1, .int .i64 v2, .int .i64 v3, .int .i64 v4, .string v5])
          unfold Blk at B4'
          clear hen HBI hb5 hbw B3 B4 B8 B3' S1 S2 N10
          go_wp2_with (refine wpList_store_row rfl 73 _ _ rfl p4 #[.int .i64 0, .int .i64 v1, .int .i64 v2, .int .i64 v3, .int .i64 v4, .string v5] rfl rfl 73 _ B4' (by kernel_rfl) rfl (by simp [Value.oneCell']) ?_)
          refine bodyPost_ret (results_cell_tmp rfl _ _ p4 73 _ (0, 0) _ rfl (setRow_heap _ p4 _ _ _ _ B4') Tryz.underlying73 rfl (by kernel_rfl)) rfl ?_
          exact HP.out _ _ ⟨_, 0, rfl, HF.out, HE.out⟩
        · have HT := Lib.hid (show inB (q : Nat) (gBk ps i) = false by rw [HBI.out, decide_eq_false h2, Bool.and_false])
          clear HBI N10 B3'
          go_wp2_with fail
          go_roundw
          case rel => exact ⟨i + 1, by simp, hlt, hb5, fun t ht => by
            rcases (show t < i ∨ t = i by omega) with h | h
            · exact HZ.out t h
            · rw [h]; exact HT.out⟩
          case measure => rw [intOf, intOf]; omega
      · have HT := Lib.hid (show inB (q : Nat) (gBk ps i) = false by rw [HBI.out, decide_eq_false h1, Bool.false_and])
        clear HBI N10 B3'
        go_wp2_with fail
        go_roundw
        case rel => exact ⟨i + 1, by simp, hlt, hb5, fun t ht => by
          rcases (show t < i ∨ t = i by omega) with h | h
          · exact HZ.out t h
          · rw [h]; exact HT.out⟩
        case measure => rw [intOf, intOf]; omega
    · have hil : i = ps.length := by omega
      have hni : ¬ (i : Int) < ps.length := by omega
      have HF := Lib.hid (show FaR ps E (q : Nat) ⟨0, 0, 0, 0, ⟨#[]⟩⟩ 26 from .inr ⟨rfl, rfl, fun t ht => HZ.out t (by omega)⟩)
      have B4' := B4.below hb
      have HE := Lib.hid (below_setRow (below_trans' hbw hbw.size hb) hp4 #[.int .i64 0, .int .i64 0, .int .i64 0, .int .i64 0, .int .i64 0, .string ⟨#[]⟩])
      unfold Blk at B4'
      clear hil hb hbw B3 B4 B8 S1 S2 hlt
      go_wp2_with (refine wpList_store_row rfl 73 _ _ rfl p4 #[.int .i64 0, .int .i64 0, .int .i64 0, .int .i64 0, .int .i64 0, .string ⟨#[]⟩] rfl rfl 73 _ B4' (by kernel_rfl) rfl (by simp [Value.oneCell']) ?_)
      refine bodyPost_ret (results_cell_tmp rfl _ _ p4 73 _ (0, 0) _ rfl (setRow_heap _ p4 _ _ _ _ B4') Tryz.underlying73 rfl (by kernel_rfl)) rfl ?_
      exact HP.out _ _ ⟨_, 26, rfl, HF.out, HE.out⟩
end Go.Proofs.YthbodpjkckminaaGreatDoor

namespace Go.Proofs.YthbodpjkckminaaGreatDoor
open Go.RowKit

theorem frK_all {ys : List Fi} {n : Nat} (h : ∀ k, k < n → (gFi ys k).kind = 2) : ∀ k, k ≤ n → frK ys k = k
  | 0, _ => rfl
  | k + 1, hk => by rw [frK, if_pos (h k (by omega))]
def nzP (es : List LsE) (ys : List Fi) (k : Nat) : Bool := !(pid es ys k == 0)
theorem fold_at (es : List LsE) (vs : List (List Lv)) (ys : List Fi) : ∀ (r : List Nat) (st : Rs),
    (r.foldl (stepR es vs ys) st).ps = st.ps ++ (r.filter (nzP es ys)).map (bkK ys) ∧ (r.foldl (stepR es vs ys) st).es.map (fun e => (e.at_, e.list)) = st.es.map (fun e => (e.at_, e.list)) ++ (r.filter (nzP es ys)).map (fun k => (((frK ys k : Nat) : Int), pid es ys k))
  | [], st => by simp
  | k :: r, st => by
    obtain ⟨h1, h2⟩ := fold_at es vs ys r (stepR es vs ys st k)
    rw [List.foldl_cons, h1, h2]
    by_cases h : pid es ys k = 0
    · rw [stepR_no h, List.filter_cons_of_neg (by unfold nzP; rw [h]; decide)]; exact ⟨rfl, rfl⟩
    · rw [stepR_yes h, List.filter_cons_of_pos (by unfold nzP; simpa using h)]
      constructor
      · simp
      · simp [enK]
theorem nz_inc (p : Nat → Bool) (m : Nat) {a b : Nat} (hab : a < b) (hb : b < ((List.range m).filter p).length) : ((List.range m).filter p).getD a 0 < ((List.range m).filter p).getD b 0 := by
  have hp : List.Pairwise (· < ·) ((List.range m).filter p) := List.Pairwise.filter p List.pairwise_lt_range
  have := (List.pairwise_iff_getElem.1 hp) a b (by omega) hb hab
  rw [List.getD_eq_getElem?_getD, List.getElem?_eq_getElem (by omega), List.getD_eq_getElem?_getD, List.getElem?_eq_getElem hb]
  exact this
def cnI (p : Nat → Bool) (i : Nat) : Nat := (List.range i).countP p
theorem cnI_succ (p : Nat → Bool) (i : Nat) : cnI p (i + 1) = cnI p i + if p i = true then 1 else 0 := by
  unfold cnI
  rw [List.range_succ, List.countP_append]
  cases h : p i
  · rw [List.countP_cons_of_neg (by rw [h]; decide)]; rfl
  · rw [List.countP_cons_of_pos h]; rfl
theorem cnI_all (p : Nat → Bool) (m : Nat) : cnI p m = ((List.range m).filter p).length := by unfold cnI; rw [List.countP_eq_length_filter]
theorem cnI_at (p : Nat → Bool) (m : Nat) {i : Nat} (hi : i < m) (hp : p i = true) : cnI p i < ((List.range m).filter p).length ∧ ((List.range m).filter p).getD (cnI p i) 0 = i := by
  have e : (List.range m).getD i 0 = i := by rw [List.getD_eq_getElem?_getD, List.getElem?_range hi]; rfl
  obtain ⟨a, b⟩ := filter_at p 0 (List.range m) i (by simpa using hi) (by rw [e]; exact hp)
  have ht : (List.range m).take i = List.range i := by rw [List.take_range, Nat.min_eq_left (by omega)]
  rw [ht] at a b
  exact ⟨a, by rw [e] at b; exact b⟩
theorem nz_mem (p : Nat → Bool) (m : Nat) {t : Nat} (ht : t < ((List.range m).filter p).length) : p (((List.range m).filter p).getD t 0) = true := by
  rw [List.getD_eq_getElem?_getD, List.getElem?_eq_getElem ht]
  exact (List.mem_filter.1 (List.getElem_mem ht)).2
/-- what the law asks of the places and entries. -/
structure LsR (p : Nat → Bool) (m : Nat) (ps : List Bk) (E : List En) : Prop where
  lp : ps.length = ((List.range m).filter p).length
  le : E.length = ((List.range m).filter p).length
  bk : ∀ t, t < ((List.range m).filter p).length → gBk ps t = ⟨1, (((List.range m).filter p).getD t 0 : Nat), ((((List.range m).filter p).getD t 0 : Nat) : Int) + 1, true⟩
  at_ : ∀ t, t < ((List.range m).filter p).length → (gEn E t).at_ = (((List.range m).filter p).getD t 0 : Nat)
  li : ∀ t, t < ((List.range m).filter p).length → (gEn E t).list = 1 ∨ (gEn E t).list = 2
section
variable {p : Nat → Bool} {m : Nat} {ps : List Bk} {E : List En}
theorem LsR.inb (h : LsR p m ps E) {t q : Nat} (ht : t < ps.length) : inB (q : Nat) (gBk ps t) = decide (((List.range m).filter p).getD t 0 = q) := by
  rw [h.bk t (by rw [← h.lp]; exact ht)]
  unfold inB
  simp only
  by_cases e : ((List.range m).filter p).getD t 0 = q
  · rw [decide_eq_true e, decide_eq_true (by omega), decide_eq_true (by omega)]; rfl
  · rw [decide_eq_false e]
    by_cases h1 : ((((List.range m).filter p).getD t 0 : Nat) : Int) ≤ (q : Nat)
    · rw [decide_eq_true h1, decide_eq_false (by omega)]; rfl
    · rw [decide_eq_false h1]; rfl
theorem LsR.no (h : LsR p m ps E) {i : Nat} (hp : p i = false) {e : En} {c : Int} (hf : FaR ps E (i : Nat) e c) : c = 26 ∧ e = ⟨0, 0, 0, 0, ⟨#[]⟩⟩ := by
  rcases hf with ⟨_, j, hj, hin, _⟩ | ⟨h1, h2, _⟩
  · rw [h.inb hj] at hin
    have e := of_decide_eq_true hin
    have := nz_mem p m (by rw [← h.lp]; exact hj)
    rw [e, hp] at this
    cases this
  · exact ⟨h1, h2⟩
theorem LsR.yes (h : LsR p m ps E) {i : Nat} (hi : i < m) (hp : p i = true) {e : En} {c : Int} (hf : FaR ps E (i : Nat) e c) : c = 0 ∧ e = gEn E (cnI p i) ∧ cnI p i < E.length := by
  obtain ⟨a, b⟩ := cnI_at p m hi hp
  rcases hf with ⟨h1, j, hj, hin, _, h4⟩ | ⟨_, _, h3⟩
  · rw [h.inb hj] at hin
    have e := of_decide_eq_true hin
    have hjj : j = cnI p i := by
      rcases Nat.lt_trichotomy j (cnI p i) with h5 | h5 | h5
      · have := nz_inc p m h5 a; omega
      · exact h5
      · have := nz_inc p m h5 (by rw [← h.lp]; exact hj); omega
    exact ⟨h1, by rw [h4, hjj], by rw [h.le]; exact a⟩
  · have := h3 (cnI p i) (by rw [h.lp]; exact a)
    rw [h.inb (by rw [h.lp]; exact a), decide_eq_true b] at this
    cases this
theorem lab_eq {a b : ByteArray} (h : (a.toList == b.toList) = true) : a = b := by
  have h1 : a.toList = b.toList := by simpa using h
  rw [ByteArray.toList_eq, ByteArray.toList_eq] at h1
  cases a with | mk x =>
  cases b with | mk y =>
  congr 1
  exact Array.toList_inj.1 h1
theorem LsR.find (h : LsR p m ps E) {k : Nat} (hk : k < E.length) {f : En} {ok : Bool} (hf : FnR E (gEn E k).list (gEn E k).lab f ok) : ok = true ∧ f.list = (gEn E k).list ∧ f.lab = (gEn E k).lab ∧ f.at_ ≤ (gEn E k).at_ := by
  have hself : pfE (gEn E k).list (gEn E k).lab (gEn E k) = true := by unfold pfE; simp
  rcases hf with ⟨h1, i, hi, h2, h3, h4⟩ | ⟨_, h2⟩
  · have hik : i ≤ k := by
      rcases Nat.lt_or_ge k i with h5 | h5
      · have := h3 k h5; rw [hself] at this; cases this
      · exact h5
    unfold pfE at h2
    rw [Bool.and_eq_true] at h2
    rw [h4]
    refine ⟨h1, by simpa using h2.1, lab_eq h2.2, ?_⟩
    rw [h.at_ i (by rw [← h.le]; exact hi), h.at_ k (by rw [← h.le]; exact hk)]
    rcases Nat.lt_or_ge i k with h5 | h5
    · have := nz_inc p m h5 (by rw [← h.le]; exact hk); omega
    · have : i = k := by omega
      rw [this]; exact Int.le_refl _
  · have := h2 k hk; rw [hself] at this; cases this
theorem LsR.none (h : LsR p m ps E) {lb : ByteArray} {f : En} {ok : Bool} (hf : FnR E 3 lb f ok) : ok = false := by
  rcases hf with ⟨_, i, hi, h2, _⟩ | ⟨h1, _⟩
  · unfold pfE at h2
    rw [Bool.and_eq_true] at h2
    have e : (gEn E i).list = 3 := by simpa using h2.1
    rcases h.li i (by rw [← h.le]; exact hi) with h3 | h3 <;> rw [h3] at e <;> cases e
  · exact h1
theorem LsR.end_ (h : LsR p m ps E) : cnI p m = E.length := by rw [cnI_all, h.le]
end
def liP (l : List Im) (k : Nat) : Bool := liB (gIm l k)
theorem bt_lsr (Aa : Option Addr) (na ca : Nat) (Ab : Option Addr) (nb cb : Nat) (vs : List (List Lv)) (l : List Im) : LsR (liP l) (ysB l).length (runL (esT Aa na ca Ab nb cb) vs (ysB l) (pmL (ysB l) (ysB l).length)).ps (runL (esT Aa na ca Ab nb cb) vs (ysB l) (pmL (ysB l) (ysB l).length)).es := by
  have hk := ysB_kind l
  have hfr := frK_all hk
  have hpid : ∀ k, k < (ysB l).length → pid (esT Aa na ca Ab nb cb) (ysB l) k = idI (gIm l k) := fun k h => by
    unfold pid
    rw [ysB_at l h, show (imF (gIm l k)).ps = imP (gIm l k) from rfl, of1T]
  have hfil : (List.range (ysB l).length).filter (nzP (esT Aa na ca Ab nb cb) (ysB l)) = (List.range (ysB l).length).filter (liP l) := List.filter_congr (fun k hm => by
    unfold nzP liP
    rw [hpid k (List.mem_range.1 hm)]
    unfold idI
    cases hl : liB (gIm l k)
    · rfl
    · have ha : 0 ≤ (gIm l k).li % 3 := by omega
      rw [if_pos rfl, beq_eq_false_iff_ne.2 (by omega)]; rfl)
  obtain ⟨h1, h2⟩ := fold_at (esT Aa na ca Ab nb cb) vs (ysB l) (List.range (ysB l).length) rsZ
  rw [pmL_all hk]
  unfold runL
  rw [hfil] at h1 h2
  have h1' : ((List.range (ysB l).length).foldl (stepR (esT Aa na ca Ab nb cb) vs (ysB l)) rsZ).ps = ((List.range (ysB l).length).filter (liP l)).map (bkK (ysB l)) := by rw [h1]; rfl
  have h2' : ((List.range (ysB l).length).foldl (stepR (esT Aa na ca Ab nb cb) vs (ysB l)) rsZ).es.map (fun e => (e.at_, e.list)) = ((List.range (ysB l).length).filter (liP l)).map (fun k => (((frK (ysB l) k : Nat) : Int), pid (esT Aa na ca Ab nb cb) (ysB l) k)) := by rw [h2]; rfl
  generalize ((List.range (ysB l).length).foldl (stepR (esT Aa na ca Ab nb cb) vs (ysB l)) rsZ) = st at *
  have hle : st.es.length = ((List.range (ysB l).length).filter (liP l)).length := by have := congrArg List.length h2'; simpa using this
  have hlt : ∀ t, t < ((List.range (ysB l).length).filter (liP l)).length → ((List.range (ysB l).length).filter (liP l)).getD t 0 < (ysB l).length := fun t ht => by
    rw [List.getD_eq_getElem?_getD, List.getElem?_eq_getElem ht]
    exact List.mem_range.1 (List.mem_filter.1 (List.getElem_mem ht)).1
  have hes : ∀ t, t < ((List.range (ysB l).length).filter (liP l)).length → ((gEn st.es t).at_, (gEn st.es t).list) = (((frK (ysB l) (((List.range (ysB l).length).filter (liP l)).getD t 0) : Nat) : Int), pid (esT Aa na ca Ab nb cb) (ysB l) (((List.range (ysB l).length).filter (liP l)).getD t 0)) := fun t ht => by
    have h3 := congrArg (fun z => z[t]?) h2'
    simp only [List.getElem?_map, List.getElem?_eq_getElem ht, List.getElem?_eq_getElem (show t < st.es.length by rw [hle]; exact ht), Option.map_some, Option.some.injEq] at h3
    rw [gEn_at (by rw [hle]; exact ht), List.getD_eq_getElem?_getD, List.getElem?_eq_getElem ht]
    exact h3
  refine ⟨by rw [h1', List.length_map], hle, fun t ht => ?_, fun t ht => ?_, fun t ht => ?_⟩
  · unfold gBk
    rw [h1', List.getD_eq_getElem?_getD, List.getElem?_map, List.getElem?_eq_getElem ht]
    have h4 := hlt t ht
    have e5 : ((List.range (ysB l).length).filter (liP l)).getD t 0 = ((List.range (ysB l).length).filter (liP l))[t] := by rw [List.getD_eq_getElem?_getD, List.getElem?_eq_getElem ht]; rfl
    rw [e5] at h4 ⊢
    have h6 := hfr _ (Nat.le_of_lt h4)
    show bkK (ysB l) ((List.range (ysB l).length).filter (liP l))[t] = _
    unfold bkK
    rw [h6]
  · have h6 : (gEn st.es t).at_ = _ := congrArg Prod.fst (hes t ht)
    rw [h6, hfr _ (Nat.le_of_lt (hlt t ht))]
  · have h6 : (gEn st.es t).list = _ := congrArg Prod.snd (hes t ht)
    rw [h6, hpid _ (hlt t ht)]
    have hm : liB (gIm l (((List.range (ysB l).length).filter (liP l)).getD t 0)) = true := nz_mem (liP l) (ysB l).length ht
    rcases idI_or (gIm l (((List.range (ysB l).length).filter (liP l)).getD t 0)) with h5 | h5 | h5
    · exfalso
      unfold idI at h5
      rw [hm, if_pos rfl] at h5
      omega
    · exact .inl h5
    · exact .inr h5
end Go.Proofs.YthbodpjkckminaaGreatDoor
