/- The law's effect. -/
import Derived.Test.YtjpbmeonkfkgdaaG5
namespace Go.Proofs.Ytjpbmeonkfkgdaa
open Go.RowKit

theorem effL_len (E : Eff) : (effL E).length = 36 := rfl
theorem effL_one (E : Eff) : ∀ v ∈ effL E, v.oneCell' = true := by intro v hv; simp [effL] at hv; rcases hv with rfl | rfl | rfl | rfl | rfl | rfl | rfl | rfl | rfl | rfl | rfl | rfl | rfl | rfl | rfl | rfl | rfl | rfl | rfl | rfl | rfl | rfl | rfl | rfl | rfl | rfl | rfl | rfl | rfl | rfl | rfl | rfl | rfl | rfl | rfl | rfl <;> rfl
theorem effA_L (E : Eff) : effA E = (effL E).toArray := rfl
theorem size33 : (Try.prog.info? 33).map (·.size) = some 36 := by kernel_rfl
theorem Blk.setCells_ {g : Nat} {t : TypeId} : ∀ (vs pre old : List Value) (w : World), Blk w g t (pre ++ old).toArray → old.length = vs.length → Blk (w.setCells g pre.length vs) g t (pre ++ vs).toArray
  | [], pre, [], w, h, _ => h
  | [], _, _ :: _, _, _, hl => by simp at hl
  | _ :: _, _, [], _, _, hl => by simp at hl
  | v :: r, pre, u :: old, w, h, hl => by
    have h1 := h.set_ pre.length v
    have e : (pre ++ u :: old).toArray.setIfInBounds pre.length v = ((pre ++ [v]) ++ old).toArray := by simp
    rw [e] at h1
    have := Blk.setCells_ r (pre ++ [v]) old _ h1 (by simpa using hl)
    rw [List.length_append, List.append_assoc] at this
    exact this
theorem Blk.there_ {w : World} {g : Nat} {t : TypeId} {E : Eff} (h : Blk w g t (effA E)) : w.there g 0 36 := fun j hj => by
  rw [Nat.zero_add]
  refine ⟨?_, h.frozen j⟩
  have e : (effA E)[j]? = some ((effA E)[j]'(by rw [effA_size]; exact hj)) := Array.getElem?_eq_getElem _
  rw [h.cell j e]
  rfl
theorem cell_setCells {w : World} {g : Nat} {vs : List Value} {a : Addr} {v : Value} (h : w.cell? a = some v) (hn : a.block ≠ g) : (w.setCells g 0 vs).cell? a = some v := (World.cell?_setCells_out g vs 0 w a (fun e => absurd e hn)).trans h
theorem only_setCells (g : Nat) : ∀ (vs : List Value) (o : Nat) (w : World), w.grownBy (w.setCells g o vs) (some g)
  | [], _, w => ⟨rfl, rfl, rfl, Nat.le_refl _, fun _ _ _ => rfl⟩
  | v :: r, o, w => by
    have h1 := gset w g o v
    have h2 := only_setCells g r (o + 1) (w.setCell ⟨g, o, none⟩ v)
    exact ⟨h2.os.trans h1.os, h2.tape.trans h1.tape, h2.output.trans h1.output, Nat.le_trans h1.size h2.size, fun k hk hn => (h2.block k (Nat.lt_of_lt_of_le hk h1.size) hn).trans (h1.block k hk hn)⟩
theorem EW.below {w w' : World} {B p6 p7 : Nat} {Z : Eff} (h : EW w B p6 p7 Z) (hb : Below w.heap.size w w') : EW w' B p6 p7 Z := ⟨h.b6.below hb, h.b7.below hb, h.n6, h.m6, h.m7⟩
theorem EW.row {w : World} {B p6 p7 : Nat} {Z : Eff} (h : EW w B p6 p7 Z) (Z' : Eff) : EW (w.setRow p7 (effA Z')) B p6 p7 Z' :=
  ⟨(setRow_other w p7 p6 _ (Ne.symm h.n6)).trans h.b6, setRow_heap w p7 _ _ _ _ h.b7, h.n6, h.m6, h.m7⟩
theorem EW.setC {w : World} {B p6 p7 g : Nat} {Z : Eff} {vs : List Value} (h : EW w B p6 p7 Z) (h6 : g ≠ p6) (h7 : g ≠ p7) : EW (w.setCells g 0 vs) B p6 p7 Z :=
  ⟨h.b6.keep (only_setCells g vs 0 w) (fun e => h6 (by injection e)), h.b7.keep (only_setCells g vs 0 w) (fun e => h7 (by injection e)), h.n6, h.m6, h.m7⟩
theorem below_setC {B : Nat} {w0 w : World} (h : Below B w0 w) (hB : B ≤ w0.heap.size) {g : Nat} (hg : B ≤ g) (vs : List Value) : Below B w0 (w.setCells g 0 vs) := by
  have o := only_setCells g vs 0 w
  exact ⟨o.os.trans h.os, o.tape.trans h.tape, o.output.trans h.output, Nat.le_trans h.size o.size, fun k hk => by
    exact (o.block k (Nat.lt_of_lt_of_le (Nat.lt_of_lt_of_le hk hB) h.size) (fun e => by injection e with e; omega)).trans (h.block k hk)⟩
theorem Blk.eff_set {w : World} {g : Nat} {t : TypeId} (h : Blk w g t (effA effZ)) (X : Eff) {l : List Value} (e : l = effL X) : Blk (w.setCells g 0 l) g t (effA X) := by
  subst e
  exact Blk.setCells_ (effL X) [] (effL effZ) w h rfl
theorem below_drewl {w w' : World} {q : Nat} (h : Below (w.drewN q).heap.size (w.drewN q) w') : Below w.heap.size w w' := ⟨h.os, h.tape, h.output, h.size, h.block⟩
set_option maxHeartbeats 8000000 in
set_option maxRecDepth 100000 in
theorem lawEffect_any (A : Option Addr) (n c : Nat) (ls : List Lv) (AM : Option Addr) (m cm : Nat) (ms : List Mk) (w : World) (ha : Sl w 4 lvC A n ls) (hm : Sl w 3 mkC AM m ms) (hL : LvOk n ls) (hC : clE ls = 0) (hM : MkOk n ms) (hm1 : m ≤ 1000) :
    Calls Try.prog 9 #[.slice A n c, .slice AM m cm] w fun e w' => e = .returned (.tuple #[.agg (effA (foldE ls n ms)), .bool true]) ∧ Below w.heap.size w w' := by
  have hlen := ha.len
  have hlm := hm.len
  have hn := clE_len hC
  rw [hlen] at hn
  have T0 := EW.new w
  have hb0 := ((Below.refl w.heap.size w).alloc (Nat.le_refl _) (.cells (effA effZ) 33)).alloc (by simp) (.cells (effA effZ) 33)
  have HMK := Lib.hid hM
  have HLK := Lib.hid hL
  have HFK := Lib.hid (foldE_ok hL hM)
  have HCK := Lib.hid hC
  clear hM hL hC
  go_enter Try.func9, Try.ntmps9
  go_upto_region 1 with fail
  go_cut [4, 5, 6] (fun v4 v5 v6 wx => ∃ p4 p6, v4 = .pointer (some ⟨p4, 0, none⟩) ∧ v5 = .bool false ∧ v6 = .pointer (some ⟨p6, 0, none⟩) ∧ EW wx w.heap.size p4 p6 effZ ∧ Below w.heap.size w wx)
  case first =>
    go_wp2_with fail
    go_meet
    case rel => exact ⟨_, _, rfl, rfl, rfl, T0, hb0⟩
  case rest =>
  obtain ⟨p4, p6, rfl, rfl, rfl, T1, hb1⟩ := hcut
  clear T0 hb0
  go_wp2_with fail
  go_loopw [7] (fun vi wr => ∃ i : Nat, vi = .int .i64 i ∧ i ≤ m ∧ EW wr w.heap.size p4 p6 (foldE ls n (ms.take i)) ∧ Below w.heap.size w wr) (fun vi _ => m - (intOf vi).toNat)
  case atStart => exact ⟨0, rfl, Nat.zero_le _, T1, hb1⟩
  case round =>
    obtain ⟨i, rfl, hi, T2, hbw⟩ := hrel
    clear T1 hb1
    by_cases hlt : i < m
    · obtain ⟨ad, e, hl2, k0, k1, k2⟩ := (hm.below hbw).mk_ hlt
      subst e
      have HT := Lib.hid (foldE_take ls n ms (i := i) (by omega))
      have mo := HMK.out i (by omega)
      have fo := HFK.out i (by omega)
      have eo := effF_ok ls n ((gM ms i).level - 1).toNat mo.2.2.1 mo.2.2.2
      have hfx : effM ls n (gM ms i) = effF ls n ((gM ms i).level - 1).toNat (gM ms i).restart := rfl
      rw [← hfx] at eo
      have oE : ofE ls n (gM ms i).level (gM ms i).restart = 0 := by
        unfold ofE mkE
        rw [if_neg (by rw [HCK.out]; simp), if_neg (by omega), if_neg (by omega)]
      have oF : ofF ls n (gM ms i).level (gM ms i).restart = effM ls n (gM ms i) := by
        unfold ofF
        rw [if_pos oE, hfx]
      have hof := fun w1 ha1 => of_any A n c ls (gM ms i).level (gM ms i).restart w1 ha1
      rw [oE, oF] at hof
      have EO := Lib.hid eo
      have FO := Lib.hid fo
      clear eo fo oE oF hfx
      generalize effM ls n (gM ms i) = X at *
      generalize gM ms i = mk at *
      obtain ⟨mx, ml, mr⟩ := mk
      simp only at k0 k1 k2 hof mo
      obtain ⟨lX, hlX⟩ : ∃ l, l = effL X := ⟨_, rfl⟩
      rw [effA_L, ← hlX] at hof
      have hXl : lX.length = 36 := by rw [hlX]; rfl
      have hX1 : ∀ v ∈ lX, v.oneCell' = true := by rw [hlX]; exact effL_one X
      have HLX := Lib.hid hlX
      have hi36 := size33
      clear hlX
      go_upto_region 5 with fail
      have hsr := ha.below hbw
      have R0 := Below.refl wr.heap.size wr
      have NW := Blk.new wr 33 (effA effZ)
      have hbA := R0.alloc (Nat.le_refl _) (.cells (List.toArray (.bool false :: .bool false :: .int .i64 0 :: .int .i64 0 :: .bool false :: .bool false :: .int .i64 0 :: .int .i64 0 :: .bool false :: .bool false :: .int .i64 0 :: .int .i64 0 :: .bool false :: .bool false :: .int .i64 0 :: .int .i64 0 :: .bool false :: .bool false :: .int .i64 0 :: .int .i64 0 :: .bool false :: .bool false :: .int .i64 0 :: .int .i64 0 :: .bool false :: .bool false :: .int .i64 0 :: .int .i64 0 :: .bool false :: .bool false :: .int .i64 0 :: .int .i64 0 :: .bool false :: .bool false :: .int .i64 0 :: .int .i64 0 :: [])) 33)
      have hsA := hsr.below hbA
      have kl1 := World.block_lt_of_cell? _ _ k1
      have kl2 := World.block_lt_of_cell? _ _ k2
      have T2A := T2.below hbA
      go_region_held3 (fun w' => w'.cell? ⟨(ad.add (i * 3)).block, (ad.add (i * 3)).off + 1, none⟩ = some (.int .i64 ml) ∧ w'.cell? ⟨(ad.add (i * 3)).block, (ad.add (i * 3)).off + 2, none⟩ = some (.int .i64 mr))
        (first | (with_reducible exact ⟨s1, s2⟩) | go_keep)
        (first
          | (go_at_call 13; refine (hof (wr.drewN 1) (hsr.drewN 1)).mono ?_; rintro er w4 ⟨rfl, hb4⟩; have q1 := keep1 hb4 k1; have q2 := keep1 hb4 k2; have hbD := (Below.refl w4.heap.size w4).alloc (Nat.le_refl _) (.cells (List.toArray (.bool false :: .bool false :: .int .i64 0 :: .int .i64 0 :: .bool false :: .bool false :: .int .i64 0 :: .int .i64 0 :: .bool false :: .bool false :: .int .i64 0 :: .int .i64 0 :: .bool false :: .bool false :: .int .i64 0 :: .int .i64 0 :: .bool false :: .bool false :: .int .i64 0 :: .int .i64 0 :: .bool false :: .bool false :: .int .i64 0 :: .int .i64 0 :: .bool false :: .bool false :: .int .i64 0 :: .int .i64 0 :: .bool false :: .bool false :: .int .i64 0 :: .int .i64 0 :: .bool false :: .bool false :: .int .i64 0 :: .int .i64 0 :: [])) 33); have N8 : Blk (w4.alloc (.cells (List.toArray (.bool false :: .bool false :: .int .i64 0 :: .int .i64 0 :: .bool false :: .bool false :: .int .i64 0 :: .int .i64 0 :: .bool false :: .bool false :: .int .i64 0 :: .int .i64 0 :: .bool false :: .bool false :: .int .i64 0 :: .int .i64 0 :: .bool false :: .bool false :: .int .i64 0 :: .int .i64 0 :: .bool false :: .bool false :: .int .i64 0 :: .int .i64 0 :: .bool false :: .bool false :: .int .i64 0 :: .int .i64 0 :: .bool false :: .bool false :: .int .i64 0 :: .int .i64 0 :: .bool false :: .bool false :: .int .i64 0 :: .int .i64 0 :: [])) 33)) w4.heap.size 33 (effA effZ) := Blk.new w4 33 (effA effZ); have th := N8.there_; have g8 := hb4.size; have s1 := cell_setCells (g := w4.heap.size) (vs := lX) (keep1 hbD q1) (Nat.ne_of_lt (Nat.lt_of_lt_of_le kl1 g8)); have s2 := cell_setCells (g := w4.heap.size) (vs := lX) (keep1 hbD q2) (Nat.ne_of_lt (Nat.lt_of_lt_of_le kl2 g8)); have B8 := (N8.eff_set X HLX.out); have T4 := T2.below ((below_drewl hb4)); have T3 := (T4.below hbD).setC (vs := lX) (Nat.ne_of_gt T4.b6.lt) (Nat.ne_of_gt T4.b7.lt); have hbF := below_setC (below_trans' hbw hbw.size ((below_drewl hb4).trans (hbD.mono g8))) (Nat.le_refl _) (g := w4.heap.size) (Nat.le_trans hbw.size g8) lX)
          | (go_at_call 13; refine (hof ((wr.alloc (.cells (List.toArray (.bool false :: .bool false :: .int .i64 0 :: .int .i64 0 :: .bool false :: .bool false :: .int .i64 0 :: .int .i64 0 :: .bool false :: .bool false :: .int .i64 0 :: .int .i64 0 :: .bool false :: .bool false :: .int .i64 0 :: .int .i64 0 :: .bool false :: .bool false :: .int .i64 0 :: .int .i64 0 :: .bool false :: .bool false :: .int .i64 0 :: .int .i64 0 :: .bool false :: .bool false :: .int .i64 0 :: .int .i64 0 :: .bool false :: .bool false :: .int .i64 0 :: .int .i64 0 :: .bool false :: .bool false :: .int .i64 0 :: .int .i64 0 :: [])) 33)).drewN 1) (hsA.drewN 1)).mono ?_; rintro er w4 ⟨rfl, hb4⟩; have q1 := keep1 hb4 (keep1 (below_drewN hbA 1) k1); have q2 := keep1 hb4 (keep1 (below_drewN hbA 1) k2); have N8 := (NW.drewN 1).below hb4; have th := N8.there_; have s1 := cell_setCells (g := wr.heap.size) (vs := lX) q1 (Nat.ne_of_lt kl1); have s2 := cell_setCells (g := wr.heap.size) (vs := lX) q2 (Nat.ne_of_lt kl2); have B8 := (N8.eff_set X HLX.out); have T3 := (T2A.below (below_drewl hb4)).setC (vs := lX) (g := wr.heap.size) (Nat.ne_of_gt T2.b6.lt) (Nat.ne_of_gt T2.b7.lt); have hbF := below_setC (below_trans' hbw hbw.size (hbA.trans ((below_drewl hb4).mono hbA.size))) (Nat.le_refl _) (g := wr.heap.size) hbw.size lX))
      all_goals
        have kt := fun W (h : Sl W 4 lvC A n ls) => then_any A n c ls (foldE ls n (ms.take i)) X i 1 W h hn.2 HLK.out FO.out EO.out (by omega) (by omega)
        clear hof s1 s2 th q1 q2 N8
        generalize World.setCells _ _ 0 lX = w8 at *
        have b6 := T3.b7
        have b8 := B8
        unfold Blk at b6 b8
        go_wp2_with (first | (refine wpList_load_row rfl 33 _ rfl p6 rfl 33 _ (0, 0) _ b6 Try.underlying33 rfl (by kernel_rfl) ?_) | (refine wpList_load_row rfl 33 _ rfl w4.heap.size rfl 33 _ (0, 0) _ b8 Try.underlying33 rfl (by kernel_rfl) ?_) | (refine wpList_load_row rfl 33 _ rfl wr.heap.size rfl 33 _ (0, 0) _ b8 Try.underlying33 rfl (by kernel_rfl) ?_) | (go_at_call 12; refine (kt w8 (ha.below hbF)).mono ?_; rintro er w9 ⟨rfl, hb9⟩; have T9 := T3.below hb9; have b9 := T9.b7; unfold Blk at b9; have hbG := below_trans' hbF hbF.size hb9) | (refine wpList_store_row rfl 33 _ _ rfl p6 _ rfl rfl 33 _ b9 (by kernel_rfl) rfl (effA_one _) ?_))
        go_roundw
        case measure => rw [intOf, intOf]; omega
        case rel => exact ⟨i + 1, by simp, by omega, by rw [HT.out]; exact T9.row _, below_setRow hbG T9.m7 _⟩
    · have : i = m := by omega
      subst this
      have HT := Lib.hid (show foldE ls n (ms.take i) = foldE ls n ms by rw [List.take_of_length_le (by omega)])
      have b4 := T2.b6
      have b6 := T2.b7
      unfold Blk at b4 b6
      go_upto_region 9 with fail
      go_wp2_with (first | (refine wpList_load_row rfl 33 _ rfl p6 rfl 33 _ (0, 0) _ b6 Try.underlying33 rfl (by kernel_rfl) ?_) | (refine wpList_store_row rfl 33 _ _ rfl p4 _ rfl rfl 33 _ b4 (by kernel_rfl) rfl (effA_one _) ?_))
      refine bodyPost_ret (results_cell_tmp rfl _ _ p4 33 _ (0, 0) _ rfl (setRow_heap _ p4 _ _ _ _ b4) Try.underlying33 rfl (by kernel_rfl)) rfl ?_
      rw [HT.out]
      exact ⟨rfl, below_setRow hbw T2.m6 _⟩
end Go.Proofs.Ytjpbmeonkfkgdaa
