/- numbering.numbers, Shown. Templates, plain: bounds of the parts. numbering.Shown; leveltext.Fill, plain. leveltext.Fill, walked. -/
import Derived.Test.YthbodpjkckminaaGreatDoorm7
import Derived.Test.YthbodpjkckminaaGreatDoorm4
namespace Go.Proofs.YthbodpjkckminaaGreatDoor
open Go.RowKit

theorem elemN : Elem Tryz.prog 34 3 1 8 := Elem.mk Tryz.underlying34 (z := .int .i64 0) (by kernel_rfl) rfl (by omega)
theorem intC_oneN (x : Int) : ∀ u ∈ intC x, u.oneCell' = true := by intro u hu; simp [intC] at hu; subst hu; rfl
theorem sizeLv (w : World) : (sizeOf 30).run Tryz.prog w = .ok 4 w := by kernel_rfl
/-- the numbers that are shown. -/
def numF (ls : List Lv) (c : Cn) (i : Nat) : Int := if (c i).2 = true then (c i).1 else (gL ls i).start
def numsF (ls : List Lv) (c : Cn) (k : Nat) : List Int := (List.range k).map (numF ls c)
theorem numsF_succ (ls : List Lv) (c : Cn) (k : Nat) : numsF ls c (k + 1) = numsF ls c k ++ [numF ls c k] := by simp [numsF, List.range_succ]
set_option maxHeartbeats 8000000 in
set_option maxRecDepth 100000 in
theorem numbers_any (A : Option Addr) (n cA : Nat) (ls : List Lv) (c : Cn) (L : Nat) (w : World) (ha : Sl w 4 lvC A n ls) (hn : n ≤ 9) (hL : L ≤ n) (hc : n ≤ cA) :
    Calls Tryz.prog 29 #[.slice A n cA, .agg (cnA c), .int .i64 L] w fun e w' => ∃ B cB, e = .returned (.slice B L cB) ∧ Own w' w.heap.size 3 1 intC B L cB (numsF ls c L) ∧ Below w.heap.size w w' := by
  have N0 := Blk.new w 26 (cnA c)
  have hb0 := (Below.refl w.heap.size w).alloc (Nat.le_refl _) (.cells (cnA c) 26)
  have hcut := run_cut_h Tryz.underlying22 sizeLv A hL hc
  have hs := ha.take hL
  have hg9 : ∀ i, i < L → gL (ls.take L) i = gL ls i := fun i hi => by
    unfold gL
    rw [List.getD_eq_getElem?_getD, List.getD_eq_getElem?_getD, List.getElem?_take, if_pos hi]
  have HG := Lib.hid hg9
  clear hg9
  generalize ls.take L = lt at *
  go_enter Tryz.func29, Tryz.ntmps29
  go_upto_region 0 with fail
  go_cut [4] (fun v4 wx => ∃ p4, v4 = .pointer (some ⟨p4, 0, none⟩) ∧ Blk wx p4 26 (cnA c) ∧ w.heap.size ≤ p4 ∧ Below w.heap.size w wx)
  case first =>
    go_wp2_with fail
    go_meet
    case rel => exact ⟨_, rfl, N0, Nat.le_refl _, hb0⟩
  case rest =>
  obtain ⟨p4, rfl, B4, hp4, hb1⟩ := hcut
  go_wp2_with fail
  go_loopw [7, 15] (fun vo vi wr => ∃ (i : Nat) (B : Option Addr) (cB : Nat), vo = .slice B i cB ∧ vi = .int .i64 i ∧ i ≤ L ∧ Own wr w.heap.size 3 1 intC B i cB (numsF ls c i) ∧ Blk wr p4 26 (cnA c) ∧ blk B ≠ some p4 ∧ Below w.heap.size w wr) (fun _ vi _ => L - (intOf vi).toNat)
  case atStart => exact ⟨0, none, 0, rfl, rfl, Nat.zero_le _, Own.nil_ _ _ _ _ _, B4, by simp [blk], hb1⟩
  case round =>
    obtain ⟨i, B, cB, rfl, rfl, hi, ho, B4', hne, hbw⟩ := hrel
    clear B4 hb1
    by_cases hlt : i < L
    · obtain ⟨ad, e, hl2, k0, k1, k2, k3⟩ := (hs.below hbw).lv hlt
      have hgl := HG.out i hlt
      have HS := numsF_succ ls c i
      rw [show numF ls c i = if (c i).2 = true then (c i).1 else (gL lt i).start by rw [hgl]; rfl] at HS
      have i9 : i < 9 := by omega
      have i9' : (i : Int) < 9 := by omega
      subst e
      generalize gL lt i = lv at *
      obtain ⟨xf, xs, xt, xr⟩ := lv
      simp only at k0 k1 k2 k3
      go_upto_region 4 with fail
      go_cut [8, 9] (fun v8 v9 wx => ∃ p, v8 = .int .i64 i ∧ v9 = .pointer (some ⟨p, 0, none⟩) ∧ Blk wx p 30 #[.int .i64 xf, .int .i64 xs, .string xt, .int .i64 xr] ∧ Below wr.heap.size wr wx)
      case first =>
        go_wp2_with fail
        go_meet
        case rel => exact ⟨_, rfl, rfl, Blk.new _ _ _, (Below.refl _ _).alloc (Nat.le_refl _) _⟩
      case rest =>
      obtain ⟨p9, rfl, rfl, B9, hb4⟩ := hcut
      clear k0 k1 k2 k3 hgl
      have q1 : wc.cell? ⟨p9, 1, none⟩ = some (.int .i64 xs) := B9.cell 1 rfl
      have B5 := B4'.below hb4
      have ho4 := ho.below hb4
      have hbc := below_trans' hbw hbw.size hb4
      have hne4 : blk B ≠ some p4 := hne
      obtain ⟨z0, z1⟩ := B5.cn i9
      clear B4' ho hbw hb4 B9
      generalize c i = ci at z0 z1 HS
      obtain ⟨cn, cs⟩ := ci
      simp only at z0 z1 HS
      have HS := Lib.hid HS
      by_cases hcs : cs = true
      · subst hcs
        have HS := Lib.hid (show numsF ls c (i + 1) = numsF ls c i ++ [cn] by rw [HS.out]; rfl)
        go_wp2_with (at_builtin; refine wpList_push elemN rfl (.tmp 30) (.tmp 32) rfl rfl _ rfl (ho4.alloc _) (cn) _ rfl rfl (intC_oneN _) rfl (by unfold maxLen; omega) (Nat.le_trans hbc.size (by simp)) ?_; intro A3 c3 w3 ho3 hg3 ha3)
        go_roundw
        case measure => rw [intOf, intOf]; omega
        case rel =>
          refine ⟨i + 1, A3, c3, rfl, by simp, by omega, by rw [HS.out]; exact ho3, (B5.alloc _).keep hg3 (fun e => hne4 e), ?_, (hbc.alloc hbc.size _).grown hg3 (Nat.le_trans hbc.size (by simp)) (fun k hk => (ho4.lt k hk).1)⟩
          rcases ha3 with h | h
          · rw [h]; exact hne4
          · rw [h]; intro e; injection e with e; have := B5.lt; simp at e; omega
      · have hcs : cs = false := by simpa using hcs
        subst hcs
        have HS := Lib.hid (show numsF ls c (i + 1) = numsF ls c i ++ [xs] by rw [HS.out]; rfl)
        go_wp2_with (at_builtin; refine wpList_push elemN rfl (.tmp 30) (.tmp 32) rfl rfl _ rfl (ho4.alloc _) (xs) _ rfl rfl (intC_oneN _) rfl (by unfold maxLen; omega) (Nat.le_trans hbc.size (by simp)) ?_; intro A3 c3 w3 ho3 hg3 ha3)
        go_roundw
        case measure => rw [intOf, intOf]; omega
        case rel =>
          refine ⟨i + 1, A3, c3, rfl, by simp, by omega, by rw [HS.out]; exact ho3, (B5.alloc _).keep hg3 (fun e => hne4 e), ?_, (hbc.alloc hbc.size _).grown hg3 (Nat.le_trans hbc.size (by simp)) (fun k hk => (ho4.lt k hk).1)⟩
          rcases ha3 with h | h
          · rw [h]; exact hne4
          · rw [h]; intro e; injection e with e; have := B5.lt; simp at e; omega
    · have : i = L := by omega
      subst this
      go_wp2_with fail
      go_ret
      exact ⟨_, _, rfl, ho, hbw⟩
end Go.Proofs.YthbodpjkckminaaGreatDoor

namespace Go.Proofs.YthbodpjkckminaaGreatDoor

def PtOk (p : Pt) : Prop := p.lit.length ≤ 100 ∧ 0 ≤ p.lev ∧ p.lev ≤ 9
theorem flushP_ok {lit : List UInt8} {ps : List Pt} (hp : ∀ p ∈ ps, PtOk p) (hl : lit.length ≤ 100) : (∀ p ∈ flushP lit ps, PtOk p) ∧ (flushP lit ps).length ≤ ps.length + 1 := by
  unfold flushP
  by_cases h : lit = []
  · rw [if_pos h]; exact ⟨hp, by omega⟩
  · rw [if_neg h]
    refine ⟨fun p q => ?_, by simp⟩
    rcases List.mem_append.1 q with q | q
    · exact hp p q
    · rw [List.mem_singleton.1 q]; exact ⟨hl, Int.le_refl _, by show (0 : Int) ≤ 9; omega⟩
theorem placeP_ok {lit : List UInt8} {ps : List Pt} {c : UInt8} {pl : Bool} (hp : ∀ p ∈ ps, PtOk p) (hl : lit.length ≤ 100) (hc : digB c = true) : (∀ p ∈ placeP lit ps c pl, PtOk p) ∧ (placeP lit ps c pl).length ≤ ps.length + 2 := by
  obtain ⟨h1, h2⟩ := flushP_ok hp hl
  unfold placeP
  unfold digB at hc
  simp only [Bool.and_eq_true, decide_eq_true_eq] at hc
  refine ⟨fun p q => ?_, by rw [List.length_append, List.length_singleton]; omega⟩
  rcases List.mem_append.1 q with q | q
  · exact h1 p q
  · rw [List.mem_singleton.1 q]; exact ⟨by simp, by show 0 ≤ (c.toNat : Int) - 48; omega, by show (c.toNat : Int) - 48 ≤ 9; omega⟩
theorem scanP_ok : ∀ (f : Nat) (l lit : List UInt8) (ps : List Pt) (pl : Nat), (∀ p ∈ ps, PtOk p) → lit.length + f ≤ 100 →
    (∀ p ∈ (scanP f l lit ps pl).2.1, PtOk p) ∧ (scanP f l lit ps pl).1.length ≤ 100 ∧ (scanP f l lit ps pl).2.1.length ≤ ps.length + 2 * f
  | 0, _, lit, ps, _, hp, hl => ⟨hp, by show lit.length ≤ _; omega, by show ps.length ≤ _; omega⟩
  | f + 1, [], lit, ps, _, hp, hl => ⟨hp, by show lit.length ≤ _; omega, by show ps.length ≤ _; omega⟩
  | f + 1, c :: r, lit, ps, pl, hp, hl => by
    have base : ∀ e : Int, (∀ p ∈ ((lit, ps, pl, e) : List UInt8 × List Pt × Nat × Int).2.1, PtOk p) ∧ lit.length ≤ 100 ∧ ps.length ≤ ps.length + 2 * (f + 1) := fun e => ⟨hp, by omega, by omega⟩
    unfold scanP
    by_cases hc : c = 37
    · rw [if_pos hc]
      match r with
      | [] => exact base 14
      | d :: r2 =>
        simp only
        by_cases hd : d = 37
        · rw [if_pos hd]
          have := scanP_ok f r2 (lit ++ [37]) ps pl hp (by rw [List.length_append, List.length_singleton]; omega)
          exact ⟨this.1, this.2.1, by omega⟩
        · rw [if_neg hd]
          by_cases hg : digB d = true
          · rw [if_pos hg]
            have h1 := placeP_ok (pl := false) hp (lit := lit) (by omega) hg
            have := scanP_ok f r2 [] _ (pl + 1) h1.1 (by simp; omega)
            exact ⟨this.1, this.2.1, by omega⟩
          · rw [if_neg hg]
            by_cases h100 : d = 100
            · rw [if_pos h100]
              match r2 with
              | [] => exact base 14
              | k :: r3 =>
                simp only
                by_cases hk : digB k = true
                · rw [if_pos hk]
                  have h1 := placeP_ok (pl := true) hp (lit := lit) (by omega) hk
                  have := scanP_ok f r3 [] _ (pl + 1) h1.1 (by simp; omega)
                  exact ⟨this.1, this.2.1, by omega⟩
                · rw [if_neg hk]; exact base 14
            · rw [if_neg h100]; exact base 14
    · rw [if_neg hc]
      have := scanP_ok f r (lit ++ [c]) ps pl hp (by rw [List.length_append, List.length_singleton]; omega)
      exact ⟨this.1, this.2.1, by omega⟩
theorem parseP_ok (s : ByteArray) : (∀ p ∈ parseP s, PtOk p) ∧ (parseP s).length ≤ 200 := by
  unfold parseP
  by_cases h : parseE s = 0
  · rw [if_pos h]
    have h64 : ¬ 64 < s.size := fun h64 => by unfold parseE at h; rw [if_pos h64] at h; omega
    have hl : s.data.toList.length = s.size := Array.length_toList
    obtain ⟨h1, h2, h3⟩ := scanP_ok (s.data.toList.length + 1) s.data.toList [] [] 0 (fun p q => absurd q List.not_mem_nil) (by simp; omega)
    have := flushP_ok h1 h2
    refine ⟨this.1, ?_⟩
    have h4 := this.2
    simp only [List.length_nil] at h3
    show (flushP _ _).length ≤ _
    omega
  · rw [if_neg h]; exact ⟨fun p q => absurd q List.not_mem_nil, by simp⟩
theorem lvE_at : ∀ (ls : List Lv) (i : Nat), clF i ls = 0 → ∀ j, j < ls.length → lvE (i + j) (gL ls j) = 0
  | [], _, _, j, hj => absurd hj (Nat.not_lt_zero j)
  | l :: r, i, h, j, hj => by
    rw [clF] at h
    by_cases h0 : lvE i l ≠ 0
    · rw [if_pos h0] at h; exact absurd h h0
    · rw [if_neg h0] at h
      rcases j with _ | j
      · exact Decidable.not_not.1 h0
      · have := lvE_at r (i + 1) h j (by simpa using hj)
        rw [show i + (j + 1) = i + 1 + j by omega]
        exact this
/-- of right levels: the format, the start, the restart, and what the template's parts name. -/
theorem lv_right {ls : List Lv} (h : clE ls = 0) {i : Nat} (hi : i < ls.length) : 1 ≤ (gL ls i).format ∧ (gL ls i).format ≤ 7 ∧ 0 ≤ (gL ls i).start ∧ (gL ls i).start ≤ 32767 ∧ 0 ≤ (gL ls i).restart ∧ (gL ls i).restart ≤ i ∧ parseE (gL ls i).text = 0 ∧ ∀ p ∈ parseP (gL ls i).text, p.lev ≤ (i : Int) + 1 := by
  unfold clE at h
  have h9 : ¬ 9 < ls.length := fun h9 => by rw [if_neg (by omega), if_pos h9] at h; omega
  rw [if_neg (by omega), if_neg h9] at h
  have e := lvE_at ls 0 h i hi
  rw [Nat.zero_add] at e
  generalize gL ls i = l at *
  unfold lvE at e
  by_cases a : l.format < 1 ∨ 7 < l.format
  · rw [if_pos a] at e; omega
  rw [if_neg a] at e
  by_cases b : l.start < 0 ∨ 32767 < l.start
  · rw [if_pos b] at e; omega
  rw [if_neg b] at e
  by_cases c : checkE l.text ((i : Int) + 1) ≠ 0
  · rw [if_pos c] at e; exact absurd e c
  rw [if_neg c] at e
  by_cases d : l.restart < 0 ∨ (i : Int) < l.restart
  · rw [if_pos d] at e; omega
  have c := Decidable.not_not.1 c
  unfold checkE at c
  rw [if_neg (by omega)] at c
  by_cases f : parseE l.text = 0 ∧ (parseP l.text).any (fun p => decide ((i : Int) + 1 < p.lev)) = true
  · rw [if_pos f] at c; omega
  · rw [if_neg f] at c
    refine ⟨by omega, by omega, by omega, by omega, by omega, by omega, c, fun p hp => ?_⟩
    by_cases h' : (i : Int) + 1 < p.lev
    · exact absurd ⟨c, List.any_eq_true.2 ⟨p, hp, by simpa using h'⟩⟩ f
    · omega
end Go.Proofs.YthbodpjkckminaaGreatDoor

namespace Go.Proofs.YthbodpjkckminaaGreatDoor
open Go.RowKit

theorem Own.others {α : Type} {w w' : World} {B s n c b : Nat} {e : TypeId} {enc : α → List Value} {A : Option Addr} {xs : List α} (h : Own w B e s enc A n c xs) (hk : Lib.OthersKept 5 (some b) w w') (he : e ≠ 5) (hb : blk A ≠ some b) : Own w' B e s enc A n c xs := by
  refine ⟨h.len, h.row.1, h.row.2.elim .inl ?_⟩
  rintro ⟨g, cap, cur, hv, hB, hg, r⟩
  have hA : A = some ⟨g, 0, none⟩ := by injection hv
  exact .inr ⟨g, cap, cur, hv, hB, hk g _ hg (fun e2 => hb (by rw [hA]; exact e2)) (fun c fz e2 => by injection e2 with _ e3 _; exact he e3), r⟩
def ShownPost (w : World) (ls : List Lv) (n : Nat) (c : Cn) (level : Int) (e : Ending) (w' : World) : Prop :=
  ∃ (B : Option Addr) (k cB : Nat), e = .returned (.tuple #[.slice B k cB, .int .i64 (ckE ls n level)]) ∧ (ckE ls n level = 0 → (k : Int) = level ∧ Own w' w.heap.size 3 1 intC B k cB (numsF ls c k)) ∧ (ckE ls n level ≠ 0 → B = none ∧ k = 0 ∧ cB = 0) ∧ Below w.heap.size w w'
theorem ckE_ok {ls : List Lv} {n : Nat} {level : Int} (hn : ls.length = n) (h : ckE ls n level = 0) : clE ls = 0 ∧ 1 ≤ level ∧ level ≤ n ∧ n ≤ 9 := by
  unfold ckE at h
  by_cases h1 : clE ls ≠ 0
  · rw [if_pos h1] at h; exact absurd h h1
  · rw [if_neg h1] at h
    have h1 := Decidable.not_not.1 h1
    have := clE_len h1
    by_cases h2 : level < 1 ∨ (n : Int) < level
    · rw [if_pos h2] at h; omega
    · exact ⟨h1, by omega, by omega, by omega⟩
set_option maxHeartbeats 4000000 in
set_option maxRecDepth 100000 in
theorem shown_any (A : Option Addr) (n cA : Nat) (ls : List Lv) (c : Cn) (level : Int) (w : World) (ha : Sl w 4 lvC A n ls) (hc : n ≤ cA) :
    Calls Tryz.prog 10 #[.slice A n cA, .agg (cnA c), .int .i64 level] w (ShownPost w ls n c level) := by
  have hlen := ha.len
  have N0 := Blk.new w 26 (cnA c)
  have hb0 := (Below.refl w.heap.size w).alloc (Nat.le_refl _) (.cells (cnA c) 26)
  have cc := checked_any A n cA ls level (w.alloc (.cells (cnA c) 26)) (ha.below hb0)
  by_cases hk : ckE ls n level = 0
  · obtain ⟨h1, h2, h3, h4⟩ := ckE_ok hlen hk
    obtain ⟨L, rfl⟩ : ∃ L : Nat, level = (L : Int) := ⟨level.toNat, by omega⟩
    have hnu := fun W (hW : Sl W 4 lvC A n ls) => numbers_any A n cA ls c L W hW h4 (by omega) hc
    have HP : ∀ e w', (∃ (B : Option Addr) (k cB : Nat), e = .returned (.tuple #[.slice B k cB, .int .i64 0]) ∧ (k : Int) = L ∧ Own w' w.heap.size 3 1 intC B k cB (numsF ls c k) ∧ Below w.heap.size w w') → ShownPost w ls n c L e w' := by
      rintro e w' ⟨B, k, cB, he, hk1, ho, hb⟩
      unfold ShownPost
      rw [hk]
      exact ⟨B, k, cB, he, fun _ => ⟨hk1, ho⟩, fun h => absurd rfl h, hb⟩
    have HP := Lib.hid HP
    rw [hk] at cc
    clear hk h1 h2 h3
    go_enter Tryz.func10, Tryz.ntmps10
    go_wp2_with (first | (go_at_call 27; refine cc.mono ?_; rintro er w2 ⟨rfl, hb2⟩; have b5 := N0.below hb2; have hb3 := below_trans' hb0 hb0.size hb2; unfold Blk at b5) | (refine wpList_load_row rfl 26 _ rfl w.heap.size rfl 26 _ (0, 0) _ b5 Tryz.underlying26 rfl (by kernel_rfl) ?_) | (go_at_call 29; refine (hnu _ (ha.below hb3)).mono ?_; rintro er w4 ⟨B, cB, rfl, ho, hb4⟩))
    go_ret2
    refine HP.out _ _ ⟨B, L, cB, rfl, rfl, ?_, below_trans' hb3 hb3.size hb4⟩
    exact ho.base hb3.size
  · have HP : ∀ e w', (e = .returned (.tuple #[.slice none 0 0, .int .i64 (ckE ls n level)]) ∧ Below w.heap.size w w') → ShownPost w ls n c level e w' := by
      rintro e w' ⟨he, hb⟩
      exact ⟨none, 0, 0, he, fun h => absurd h hk, fun _ => ⟨rfl, rfl, rfl⟩, hb⟩
    have HP := Lib.hid HP
    have b1 : (ckE ls n level != 0) = true := bne_iff_ne.2 hk
    clear hk
    generalize ckE ls n level = ce at *
    go_enter Tryz.func10, Tryz.ntmps10
    go_wp2_with (first | (go_at_call 27; refine cc.mono ?_; rintro er w2 ⟨rfl, hb2⟩))
    go_ret2
    exact HP.out _ _ ⟨rfl, below_trans' hb0 hb0.size hb2⟩
def fillP (ls : List Lv) (ns : List Int) (p : Pt) : List UInt8 := if p.lev = 0 then p.lit else (digF (gL ls (p.lev - 1).toNat).format (gI ns (p.lev - 1).toNat) p.plain).data.toList
/-- the first k parts of a label. -/
def fillL (ls : List Lv) (L : Nat) (ns : List Int) (k : Nat) : List UInt8 := ((parseP (gL ls L).text).take k).flatMap (fillP ls ns)
def fillB (ls : List Lv) (L : Nat) (ns : List Int) : ByteArray := ⟨((parseP (gL ls L).text).flatMap (fillP ls ns)).toArray⟩
theorem fillL_succ (ls : List Lv) (L : Nat) (ns : List Int) {k : Nat} (h : k < (parseP (gL ls L).text).length) : fillL ls L ns (k + 1) = fillL ls L ns k ++ fillP ls ns (gP (parseP (gL ls L).text) k) := by
  unfold fillL
  rw [List.take_succ_eq_append_getElem h, List.flatMap_append, gP_get _ h]
  simp
theorem upB_size (s : ByteArray) : (upB s).size = s.size := by
  show (Lib.toUpperA s.data.toList).toArray.size = _
  rw [List.size_toArray]
  unfold Lib.toUpperA
  rw [List.length_map]
  exact Array.length_toList
theorem formB_size (f n : Int) (h : formE f n = 0) : (formB f n).size ≤ 26000000 := by
  unfold formE at h
  by_cases hf : 1 ≤ f ∧ f ≤ 7
  · rw [if_pos hf] at h
    by_cases hb : n < rngL f ∨ rngG f < n
    · rw [if_pos hb] at h; omega
    · have h0 : 0 ≤ rngL f := by unfold rngL; repeat' split
                                 all_goals decide
      have h1 : rngG f ≤ 1000000 := by unfold rngG; repeat' split
                                       all_goals decide
      unfold formB
      have i1 := itoaB_size n (by omega) (by omega)
      have i2 := lettersB_size 20 n
      have i3 := romB_size n (by omega) (by omega)
      have i4 := ordB_size n (by omega) (by omega)
      have i5 := upB_size (lettersB 20 n)
      have i6 := upB_size (romB n)
      repeat' split
      all_goals first | omega | (show (3 : Nat) ≤ _; omega)
  · rw [if_neg hf] at h; omega
theorem digF_size (f n : Int) (pl : Bool) : (digF f n pl).size ≤ 26000000 := by
  unfold digF
  by_cases h1 : pl = false ∧ formE f n = 0
  · rw [if_pos h1]; exact formB_size f n h1.2
  · rw [if_neg h1]
    by_cases h2 : formE 1 n = 0
    · rw [if_pos h2]; exact formB_size 1 n h2
    · rw [if_neg h2]; show (1 : Nat) ≤ _; omega
theorem fillP_len (ls : List Lv) (ns : List Int) {p : Pt} (h : PtOk p) : (fillP ls ns p).length ≤ 26000000 := by
  unfold fillP
  split
  · have := h.1; omega
  · have := digF_size (gL ls (p.lev - 1).toNat).format (gI ns (p.lev - 1).toNat) p.plain
    have e : (digF (gL ls (p.lev - 1).toNat).format (gI ns (p.lev - 1).toNat) p.plain).data.toList.length = (digF (gL ls (p.lev - 1).toNat).format (gI ns (p.lev - 1).toNat) p.plain).size := Array.length_toList
    omega
theorem fillL_len (ls : List Lv) (L : Nat) (ns : List Int) : ∀ k, (fillL ls L ns k).length ≤ 26000000 * k
  | 0 => Nat.le_refl _
  | k + 1 => by
    by_cases h : k < (parseP (gL ls L).text).length
    · rw [fillL_succ ls L ns h, List.length_append]
      have h1 := fillL_len ls L ns k
      have h2 := fillP_len ls ns ((parseP_ok (gL ls L).text).1 _ (show gP (parseP (gL ls L).text) k ∈ parseP (gL ls L).text by rw [gP_get _ h]; exact List.getElem_mem h))
      omega
    · have h1 := fillL_len ls L ns k
      have e : fillL ls L ns (k + 1) = fillL ls L ns k := by
        unfold fillL
        rw [List.take_of_length_le (by omega), List.take_of_length_le (by omega)]
      rw [e]
      omega
end Go.Proofs.YthbodpjkckminaaGreatDoor

namespace Go.Proofs.YthbodpjkckminaaGreatDoor
open Go.RowKit

theorem keep4 {w w' : World} {p0 p1 p2 p3 : Addr} {v0 v1 v2 v3 : Value} (hb : Below w.heap.size w w') (h : w.cell? p0 = some v0 ∧ w.cell? p1 = some v1 ∧ w.cell? p2 = some v2 ∧ w.cell? p3 = some v3) :
    w'.cell? p0 = some v0 ∧ w'.cell? p1 = some v1 ∧ w'.cell? p2 = some v2 ∧ w'.cell? p3 = some v3 := by
  have k : ∀ p v, w.cell? p = some v → w'.cell? p = some v := fun p v h => (hb.cell (World.block_lt_of_cell? _ _ h)).trans h
  exact ⟨k _ _ h.1, k _ _ h.2.1, k _ _ h.2.2.1, k _ _ h.2.2.2⟩
set_option maxHeartbeats 8000000 in
set_option maxRecDepth 100000 in
theorem fill_any (A : Option Addr) (n cA : Nat) (ls : List Lv) (L : Nat) (AN : Option Addr) (m cN : Nat) (ns : List Int) (w : World) (hg : Gl w) (ha : Sl w 4 lvC A n ls) (hns : Sl w 1 intC AN m ns) (hk : ckE ls n ((L : Int) + 1) = 0) (hm : L + 1 ≤ m) :
    Calls Tryz.prog 88 #[.slice A n cA, .int .i64 ((L : Int) + 1), .slice AN m cN] w fun e w' => e = .returned (.tuple #[.string (fillB ls L ns), .int .i64 0]) ∧ Below w.heap.size w w' := by
  have hlen := ha.len
  obtain ⟨h1, _, h3, h4⟩ := ckE_ok hlen hk
  have hL : L < n := by omega
  have cc := ltcheck_any A n cA ls ((L : Int) + 1) w ha
  rw [hk] at cc
  obtain ⟨_, _, _, _, _, _, hpe, hlv⟩ := lv_right h1 (i := L) (by omega)
  obtain ⟨hpo, hpl⟩ := parseP_ok (gL ls L).text
  have HFB := Lib.hid (show fillB ls L ns = ⟨(fillL ls L ns (parseP (gL ls L).text).length).toArray⟩ by unfold fillB fillL; rw [List.take_length])
  have HFS := Lib.hid (fun k hk => fillL_succ ls L ns (k := k) hk)
  have HFL := Lib.hid (fillL_len ls L ns)
  have hpa := fun W => parse_any (gL ls L).text W
  clear hk h1
  have hlm2 : ¬ (m : Int) < (L : Int) + 1 := by omega
  go_enter Tryz.func88, Tryz.ntmps88
  go_upto_region 6 with (first | (go_at_call 120; refine cc.mono ?_; rintro er w2 ⟨rfl, hb2⟩))
  obtain ⟨ad, e, hl2, _, _, k2, _⟩ := (ha.below hb2).lv hL
  subst e
  go_cut [9, 10] (fun v9 v10 wx => ∃ (B : Option Addr) (cB : Nat), v9 = .slice B (parseP (gL ls L).text).length cB ∧ v10 = .int .i64 0 ∧ Own wx w2.heap.size 136 3 ptC B (parseP (gL ls L).text).length cB (parseP (gL ls L).text) ∧ Below w2.heap.size w2 wx)
  case first =>
    generalize (gL ls L).text = txt at *
    go_wp2_with (first | (go_at_call 52; refine (hpa _).mono ?_; rintro er w3 ⟨B, cB, rfl, ho, hb3⟩))
    go_meet
    case rel => exact ⟨B, cB, rfl, rfl, ho, hb3⟩
  case rest =>
  obtain ⟨B, cB, rfl, rfl, ho, hb3⟩ := hcut
  have hbw := below_trans' hb2 hb2.size hb3
  have ho := ho.base hb2.size
  clear hb2 hb3 k2 hpa cc hpe
  generalize parseP (gL ls L).text = ps at *
  have b0 : Lib.IsBuilderF 195 5 wc.heap.size wc.heap.size (Lib.byteCells []) (wc.alloc (.cells #[.pointer none, .slice none 0 0] 195)) := Lib.IsBuilderF.of (Lib.fresh_isBuilder 195 5 wc)
  have hbl := (hbw.alloc hbw.size (.cells #[.pointer none, .slice none 0 0] 195))
  have hneB : blk B ≠ some wc.heap.size := fun e => by have := (ho.lt _ e).2; omega
  have ho1 := ho.alloc (.cells #[.pointer none, .slice none 0 0] 195)
  have hwB := hbw.size
  obtain ⟨b, hb⟩ : ∃ b, b = wc.heap.size := ⟨_, rfl⟩
  have HBS := Lib.hid hb
  rw [← hb] at b0 hneB hwB
  clear ho hb
  go_upto_region 7 with fail
  go_cut [11] (fun v11 wx => v11 = .pointer (some ⟨b, 0, none⟩) ∧ Lib.IsBuilderF 195 5 b b (Lib.byteCells []) wx ∧ Own wx w.heap.size 136 3 ptC B ps.length cB ps ∧ b < wx.heap.size ∧ Below w.heap.size w wx)
  case first =>
    go_wp2_with fail
    go_meet
    case rel => exact ⟨by rw [HBS.out], b0, ho1, by rw [HBS.out]; simp, hbl⟩
  case rest =>
  obtain ⟨rfl, b1, ho, hsz, hbw⟩ := hcut
  clear ho1 b0 hbl
  go_wp2_with fail
  go_loopw [36] (fun vi wr => ∃ i : Nat, vi = .int .i64 i ∧ i ≤ ps.length ∧ Lib.IsBuilderF 195 5 b b (Lib.byteCells (fillL ls L ns i)) wr ∧ Own wr w.heap.size 136 3 ptC B ps.length cB ps ∧ b < wr.heap.size ∧ Below w.heap.size w wr) (fun vi _ => ps.length - (intOf vi).toNat)
  case atStart => exact ⟨0, rfl, Nat.zero_le _, b1, ho, hsz, hbw⟩
  case round =>
    obtain ⟨i, rfl, hi, b2, ho2, hsz2, hbw2⟩ := hrel
    clear b1 ho hsz hbw
    by_cases hlt : i < ps.length
    · obtain ⟨ap, e, hap, k0, k1, k2⟩ := (ho2.sl ptC_len).pt hlt
      subst e
      have hmem : gP ps i ∈ ps := by rw [gP_get _ hlt]; exact List.getElem_mem hlt
      have po := hpo _ hmem
      have pl := hlv _ hmem
      have hS := HFS.out i hlt
      have hFl := HFL.out i
      unfold fillP at hS
      have HS := Lib.hid hS
      clear hS hmem
      generalize gP ps i = p at *
      obtain ⟨pt, lv, pb⟩ := p
      unfold PtOk at po
      simp only at k0 k1 k2 po pl HS
      go_upto_region 10 with fail
      go_cut [13] (fun v13 wx => ∃ p13, v13 = .pointer (some ⟨p13, 0, none⟩) ∧ Blk wx p13 136 #[.string ⟨pt.toArray⟩, .int .i64 lv, .bool pb] ∧ wr.heap.size ≤ p13 ∧ Below wr.heap.size wr wx)
      case first =>
        go_wp2_with fail
        go_meet
        case rel => exact ⟨_, rfl, Blk.new _ _ _, Nat.le_refl _, (Below.refl _ _).alloc (Nat.le_refl _) _⟩
      case rest =>
      obtain ⟨p13, rfl, B13, hp13, hb4⟩ := hcut
      have b3 := ibBelow b2 hb4
      have ho3 := ho2.below hb4
      have hbc := below_trans' hbw2 hbw2.size hb4
      have hsz3 : b < wc.heap.size := Nat.lt_of_lt_of_le hsz2 hb4.size
      have np : p13 ≠ b := by omega
      clear b2 ho2 hbw2 hb4 k0 k1 k2
      have q0 : wc.cell? ⟨p13, 0, none⟩ = some (.string ⟨pt.toArray⟩) := B13.cell 0 rfl
      have q1 : wc.cell? ⟨p13, 1, none⟩ = some (.int .i64 lv) := B13.cell 1 rfl
      have q2 : wc.cell? ⟨p13, 2, none⟩ = some (.bool pb) := B13.cell 2 rfl
      by_cases hz : lv = 0
      · subst hz
        have HT := Lib.hid (HS.out.trans (by rw [if_pos rfl] : _ = fillL ls L ns i ++ pt))
        clear HS
        have hwr := bWrite b b (fillL ls L ns i) ⟨pt.toArray⟩ wc b3 (by have : (⟨pt.toArray⟩ : ByteArray).size = pt.length := List.size_toArray; omega) (by omega)
        go_wp2_with (first | (go_at_call 121; refine hwr.mono ?_; rintro er w6 ⟨rfl, hB4, hb6, hk6⟩))
        go_roundw
        case measure => rw [intOf, intOf]; omega
        case rel => exact ⟨i + 1, by simp, by omega, by rw [HT.out]; exact hB4, ho3.others hk6 (by decide) hneB, Nat.lt_of_lt_of_le hsz3 hb6.size, hbc.trans (hb6.mono hwB)⟩
      · obtain ⟨k, rfl⟩ : ∃ k : Nat, lv = (k : Int) + 1 := ⟨(lv - 1).toNat, by omega⟩
        have HT := Lib.hid (HS.out.trans (by rw [if_neg hz, show ((k : Int) + 1 - 1).toNat = k by omega] : _ = fillL ls L ns i ++ (digF (gL ls k).format (gI ns k) pb).data.toList))
        clear HS
        have hkn : k < n := by omega
        have hkm : k < m := by omega
        have e0 : ((k : Int) + 1 == 0) = false := beq_eq_false_iff_ne.2 (by omega)
        have hkn' : (k : Int) < (n : Int) := by omega
        have hkm' : (k : Int) < (m : Int) := by omega
        have hk0' : (0 : Int) ≤ (k : Int) := by omega
        obtain ⟨al, e, hal, f0, _, _, _⟩ := ha.lv hkn
        obtain rfl : ad = al := by injection e
        clear e
        obtain ⟨an, e, han, g0⟩ := hns.int hkm
        subst e
        have f1 := keep1 hbc f0
        have g1 := keep1 hbc g0
        clear f0 g0
        have hw1 : IntKind.i64.wrap ((k : Int) + 1 - 1) = (k : Int) := by rw [show (k : Int) + 1 - 1 = k by omega]; exact IntWalk.i64_in _ (by omega)
        have hw2 : IntKind.i64.wrap (k : Int) = (k : Int) := IntWalk.i64_in _ (by omega)
        have hGc := hg.below hbc
        have hdg := fun W hW => digits_any (gL ls k).format (gI ns k) pb W hW
        have hds := digF_size (gL ls k).format (gI ns k) pb
        have hal2 : (ad.add (k * 4)).block < w.heap.size := by rw [block_add]; exact hal
        have han2 : (an.add k).block < w.heap.size := by rw [block_add]; exact han
        generalize (gL ls k).format = lf at *
        generalize gI ns k = nk at *
        generalize digF lf nk pb = dg at *
        have hwr := fun W (hW : Lib.IsBuilderF 195 5 b b (Lib.byteCells (fillL ls L ns i)) W) (hW2 : b ≤ W.heap.size) => bWrite b b (fillL ls L ns i) dg W hW (by omega) hW2
        go_upto_region 13 with fail
        go_region_held3 (fun w' => w'.cell? ⟨p13, 1, none⟩ = some (.int .i64 ((k : Int) + 1)) ∧ w'.cell? ⟨p13, 2, none⟩ = some (.bool pb) ∧ w'.cell? (ad.add (k * 4)) = some (.int .i64 lf) ∧ w'.cell? (an.add k) = some (.int .i64 nk))
          (first | (with_reducible exact s5) | (with_reducible exact r5) | go_keep)
          (first
            | (go_at_call 122; refine (hdg _ (hGc.drewN 1)).mono ?_; rintro er w5 ⟨rfl, hb5⟩; have r5 := keep4 (nbDrew (q := 1) hb5) ⟨q1, q2, f1, g1⟩; have b4 := ibBelow b3 (nbDrew (q := 1) hb5); have B6 := B13.below (nbDrew (q := 1) hb5); have ho4 := ho3.below (nbDrew (q := 1) hb5); have hbd := below_trans' hbc hbc.size (nbDrew (q := 1) hb5); have hsz5 := Nat.lt_of_lt_of_le hsz3 hb5.size)
            | (go_at_call 121; refine (hwr w5 b4 (Nat.le_of_lt hsz5)).mono ?_; rintro er w6 ⟨rfl, hB4, hb6, hk6⟩; have B7 : Blk w6 p13 136 #[.string ⟨pt.toArray⟩, .int .i64 ((k : Int) + 1), .bool pb] := keptCell hk6 B6 np (by decide); have s5 : w6.cell? ⟨p13, 1, none⟩ = some (.int .i64 ((k : Int) + 1)) ∧ w6.cell? ⟨p13, 2, none⟩ = some (.bool pb) ∧ w6.cell? (ad.add (k * 4)) = some (.int .i64 lf) ∧ w6.cell? (an.add k) = some (.int .i64 nk) := ⟨B7.cell 1 rfl, B7.cell 2 rfl, (hb6.cell (Nat.lt_of_lt_of_le hal2 hwB)).trans r5.2.2.1, (hb6.cell (Nat.lt_of_lt_of_le han2 hwB)).trans r5.2.2.2⟩))
        all_goals
          go_wp2_with fail
          go_roundw
          case measure => rw [intOf, intOf]; omega
          case rel => exact ⟨i + 1, by simp, by omega, by rw [HT.out]; exact hB4, ho4.others hk6 (by decide) hneB, Nat.lt_of_lt_of_le hsz5 hb6.size, hbd.trans (hb6.mono hwB)⟩
    · have : i = ps.length := by omega
      subst this
      go_wp2_with (first | (go_at_call 123; refine (Tryz.Builder_String_any_f b b (fillL ls L ns ps.length) wr b2 (by omega)).mono ?_; rintro er w7 ⟨rfl, _, hb7⟩))
      go_ret2
      exact ⟨by rw [HFB.out]; rfl, hbw2.trans (hb7.mono hwB)⟩
end Go.Proofs.YthbodpjkckminaaGreatDoor
