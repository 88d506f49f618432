/- property: binary search among keys and among properties; find. renumber.Seq's find: lists by their ids. Several effects in memory, and what a region that draws its order does with them. renumber.Seq's find and the law's find; what checks answer, plain. property: groups, Group, Default, Fits, CheckValue. -/
import Derived.Test.YthbodpjkckminaaGreatDoorm2
import Derived.Test.YthbodpjkckminaaGreatDoorm6
import Derived.Test.YthbodpjkckminaaGreatDoorm8
import Derived.Lib.SlicesSearch
import Derived.Deep.LoopGhost
import Derived.Test.YthbodpjkckminaaGreatDoorm5
import Derived.Deep.RegionHeld3
namespace Go.Proofs.YthbodpjkckminaaGreatDoor
open Go.RowKit

theorem cmpLt {x y : Int} (h : x < y) : Lib.compareInt x y = -1 := by unfold Lib.compareInt; simp [h]
theorem cmpGt {x y : Int} (h : y < x) : Lib.compareInt x y = 1 := by unfold Lib.compareInt; simp [h]; omega
theorem cmpEq (x : Int) : Lib.compareInt x x = 0 := by unfold Lib.compareInt; simp
/-- where a number stands among increasing ones. -/
def ixN (zs : List Int) (x : Int) : Nat := zs.countP (· < x)
/-- a property: its key and its value. -/
structure Pr where
  key : Int
  val : Int
deriving DecidableEq
def prC (p : Pr) : List Value := [.int .i64 p.key, .int .i64 p.val]
theorem prC_len (p : Pr) : (prC p).length = 2 := rfl
theorem prC_one (p : Pr) : ∀ u ∈ prC p, u.oneCell' = true := by intro u hu; simp [prC] at hu; rcases hu with rfl | rfl <;> rfl
def gP2 (ps : List Pr) (i : Nat) : Pr := ps.getD i ⟨0, 0⟩
theorem Sl.pr {w : World} {A : Option Addr} {n : Nat} {xs : List Pr} (h : Sl w 2 prC A n xs) {k : Nat} (hk : k < n) :
    ∃ ad, A = some ad ∧ ad.block < w.heap.size ∧ w.cell? (ad.add (k * 2)) = some (.int .i64 (gP2 xs k).key) ∧ w.cell? ⟨(ad.add (k * 2)).block, (ad.add (k * 2)).off + 1, none⟩ = some (.int .i64 (gP2 xs k).val) := by
  obtain ⟨ad, e, hl, h0, hj⟩ := h.fld ⟨0, 0⟩ hk
  exact ⟨ad, e, hl, h0 _ rfl, hj 1 _ (by omega) rfl⟩
set_option maxRecDepth 100000 in
theorem cmpk_any (y k1 k2 k3 k4 : Int) (k5 : ByteArray) (x : Int) (w : World) : Calls Tryz.prog 105 #[.agg #[.int .i64 y, .int .i64 k1, .int .i64 k2, .int .i64 k3, .int .i64 k4, .string k5], .int .i64 x] w fun er w' => er = .returned (.int .i64 (Lib.compareInt y x)) ∧ Below w.heap.size w w' := by
  have N := Blk.new w 160 #[.int .i64 y, .int .i64 k1, .int .i64 k2, .int .i64 k3, .int .i64 k4, .string k5]
  have hb := (Below.refl w.heap.size w).alloc (Nat.le_refl _) (.cells #[.int .i64 y, .int .i64 k1, .int .i64 k2, .int .i64 k3, .int .i64 k4, .string k5] 160)
  have q0 := N.cell 0 rfl
  have hcc := fun W => Tryz.cmp_Compare_int y x W
  generalize Lib.compareInt y x = r at *
  go_enter Tryz.func105, Tryz.ntmps105
  go_wp2_with (first | (go_at_call 106; refine (hcc _).mono ?_; rintro er w2 ⟨rfl, rfl⟩))
  go_ret
  exact ⟨rfl, hb⟩
set_option maxHeartbeats 8000000 in
set_option maxRecDepth 1000000 in
theorem bsfk_any (A : Option Addr) (n c : Nat) (es : List Ky) (x : Int) (w : World) (ha : Sl w 6 kyC A n es) (hbig : n ≤ 1000000) (hs : (es.map (·.num)).Pairwise (· ≤ ·)) :
    Calls Tryz.prog 104 #[.slice A n c, .int .i64 x, .func (.func 105) #[] #[]] w fun e w' => e = .returned (.tuple #[.int .i64 (ixN (es.map (·.num)) x : Nat), .bool ((es.map (·.num)).contains x)]) ∧ Below w.heap.size w w' := by
  have hl := ha.len
  have hid : ∀ k, k < n → (es.map (·.num)).getD k 0 = (gK es k).num := fun k hk => by
    unfold gK
    rw [List.getD_eq_getElem?_getD, List.getD_eq_getElem?_getD, List.getElem?_map]
    cases h : es[k]? with
    | none => rfl
    | some e => rfl
  have hzl : (es.map (·.num)).length = n := by rw [List.length_map]; exact hl
  have HI := Lib.hid hid
  clear hid
  generalize es.map (·.num) = zs at *
  have htk : zs.take n = zs := by rw [← hzl, List.take_length]
  have S := Lib.hid (Go.Lib.sorted_at zs n (by omega) (by rw [htk]; exact hs))
  have E0 := Lib.hid (fun i (hi : i ≤ n) h1 h2 => Go.Lib.search_end zs n i x (by omega) hi h1 h2 S.out)
  rw [htk] at E0
  clear hs htk hl hzl
  go_enter Tryz.func104, Tryz.ntmps104
  go_wp2_with fail
  go_loopg [9, 10] n (fun g s9 s10 wr => ∃ lo hi : Nat, s9 = .int .i64 lo ∧ s10 = .int .i64 hi ∧ lo ≤ hi ∧ hi ≤ n ∧ hi - lo ≤ g ∧ Below w.heap.size w wr ∧ (∀ t, t < lo → zs.getD t 0 < x) ∧ (∀ t, hi ≤ t → t < n → x ≤ zs.getD t 0))
  case atStart => exact ⟨0, n, rfl, rfl, Nat.zero_le _, Nat.le_refl _, by omega, Below.refl _ _, fun t ht => absurd ht (Nat.not_lt_zero _), fun t h1 h2 => by omega⟩
  case round =>
    obtain ⟨lo, hi, rfl, rfl, hlh, hin, hg, hbw, h1, h2⟩ := hrel
    have I := Lib.hid (show (∀ t, t < lo → zs.getD t 0 < x) ∧ (∀ t, hi ≤ t → t < n → x ≤ zs.getD t 0) from ⟨h1, h2⟩)
    clear h1 h2
    by_cases hlt : lo < hi
    · obtain ⟨ad, e, hl, c0, c1, c2, c3, c4, c5⟩ := (ha.below hbw).ky (k := (lo + hi) / 2) (by omega)
      have hY := HI.out ((lo + hi) / 2) (by omega)
      subst e
      generalize gK es ((lo + hi) / 2) = el at *
      obtain ⟨y, k1, k2, k3, k4, k5⟩ := el
      simp only at c0 c1 c2 c3 c4 c5 hY
      have Y := Lib.hid hY
      have hcf := fun W => cmpk_any y k1 k2 k3 k4 k5 x W
      clear hY
      by_cases hyx : y < x
      · rw [cmpLt hyx] at hcf
        go_wp2_with (first | (go_at_call 105; refine (hcf _).mono ?_; rintro e w3 ⟨rfl, hb3⟩))
        go_roundg (hi - ((lo + hi) / 2 + 1))
        case measure => omega
        case rel =>
          refine ⟨(lo + hi) / 2 + 1, hi, by rw [show ((lo : Int) + (hi : Int)) / 2 + 1 = (((lo + hi) / 2 + 1 : Nat) : Int) by omega], rfl, by omega, hin, Nat.le_refl _, below_trans' hbw hbw.size hb3, fun t ht => ?_, I.out.2⟩
          have := S.out t ((lo + hi) / 2) (by omega) (by omega)
          rw [Y.out] at this
          omega
      · have hnn : ¬ Lib.compareInt y x < 0 := by
          by_cases e : y = x
          · rw [e, cmpEq]; omega
          · rw [cmpGt (by omega)]; omega
        generalize Lib.compareInt y x = r at *
        go_wp2_with (first | (go_at_call 105; refine (hcf _).mono ?_; rintro e w3 ⟨rfl, hb3⟩))
        go_roundg ((lo + hi) / 2 - lo)
        case measure => omega
        case rel =>
          refine ⟨lo, (lo + hi) / 2, rfl, by rw [show ((lo : Int) + (hi : Int)) / 2 = (((lo + hi) / 2 : Nat) : Int) by omega], by omega, by omega, Nat.le_refl _, below_trans' hbw hbw.size hb3, I.out.1, fun t ht htn => ?_⟩
          have := S.out ((lo + hi) / 2) t ht htn
          rw [Y.out] at this
          omega
    · have hh : hi = lo := by omega
      subst hh
      have E := E0.out hi hin I.out.1 I.out.2
      have HE := Lib.hid E
      clear E
      have HX := Lib.hid (show ixN zs x = hi from HE.out.1)
      by_cases hn : hi < n
      · obtain ⟨ad, e, hl, c0, c1, c2, c3, c4, c5⟩ := (ha.below hbw).ky hn
        have hY := HI.out hi hn
        subst e
        generalize gK es hi = el at *
        obtain ⟨y, k1, k2, k3, k4, k5⟩ := el
        simp only at c0 c1 c2 c3 c4 c5 hY
        have hcf := fun W => cmpk_any y k1 k2 k3 k4 k5 x W
        by_cases hyx : y = x
        · have HB := Lib.hid (show zs.contains x = true by rw [HE.out.2, decide_eq_true_iff]; exact ⟨hn, hY.trans hyx⟩)
          rw [hyx, cmpEq] at hcf
          subst hyx
          clear hY HE
          go_wp2_with (first | (go_at_call 105; refine (hcf _).mono ?_; rintro e w3 ⟨rfl, hb3⟩))
          go_ret2
          exact ⟨by rw [HX.out, HB.out]; first | rfl | simp [*], below_trans' hbw hbw.size hb3⟩
        · have HB := Lib.hid (show zs.contains x = false by rw [HE.out.2, decide_eq_false_iff_not]; exact fun h => hyx (hY ▸ h.2))
          have hnz : (Lib.compareInt y x == 0) = false := by
            rw [beq_eq_false_iff_ne]
            by_cases h : y < x
            · rw [cmpLt h]; omega
            · rw [cmpGt (by omega)]; omega
          generalize Lib.compareInt y x = r at *
          clear hY HE
          go_wp2_with (first | (go_at_call 105; refine (hcf _).mono ?_; rintro e w3 ⟨rfl, hb3⟩))
          go_ret2
          exact ⟨by rw [HX.out, HB.out]; first | rfl | simp [*], below_trans' hbw hbw.size hb3⟩
      · have HB := Lib.hid (show zs.contains x = false by rw [HE.out.2, decide_eq_false_iff_not]; exact fun h => hn h.1)
        clear ha HE
        go_wp2_with fail
        go_ret2
        exact ⟨by rw [HX.out, HB.out]; first | rfl | simp [*], hbw⟩
set_option maxRecDepth 100000 in
theorem cmpp_any (y v : Int) (x : Int) (w : World) : Calls Tryz.prog 139 #[.agg #[.int .i64 y, .int .i64 v], .int .i64 x] w fun er w' => er = .returned (.int .i64 (Lib.compareInt y x)) ∧ Below w.heap.size w w' := by
  have N := Blk.new w 91 #[.int .i64 y, .int .i64 v]
  have hb := (Below.refl w.heap.size w).alloc (Nat.le_refl _) (.cells #[.int .i64 y, .int .i64 v] 91)
  have q0 := N.cell 0 rfl
  have hcc := fun W => Tryz.cmp_Compare_int y x W
  generalize Lib.compareInt y x = r at *
  go_enter Tryz.func139, Tryz.ntmps139
  go_wp2_with (first | (go_at_call 106; refine (hcc _).mono ?_; rintro er w2 ⟨rfl, rfl⟩))
  go_ret
  exact ⟨rfl, hb⟩
set_option maxHeartbeats 8000000 in
set_option maxRecDepth 1000000 in
theorem bsfp_any (A : Option Addr) (n c : Nat) (es : List Pr) (x : Int) (w : World) (ha : Sl w 2 prC A n es) (hbig : n ≤ 1000000) (hs : (es.map (·.key)).Pairwise (· ≤ ·)) :
    Calls Tryz.prog 138 #[.slice A n c, .int .i64 x, .func (.func 139) #[] #[]] w fun e w' => e = .returned (.tuple #[.int .i64 (ixN (es.map (·.key)) x : Nat), .bool ((es.map (·.key)).contains x)]) ∧ Below w.heap.size w w' := by
  have hl := ha.len
  have hid : ∀ k, k < n → (es.map (·.key)).getD k 0 = (gP2 es k).key := fun k hk => by
    unfold gP2
    rw [List.getD_eq_getElem?_getD, List.getD_eq_getElem?_getD, List.getElem?_map]
    cases h : es[k]? with
    | none => rfl
    | some e => rfl
  have hzl : (es.map (·.key)).length = n := by rw [List.length_map]; exact hl
  have HI := Lib.hid hid
  clear hid
  generalize es.map (·.key) = zs at *
  have htk : zs.take n = zs := by rw [← hzl, List.take_length]
  have S := Lib.hid (Go.Lib.sorted_at zs n (by omega) (by rw [htk]; exact hs))
  have E0 := Lib.hid (fun i (hi : i ≤ n) h1 h2 => Go.Lib.search_end zs n i x (by omega) hi h1 h2 S.out)
  rw [htk] at E0
  clear hs htk hl hzl
  go_enter Tryz.func138, Tryz.ntmps138
  go_wp2_with fail
  go_loopg [9, 10] n (fun g s9 s10 wr => ∃ lo hi : Nat, s9 = .int .i64 lo ∧ s10 = .int .i64 hi ∧ lo ≤ hi ∧ hi ≤ n ∧ hi - lo ≤ g ∧ Below w.heap.size w wr ∧ (∀ t, t < lo → zs.getD t 0 < x) ∧ (∀ t, hi ≤ t → t < n → x ≤ zs.getD t 0))
  case atStart => exact ⟨0, n, rfl, rfl, Nat.zero_le _, Nat.le_refl _, by omega, Below.refl _ _, fun t ht => absurd ht (Nat.not_lt_zero _), fun t h1 h2 => by omega⟩
  case round =>
    obtain ⟨lo, hi, rfl, rfl, hlh, hin, hg, hbw, h1, h2⟩ := hrel
    have I := Lib.hid (show (∀ t, t < lo → zs.getD t 0 < x) ∧ (∀ t, hi ≤ t → t < n → x ≤ zs.getD t 0) from ⟨h1, h2⟩)
    clear h1 h2
    by_cases hlt : lo < hi
    · obtain ⟨ad, e, hl, c0, c1⟩ := (ha.below hbw).pr (k := (lo + hi) / 2) (by omega)
      have hY := HI.out ((lo + hi) / 2) (by omega)
      subst e
      generalize gP2 es ((lo + hi) / 2) = el at *
      obtain ⟨y, v⟩ := el
      simp only at c0 c1 hY
      have Y := Lib.hid hY
      have hcf := fun W => cmpp_any y v x W
      clear hY
      by_cases hyx : y < x
      · rw [cmpLt hyx] at hcf
        go_wp2_with (first | (go_at_call 139; refine (hcf _).mono ?_; rintro e w3 ⟨rfl, hb3⟩))
        go_roundg (hi - ((lo + hi) / 2 + 1))
        case measure => omega
        case rel =>
          refine ⟨(lo + hi) / 2 + 1, hi, by rw [show ((lo : Int) + (hi : Int)) / 2 + 1 = (((lo + hi) / 2 + 1 : Nat) : Int) by omega], rfl, by omega, hin, Nat.le_refl _, below_trans' hbw hbw.size hb3, fun t ht => ?_, I.out.2⟩
          have := S.out t ((lo + hi) / 2) (by omega) (by omega)
          rw [Y.out] at this
          omega
      · have hnn : ¬ Lib.compareInt y x < 0 := by
          by_cases e : y = x
          · rw [e, cmpEq]; omega
          · rw [cmpGt (by omega)]; omega
        generalize Lib.compareInt y x = r at *
        go_wp2_with (first | (go_at_call 139; refine (hcf _).mono ?_; rintro e w3 ⟨rfl, hb3⟩))
        go_roundg ((lo + hi) / 2 - lo)
        case measure => omega
        case rel =>
          refine ⟨lo, (lo + hi) / 2, rfl, by rw [show ((lo : Int) + (hi : Int)) / 2 = (((lo + hi) / 2 : Nat) : Int) by omega], by omega, by omega, Nat.le_refl _, below_trans' hbw hbw.size hb3, I.out.1, fun t ht htn => ?_⟩
          have := S.out ((lo + hi) / 2) t ht htn
          rw [Y.out] at this
          omega
    · have hh : hi = lo := by omega
      subst hh
      have E := E0.out hi hin I.out.1 I.out.2
      have HE := Lib.hid E
      clear E
      have HX := Lib.hid (show ixN zs x = hi from HE.out.1)
      by_cases hn : hi < n
      · obtain ⟨ad, e, hl, c0, c1⟩ := (ha.below hbw).pr hn
        have hY := HI.out hi hn
        subst e
        generalize gP2 es hi = el at *
        obtain ⟨y, v⟩ := el
        simp only at c0 c1 hY
        have hcf := fun W => cmpp_any y v x W
        by_cases hyx : y = x
        · have HB := Lib.hid (show zs.contains x = true by rw [HE.out.2, decide_eq_true_iff]; exact ⟨hn, hY.trans hyx⟩)
          rw [hyx, cmpEq] at hcf
          subst hyx
          clear hY HE
          go_wp2_with (first | (go_at_call 139; refine (hcf _).mono ?_; rintro e w3 ⟨rfl, hb3⟩))
          go_ret2
          exact ⟨by rw [HX.out, HB.out]; first | rfl | simp [*], below_trans' hbw hbw.size hb3⟩
        · have HB := Lib.hid (show zs.contains x = false by rw [HE.out.2, decide_eq_false_iff_not]; exact fun h => hyx (hY ▸ h.2))
          have hnz : (Lib.compareInt y x == 0) = false := by
            rw [beq_eq_false_iff_ne]
            by_cases h : y < x
            · rw [cmpLt h]; omega
            · rw [cmpGt (by omega)]; omega
          generalize Lib.compareInt y x = r at *
          clear hY HE
          go_wp2_with (first | (go_at_call 139; refine (hcf _).mono ?_; rintro e w3 ⟨rfl, hb3⟩))
          go_ret2
          exact ⟨by rw [HX.out, HB.out]; first | rfl | simp [*], below_trans' hbw hbw.size hb3⟩
      · have HB := Lib.hid (show zs.contains x = false by rw [HE.out.2, decide_eq_false_iff_not]; exact fun h => hn h.1)
        clear ha HE
        go_wp2_with fail
        go_ret2
        exact ⟨by rw [HX.out, HB.out]; first | rfl | simp [*], hbw⟩
def kyA (k : Ky) : Array Value := (kyC k).toArray
theorem kyA_one (k : Ky) : (kyA k).all (·.oneCell') = true := by simp [kyA, kyC, Value.oneCell']
/-- the entry of a key. -/
def kyF (x : Int) : Ky := if kyN.contains x = true then gK kyL (ixN kyN x) else kyZ
theorem kyN_sorted : kyN.Pairwise (· ≤ ·) := by unfold kyN; decide +kernel
theorem kyN_len : kyN.length = 45 := by decide +kernel
theorem ixN_lt {zs : List Int} {x : Int} (hs : zs.Pairwise (· ≤ ·)) (h : zs.contains x = true) : ixN zs x < zs.length ∧ zs.getD (ixN zs x) 0 = x := by
  have S := Go.Lib.sorted_at zs zs.length (Nat.le_refl _) (by rw [List.take_length]; exact hs)
  have hlt : ixN zs x < zs.length := by
    rcases Nat.lt_or_ge (ixN zs x) zs.length with h1 | h1
    · exact h1
    · exfalso
      have hx : x ∈ zs := by simpa using h
      have hle : zs.countP (· < x) ≤ zs.length := List.countP_le_length
      have he : zs.countP (· < x) = zs.length := Nat.le_antisymm hle h1
      have := (List.countP_eq_length.1 he) x hx
      simp at this
  have h1 : ∀ t, t < ixN zs x → zs.getD t 0 < x := by
    intro t ht
    rcases Int.lt_or_le (zs.getD t 0) x with h2 | h2
    · exact h2
    · exfalso
      have key : ∀ (zs : List Int) (t : Nat), zs.Pairwise (· ≤ ·) → t < zs.length → x ≤ zs.getD t 0 → zs.countP (· < x) ≤ t := by
        intro zs
        induction zs with
        | nil => intro t _ h; simp at h
        | cons z zs ih =>
          intro t hp ht hx
          rw [List.pairwise_cons] at hp
          rcases t with _ | t
          · have hz : x ≤ z := by simpa using hx
            have : (z :: zs).countP (· < x) = 0 := by
              rw [List.countP_eq_zero]
              intro y hy
              simp only [decide_eq_true_eq]
              rcases List.mem_cons.1 hy with rfl | hy
              · omega
              · have := hp.1 y hy; omega
            omega
          · have := ih t hp.2 (by simpa using ht) (by simpa using hx)
            rw [List.countP_cons]
            split <;> omega
      have := key zs t hs (by omega) h2
      unfold ixN at ht
      omega
  refine ⟨hlt, ?_⟩
  have h2 : x ≤ zs.getD (ixN zs x) 0 := by
    rcases Int.lt_or_le (zs.getD (ixN zs x) 0) x with h2 | h2
    · exfalso
      have key : ∀ (zs : List Int) (t : Nat), t < zs.length → zs.Pairwise (· ≤ ·) → zs.getD t 0 < x → t + 1 ≤ zs.countP (· < x) := by
        intro zs
        induction zs with
        | nil => intro t h; simp at h
        | cons z zs ih =>
          intro t ht hp hx
          rw [List.pairwise_cons] at hp
          rcases t with _ | t
          · have hz : z < x := by simpa using hx
            rw [List.countP_cons, if_pos (by simpa using hz)]; omega
          · have h3 := ih t (by simpa using ht) hp.2 (by simpa using hx)
            have hz : z < x := by
              have hm : zs.getD t 0 ∈ zs := by rw [List.getD_eq_getElem?_getD, List.getElem?_eq_getElem (by simpa using ht)]; exact List.getElem_mem _
              have := hp.1 _ hm
              have hx' : zs.getD t 0 < x := by simpa using hx
              omega
            rw [List.countP_cons, if_pos (by simpa using hz)]; omega
      have := key zs _ hlt hs h2
      unfold ixN at this
      omega
    · exact h2
  have hx : x ∈ zs := by simpa using h
  obtain ⟨i, hi, he⟩ := List.mem_iff_getElem.1 hx
  have hd : zs.getD i 0 = x := by rw [List.getD_eq_getElem?_getD, List.getElem?_eq_getElem hi]; exact he
  rcases Nat.lt_or_ge i (ixN zs x) with h3 | h3
  · have := h1 i h3; omega
  · have := S (ixN zs x) i h3 hi
    omega
theorem getK_num (k : Nat) : (gK kyL k).num = kyN.getD k 0 := by
  unfold gK kyN
  rw [List.getD_eq_getElem?_getD, List.getD_eq_getElem?_getD, List.getElem?_map]
  cases h : kyL[k]? with
  | none => rfl
  | some e => rfl
theorem table_any2 (w : World) : Calls Tryz.prog 103 #[] w fun e w' => ∃ (A : Option Addr) (c : Nat), e = .returned (.slice A 45 c) ∧ Sl w' 6 kyC A 45 kyL ∧ Below w.heap.size w w' := by
  refine (table_any w).mono ?_
  rintro e w2 ⟨g, rfl, hg, hb⟩
  exact ⟨_, _, rfl, hg.slq kyC_len rfl, hb⟩
set_option maxHeartbeats 4000000 in
set_option maxRecDepth 100000 in
theorem find_key_any (x : Int) (w : World) : Calls Tryz.prog 71 #[.int .i64 x] w fun e w' => e = .returned (.tuple #[.agg (kyC (kyF x)).toArray, .bool (kyN.contains x)]) ∧ Below w.heap.size w w' := by
  have HF := Lib.hid (show kyF x = if kyN.contains x = true then gK kyL (ixN kyN x) else kyZ from rfl)
  have hbs := fun (W : World) (A : Option Addr) (c : Nat) (h : Sl W 6 kyC A 45 kyL) => bsfk_any A 45 c kyL x W h (by omega) kyN_sorted
  have hix := fun h : kyN.contains x = true => (ixN_lt kyN_sorted h).1
  rw [kyN_len] at hix
  have hN : kyL.map (·.num) = kyN := rfl
  rw [hN] at hbs
  have B0 := Blk.new w 160 #[.int .i64 0, .int .i64 0, .int .i64 0, .int .i64 0, .int .i64 0, .string ⟨#[]⟩]
  have hb0 := (Below.refl w.heap.size w).alloc (Nat.le_refl _) (.cells #[.int .i64 0, .int .i64 0, .int .i64 0, .int .i64 0, .int .i64 0, .string ⟨#[]⟩] 160)
  have hta := fun W => table_any2 W
  generalize kyL = L at *
  generalize kyN.contains x = bx at *
  generalize ixN kyN x = ix at *
  clear hN
  go_enter Tryz.func71, Tryz.ntmps71
  cases bx
  · have hk : kyF x = kyZ := HF.out.trans (if_neg (by simp))
    go_wp2_with (first | (go_at_call 103; refine (hta _).mono ?_; rintro e w2 ⟨At, ct, rfl, hs, hb2⟩; have B2 := B0.below hb2) | (go_at_call 104; refine (hbs _ _ _ hs).mono ?_; rintro e w3 ⟨rfl, hb3⟩; have B3 := B2.below hb3; unfold Blk at B3) | (refine wpList_store_row rfl 160 _ _ rfl w.heap.size (kyA kyZ) rfl rfl 160 _ B3 (by kernel_rfl) rfl (kyA_one _) ?_))
    refine bodyPost_ret (results_cell_tmp rfl _ _ w.heap.size 160 _ (0, 0) _ rfl (setRow_heap _ w.heap.size _ _ _ _ B3) Tryz.underlying160 rfl (by kernel_rfl)) rfl ?_
    rw [hk]
    exact ⟨rfl, below_setRow (below_trans' (below_trans' hb0 hb0.size hb2) (Nat.le_trans hb0.size hb2.size) hb3) (Nat.le_refl _) _⟩
  · have hk : kyF x = gK L ix := HF.out.trans (if_pos rfl)
    have hi := hix rfl
    go_upto_region 3 with (first | (go_at_call 103; refine (hta _).mono ?_; rintro e w2 ⟨At, ct, rfl, hs, hb2⟩; have B2 := B0.below hb2) | (go_at_call 104; refine (hbs _ _ _ hs).mono ?_; rintro e w3 ⟨rfl, hb3⟩; have B3 := B2.below hb3; unfold Blk at B3))
    obtain ⟨ad, e, hl, c0, c1, c2, c3, c4, c5⟩ := (hs.below hb3).ky hi
    subst e
    have hK := Lib.hid hk
    clear hk HF hs hta hbs
    generalize gK L ix = k at *
    go_wp2_with (refine wpList_store_row rfl 160 _ _ rfl w.heap.size (kyA k) rfl rfl 160 _ B3 (by kernel_rfl) rfl (kyA_one _) ?_)
    refine bodyPost_ret (results_cell_tmp rfl _ _ w.heap.size 160 _ (0, 0) _ rfl (setRow_heap _ w.heap.size _ _ _ _ B3) Tryz.underlying160 rfl (by kernel_rfl)) rfl ?_
    rw [hK.out]
    exact ⟨rfl, below_setRow (below_trans' (below_trans' hb0 hb0.size hb2) (Nat.le_trans hb0.size hb2.size) hb3) (Nat.le_refl _) _⟩
end Go.Proofs.YthbodpjkckminaaGreatDoor

namespace Go.Proofs.YthbodpjkckminaaGreatDoor
open Go.RowKit

/-- a list's definition in memory: its id and its levels' slice. -/
structure LsE where
  id : Int
  A : Option Addr
  n : Nat
  c : Nat
def lsC (e : LsE) : List Value := [.int .i64 e.id, .slice e.A e.n e.c]
theorem lsC_len (e : LsE) : (lsC e).length = 2 := rfl
theorem lsC_one (e : LsE) : ∀ u ∈ lsC e, u.oneCell' = true := by intro u hu; simp [lsC] at hu; rcases hu with rfl | rfl <;> rfl
def gE (es : List LsE) (k : Nat) : LsE := es.getD k ⟨0, none, 0, 0⟩
theorem Sl.ls {w : World} {A : Option Addr} {n : Nat} {xs : List LsE} (h : Sl w 2 lsC A n xs) {k : Nat} (hk : k < n) :
    ∃ ad, A = some ad ∧ ad.block < w.heap.size ∧ w.cell? (ad.add (k * 2)) = some (.int .i64 (gE xs k).id) ∧ w.cell? ⟨(ad.add (k * 2)).block, (ad.add (k * 2)).off + 1, none⟩ = some (.slice (gE xs k).A (gE xs k).n (gE xs k).c) := by
  obtain ⟨ad, e, hl, x, hx, hc⟩ := h.at_ hk
  have hg : gE xs k = x := by unfold gE; rw [List.getD_eq_getElem?_getD, hx]; rfl
  rw [hg]
  have f : ∀ j u, 0 < j → (lsC x)[j]? = some u → w.cell? ⟨(ad.add (k * 2)).block, (ad.add (k * 2)).off + j, none⟩ = some u := fun j u hj hu => by
    have : w.cell? ((ad.add (k * 2)).add j) = w.cell? ⟨(ad.add (k * 2)).block, (ad.add (k * 2)).off + j, none⟩ := by
      unfold Addr.add; simp [Nat.ne_of_gt hj]
    rw [← this, add_add_]; exact hc j u hu
  exact ⟨ad, e, hl, hc 0 _ rfl, f 1 _ (by omega) rfl⟩
theorem cmp_lt {x y : Int} (h : x < y) : Lib.compareInt x y = -1 := by unfold Lib.compareInt; simp [h]
theorem cmp_gt {x y : Int} (h : y < x) : Lib.compareInt x y = 1 := by unfold Lib.compareInt; simp [h]; omega
theorem cmp_eq (x : Int) : Lib.compareInt x x = 0 := by unfold Lib.compareInt; simp
/-- where an id stands among increasing ids, and whether it is there. -/
def ixF (zs : List Int) (x : Int) : Nat := zs.countP (· < x)
end Go.Proofs.YthbodpjkckminaaGreatDoor

namespace Go.Proofs.YthbodpjkckminaaGreatDoor
open Go.RowKit

theorem rangeAt_below {w w' : World} {b o : Nat} {cs : List Value} (hb : Below w.heap.size w w') (h : w.rangeAt b o cs) : w'.rangeAt b o cs := fun j v hv => keep1 hb (h j v hv)
theorem Blk.range_ {w : World} {g : Nat} {t : TypeId} {X : Eff} (h : Blk w g t (effA X)) {lX : List Value} (e : lX = effL X) : w.rangeAt g 0 lX := fun j v hv => by
  subst e
  rw [Nat.zero_add]
  exact h.cell j (by unfold effA; simpa using hv)
theorem bAlloc {w0 w : World} (h : Below w0.heap.size w0 w) (o : Obj) : Below w0.heap.size w0 (w.alloc o) := h.alloc h.size o
theorem bDrew {B : Nat} {w0 w : World} (h : Below B w0 w) : Below B w0 w.drew := ⟨h.os, h.tape, h.output, h.size, h.block⟩
theorem bSetC {w0 w : World} (h : Below w0.heap.size w0 w) {g : Nat} (hg : w0.heap.size ≤ g) (vs : List Value) : Below w0.heap.size w0 (w.setCells g 0 vs) := below_setC h (Nat.le_refl _) hg vs
theorem keepR2 {w0 w : World} {b1 b2 : Nat} {l1 l2 : List Value} (h1 : w0.rangeAt b1 0 l1) (h2 : w0.rangeAt b2 0 l2) (hb : Below w0.heap.size w0 w) : w.rangeAt b1 0 l1 ∧ w.rangeAt b2 0 l2 := ⟨rangeAt_below hb h1, rangeAt_below hb h2⟩
theorem keepR3 {w0 w : World} {b1 b2 b3 : Nat} {l1 l2 l3 : List Value} (h1 : w0.rangeAt b1 0 l1) (h2 : w0.rangeAt b2 0 l2) (h3 : w0.rangeAt b3 0 l3) (hb : Below w0.heap.size w0 w) : w.rangeAt b1 0 l1 ∧ w.rangeAt b2 0 l2 ∧ w.rangeAt b3 0 l3 := ⟨rangeAt_below hb h1, rangeAt_below hb h2, rangeAt_below hb h3⟩
/-- a contract over an old world's slice, at any world that keeps it. -/
theorem at_below {w0 : World} {P : Program} {f : Nat} {args : Array Value} {v : Value} (h : ∀ W, Below w0.heap.size w0 W → Calls P f args W fun e w' => e = .returned v ∧ Below W.heap.size W w') : ∀ W, Below w0.heap.size w0 W → Calls P f args W fun e w' => e = .returned v ∧ Below W.heap.size W w' ∧ Below w0.heap.size w0 w' :=
  fun W hW => (h W hW).mono fun _ _ ⟨he, hb⟩ => ⟨he, hb, below_trans' hW hW.size hb⟩
end Go.Proofs.YthbodpjkckminaaGreatDoor

namespace Go.Proofs.YthbodpjkckminaaGreatDoor
open Go.RowKit

/-- lists in memory: their ids and, each, its levels. -/
structure LsT (w : World) (A : Option Addr) (n : Nat) (es : List LsE) (vs : List (List Lv)) : Prop where
  l : Sl w 2 lsC A n es
  v : ∀ k, k < n → Sl w 4 lvC (gE es k).A (gE es k).n (vs.getD k [])
  c : ∀ k, k < n → (gE es k).n ≤ (gE es k).c
  vl : vs.length = n
theorem LsT.below {w w' : World} {A : Option Addr} {n : Nat} {es : List LsE} {vs : List (List Lv)} (h : LsT w A n es vs) (hb : Below w.heap.size w w') : LsT w' A n es vs :=
  ⟨h.l.below hb, fun k hk => (h.v k hk).below hb, h.c, h.vl⟩
theorem LsT.drewN {w : World} {A : Option Addr} {n : Nat} {es : List LsE} {vs : List (List Lv)} (h : LsT w A n es vs) (q : Nat) : LsT (w.drewN q) A n es vs :=
  ⟨h.l.drewN q, fun k hk => (h.v k hk).drewN q, h.c, h.vl⟩
def idsL (es : List LsE) : List Int := es.map (·.id)
theorem idsL_len (es : List LsE) : (idsL es).length = es.length := List.length_map _
theorem idsL_at {es : List LsE} (k : Nat) : (idsL es).getD k 0 = (gE es k).id := by
  unfold gE idsL
  rw [List.getD_eq_getElem?_getD, List.getD_eq_getElem?_getD, List.getElem?_map]
  cases h : es[k]? with
  | none => rfl
  | some e => rfl
/- the law's find: the first that has the id. -/
def fdP (zs : List Int) (x : Int) : Int := if x ∈ zs then (zs.idxOf x : Nat) else -1
theorem fdP_found {zs : List Int} {x : Int} {i : Nat} (hi : i < zs.length) (he : zs.getD i 0 = x) (hb : ∀ t, t < i → zs.getD t 0 ≠ x) : fdP zs x = i := by
  have hm : x ∈ zs := by
    rw [List.getD_eq_getElem?_getD, List.getElem?_eq_getElem hi] at he
    exact he ▸ List.getElem_mem hi
  unfold fdP
  rw [if_pos hm]
  have h1 : zs.idxOf x < zs.length := List.idxOf_lt_length_iff.2 hm
  have h2 : zs[zs.idxOf x] = x := List.getElem_idxOf h1
  have h3 : ¬ zs.idxOf x < i := fun h => hb _ h (by rw [List.getD_eq_getElem?_getD, List.getElem?_eq_getElem h1]; exact h2)
  have h4 : ¬ i < zs.idxOf x := fun h => by
    have := List.not_of_lt_findIdx (p := (· == x)) (xs := zs) (i := i) h
    rw [List.getD_eq_getElem?_getD, List.getElem?_eq_getElem hi] at he
    simp at he this
    exact this he
  have : zs.idxOf x = i := by omega
  rw [this]
theorem fdP_none {zs : List Int} {x : Int} (hb : ∀ t, t < zs.length → zs.getD t 0 ≠ x) : fdP zs x = -1 := by
  unfold fdP
  rw [if_neg]
  intro hm
  obtain ⟨t, ht, e⟩ := List.mem_iff_getElem.1 hm
  exact hb t ht (by rw [List.getD_eq_getElem?_getD, List.getElem?_eq_getElem ht]; exact e)
end Go.Proofs.YthbodpjkckminaaGreatDoor

namespace Go.Proofs.YthbodpjkckminaaGreatDoor
open Go.RowKit

def grpL (el : Int) : List Int := if el = 1 ∨ el = 4 ∨ el = 5 ∨ el = 6 then [1] else if el = 2 then [1, 2] else if el = 3 then [3] else if el = 7 then [6] else if el = 9 then [4] else if el = 10 then [5] else []
theorem grpL_len (el : Int) : (grpL el).length ≤ 2 := by
  unfold grpL
  repeat' split
  all_goals decide
def kyE (x : Int) : Int := if kyN.contains x = true then 0 else 4
theorem kyF_out {x : Int} (h : kyN.contains x = false) : kyF x = kyZ := if_neg (by rw [h]; simp)
theorem kyE_no {x : Int} (h : kyN.contains x = false) : kyE x = 4 := if_neg (by rw [h]; simp)
theorem kyE_yes {x : Int} (h : kyN.contains x = true) : kyE x = 0 := if_pos h
theorem keepC {w w' : World} {p : Addr} {v : Value} (hb : Below w.heap.size w w') (h : w.cell? p = some v) : w'.cell? p = some v := (hb.cell (World.block_lt_of_cell? _ _ h)).trans h
theorem newInts (w : World) (xs : List Int) : Sl (w.alloc (.cells (xs.flatMap intC).toArray 3)) 1 intC (some ⟨w.heap.size, 0, none⟩) xs.length xs := (Blk.new w 3 _).slq (fun _ => rfl) rfl
theorem alloc1 (w : World) (o : Obj) : Below w.heap.size w (w.alloc o) := (Below.refl w.heap.size w).alloc (Nat.le_refl _) o
/-- a slice that reads as a list is handed back. -/
def RetSl {α : Type} (s : Nat) (enc : α → List Value) (w : World) (xs : List α) (e : Ending) (w' : World) : Prop := ∃ (A : Option Addr) (n c : Nat), e = .returned (.slice A n c) ∧ Sl w' s enc A n xs ∧ Below w.heap.size w w'
set_option maxHeartbeats 4000000 in
set_option maxRecDepth 100000 in
theorem groups_any (el : Int) (w : World) : Calls Tryz.prog 73 #[.int .i64 el] w (RetSl 1 intC w (grpL el)) := by
  have HG := Lib.hid (show grpL el = if el = 1 ∨ el = 4 ∨ el = 5 ∨ el = 6 then [1] else if el = 2 then [1, 2] else if el = 3 then [3] else if el = 7 then [6] else if el = 9 then [4] else if el = 10 then [5] else [] from rfl)
  have H1 := Lib.hid (newInts w [1])
  have H12 := Lib.hid (newInts w [1, 2])
  have H3 := Lib.hid (newInts w [3])
  have H6 := Lib.hid (newInts w [6])
  have H4 := Lib.hid (newInts w [4])
  have H5 := Lib.hid (newInts w [5])
  have HB := Lib.hid (alloc1 w)
  by_cases e1 : el = 1
  · subst e1
    go_enter Tryz.func73, Tryz.ntmps73
    go_wp2_with fail
    go_ret
    exact ⟨_, _, _, rfl, H1.out, HB.out _⟩
  by_cases e4 : el = 4
  · subst e4
    go_enter Tryz.func73, Tryz.ntmps73
    go_wp2_with fail
    go_ret
    exact ⟨_, _, _, rfl, H1.out, HB.out _⟩
  by_cases e5 : el = 5
  · subst e5
    go_enter Tryz.func73, Tryz.ntmps73
    go_wp2_with fail
    go_ret
    exact ⟨_, _, _, rfl, H1.out, HB.out _⟩
  by_cases e6 : el = 6
  · subst e6
    go_enter Tryz.func73, Tryz.ntmps73
    go_wp2_with fail
    go_ret
    exact ⟨_, _, _, rfl, H1.out, HB.out _⟩
  have HG := Lib.hid (HG.out.trans (if_neg (by omega)))
  by_cases e2 : el = 2
  · subst e2
    go_enter Tryz.func73, Tryz.ntmps73
    go_wp2_with fail
    go_ret
    exact ⟨_, _, _, rfl, H12.out, HB.out _⟩
  by_cases e3 : el = 3
  · subst e3
    go_enter Tryz.func73, Tryz.ntmps73
    go_wp2_with fail
    go_ret
    exact ⟨_, _, _, rfl, H3.out, HB.out _⟩
  by_cases e7 : el = 7
  · subst e7
    go_enter Tryz.func73, Tryz.ntmps73
    go_wp2_with fail
    go_ret
    exact ⟨_, _, _, rfl, H6.out, HB.out _⟩
  by_cases e9 : el = 9
  · subst e9
    go_enter Tryz.func73, Tryz.ntmps73
    go_wp2_with fail
    go_ret
    exact ⟨_, _, _, rfl, H4.out, HB.out _⟩
  by_cases e10 : el = 10
  · subst e10
    go_enter Tryz.func73, Tryz.ntmps73
    go_wp2_with fail
    go_ret
    exact ⟨_, _, _, rfl, H5.out, HB.out _⟩
  have HG := Lib.hid (show grpL el = [] by rw [HG.out, if_neg e2, if_neg e3, if_neg e7, if_neg e9, if_neg e10])
  go_enter Tryz.func73, Tryz.ntmps73
  go_wp2_with fail
  go_ret
  exact ⟨_, _, _, rfl, by rw [HG.out]; exact Sl.nil, Below.refl _ _⟩

set_option maxRecDepth 100000 in
theorem indexI_any (A : Option Addr) (n c : Nat) (zs : List Int) (x : Int) (w : World) (ha : Sl w 1 intC A n zs) (hbig : n ≤ 1000000) :
    Calls Tryz.prog 107 #[.slice A n c, .int .i64 x] w fun e w' => e = .returned (.int .i64 (fdP zs x)) ∧ w' = w := by
  have hzl := ha.len
  have HF := Lib.hid (fun (i : Nat) (hi : i < n) (he : gI zs i = x) hb => fdP_found (zs := zs) (x := x) (i := i) (by omega) he hb)
  have HN := Lib.hid (fun (hb : ∀ t, t < n → zs.getD t 0 ≠ x) => fdP_none (zs := zs) (x := x) (by rw [hzl]; exact hb))
  generalize fdP zs x = r at *
  go_enter Tryz.func107, Tryz.ntmps107
  go_wp2_with fail
  go_loopw [8] (fun vi wr => ∃ i : Nat, vi = .int .i64 i ∧ i ≤ n ∧ wr = w ∧ ∀ t, t < i → zs.getD t 0 ≠ x) (fun vi _ => n - (intOf vi).toNat)
  case atStart => exact ⟨0, rfl, Nat.zero_le _, rfl, fun t ht => absurd ht (Nat.not_lt_zero _)⟩
  case round =>
    obtain ⟨i, rfl, hi, rfl, hb⟩ := hrel
    have HB := Lib.hid hb
    clear hb
    by_cases hlt : i < n
    · obtain ⟨ad, e, hl2, k0⟩ := ha.int hlt
      subst e
      by_cases he : gI zs i = x
      · have HR := Lib.hid (HF.out i hlt he HB.out)
        rw [he] at k0
        clear he
        go_wp2_with fail
        go_ret
        exact ⟨by rw [HR.out]; rfl, by trivial⟩
      · have HE := Lib.hid (show zs.getD i 0 ≠ x from he)
        have hne : (x == gI zs i) = false := by rw [beq_eq_false_iff_ne]; exact fun h => he h.symm
        clear he
        generalize gI zs i = y at *
        go_wp2_with fail
        go_roundw
        case rel =>
          refine ⟨i + 1, by simp, hlt, by trivial, fun t ht => ?_⟩
          by_cases e : t = i
          · subst e; exact HE.out
          · exact HB.out t (by omega)
        case measure => rw [intOf, intOf]; omega
    · have hh : i = n := by omega
      subst hh
      have HR := Lib.hid (HN.out HB.out)
      go_wp2_with fail
      go_ret
      exact ⟨by rw [HR.out]; rfl, by trivial⟩
theorem fdP_contains (zs : List Int) (x : Int) : decide (0 ≤ fdP zs x) = zs.contains x := by
  unfold fdP
  by_cases h : x ∈ zs
  · rw [if_pos h]; simp [h]
  · rw [if_neg h]; simp [h]
set_option maxRecDepth 100000 in
theorem containsI_any (A : Option Addr) (n c : Nat) (zs : List Int) (x : Int) (w : World) (ha : Sl w 1 intC A n zs) (hbig : n ≤ 1000000) :
    Calls Tryz.prog 72 #[.slice A n c, .int .i64 x] w fun e w' => e = .returned (.bool (zs.contains x)) ∧ w' = w := by
  have hi := indexI_any A n c zs x w ha hbig
  have HC := Lib.hid (fdP_contains zs x)
  generalize zs.contains x = b at *
  generalize fdP zs x = r at *
  go_enter Tryz.func72, Tryz.ntmps72
  go_wp2_with (first | (go_at_call 107; refine hi.mono ?_; rintro e w3 ⟨rfl, rfl⟩))
  go_ret
  exact ⟨by rw [← HC.out]; rfl, by trivial⟩

set_option maxHeartbeats 4000000 in
set_option maxRecDepth 100000 in
theorem group_any (x : Int) (w : World) : Calls Tryz.prog 160 #[.int .i64 x] w fun e w' => e = .returned (.tuple #[.int .i64 (kyF x).grp, .int .i64 (kyE x)]) ∧ Below w.heap.size w w' := by
  have hf := fun W => find_key_any x W
  have HN := Lib.hid (fun h => show (kyF x).grp = 0 ∧ kyE x = 4 from ⟨by rw [kyF_out h]; rfl, kyE_no h⟩)
  have HY := Lib.hid (fun h => kyE_yes (x := x) h)
  generalize kyN.contains x = b at *
  generalize kyF x = k at *
  generalize kyE x = e0 at *
  obtain ⟨k0, k1, k2, k3, k4, k5⟩ := k
  simp only [kyC] at hf HN ⊢
  cases b
  · obtain ⟨r1, r2⟩ := HN.out rfl
    go_enter Tryz.func160, Tryz.ntmps160
    go_wp2_with (go_at_call 71; refine (hf _).mono ?_; rintro e w2 ⟨rfl, hb2⟩)
    go_ret2
    exact ⟨by rw [r1, r2]; rfl, hb2.alloc hb2.size _⟩
  · have r2 := HY.out rfl
    go_enter Tryz.func160, Tryz.ntmps160
    go_wp2_with (go_at_call 71; refine (hf _).mono ?_; rintro e w2 ⟨rfl, hb2⟩)
    go_ret2
    exact ⟨by rw [r2]; rfl, hb2.alloc hb2.size _⟩
set_option maxHeartbeats 4000000 in
set_option maxRecDepth 100000 in
theorem default_any (x : Int) (w : World) : Calls Tryz.prog 75 #[.int .i64 x] w fun e w' => e = .returned (.tuple #[.int .i64 (kyF x).std, .int .i64 (kyE x)]) ∧ Below w.heap.size w w' := by
  have hf := fun W => find_key_any x W
  have HN := Lib.hid (fun h => show (kyF x).std = 0 ∧ kyE x = 4 from ⟨by rw [kyF_out h]; rfl, kyE_no h⟩)
  have HY := Lib.hid (fun h => kyE_yes (x := x) h)
  generalize kyN.contains x = b at *
  generalize kyF x = k at *
  generalize kyE x = e0 at *
  obtain ⟨k0, k1, k2, k3, k4, k5⟩ := k
  simp only [kyC] at hf HN ⊢
  cases b
  · obtain ⟨r1, r2⟩ := HN.out rfl
    go_enter Tryz.func75, Tryz.ntmps75
    go_wp2_with (go_at_call 71; refine (hf _).mono ?_; rintro e w2 ⟨rfl, hb2⟩)
    go_ret2
    exact ⟨by rw [r1, r2]; rfl, hb2.alloc hb2.size _⟩
  · have r2 := HY.out rfl
    go_enter Tryz.func75, Tryz.ntmps75
    go_wp2_with (go_at_call 71; refine (hf _).mono ?_; rintro e w2 ⟨rfl, hb2⟩)
    go_ret2
    exact ⟨by rw [r2]; rfl, hb2.alloc hb2.size _⟩
/-- the error of a value of a key. -/
def cvE (x v : Int) : Int := if kyN.contains x = false then 4 else if v < (kyF x).low ∨ (kyF x).high < v then 5 else 0
set_option maxHeartbeats 4000000 in
set_option maxRecDepth 100000 in
theorem checkValue_any (x v : Int) (w : World) : Calls Tryz.prog 37 #[.int .i64 x, .int .i64 v] w fun e w' => e = .returned (.int .i64 (cvE x v)) ∧ Below w.heap.size w w' := by
  have hf := fun W => find_key_any x W
  have HC := Lib.hid (show cvE x v = if kyN.contains x = false then 4 else if v < (kyF x).low ∨ (kyF x).high < v then 5 else 0 from rfl)
  generalize kyN.contains x = b at *
  generalize kyF x = k at *
  obtain ⟨k0, k1, k2, k3, k4, k5⟩ := k
  simp only [kyC] at hf HC
  cases b
  · have HC := Lib.hid (HC.out.trans (if_pos rfl))
    go_enter Tryz.func37, Tryz.ntmps37
    go_wp2_with (go_at_call 71; refine (hf _).mono ?_; rintro e w2 ⟨rfl, hb2⟩)
    go_ret
    exact ⟨by rw [HC.out]; rfl, hb2.alloc hb2.size _⟩
  · have HC := Lib.hid (HC.out.trans (if_neg (by simp)))
    by_cases hl : v < k2
    · have HC := Lib.hid (HC.out.trans (if_pos (.inl hl)))
      go_enter Tryz.func37, Tryz.ntmps37
      go_wp2_with (go_at_call 71; refine (hf _).mono ?_; rintro e w2 ⟨rfl, hb2⟩)
      go_ret
      exact ⟨by rw [HC.out]; rfl, hb2.alloc hb2.size _⟩
    · by_cases hh : k3 < v
      · have HC := Lib.hid (HC.out.trans (if_pos (.inr hh)))
        go_enter Tryz.func37, Tryz.ntmps37
        go_wp2_with (go_at_call 71; refine (hf _).mono ?_; rintro e w2 ⟨rfl, hb2⟩)
        go_ret
        exact ⟨by rw [HC.out]; rfl, hb2.alloc hb2.size _⟩
      · have HC := Lib.hid (HC.out.trans (if_neg (by omega)))
        go_enter Tryz.func37, Tryz.ntmps37
        go_wp2_with (go_at_call 71; refine (hf _).mono ?_; rintro e w2 ⟨rfl, hb2⟩)
        go_ret
        exact ⟨by rw [HC.out]; rfl, hb2.alloc hb2.size _⟩
/-- whether elements of a kind have a key. -/
def fitsB (el x : Int) : Bool := kyN.contains x && (grpL el).contains (kyF x).grp
set_option maxHeartbeats 4000000 in
set_option maxRecDepth 100000 in
theorem fits_any (el x : Int) (w : World) : Calls Tryz.prog 36 #[.int .i64 el, .int .i64 x] w fun e w' => e = .returned (.bool (fitsB el x)) ∧ Below w.heap.size w w' := by
  have hf := fun W => find_key_any x W
  have HC := Lib.hid (show fitsB el x = (kyN.contains x && (grpL el).contains (kyF x).grp) from rfl)
  have hgl := grpL_len el
  generalize kyN.contains x = b at *
  generalize kyF x = k at *
  obtain ⟨k0, k1, k2, k3, k4, k5⟩ := k
  simp only [kyC] at hf HC
  cases b
  · have HC := Lib.hid (show fitsB el x = false by rw [HC.out]; rfl)
    go_enter Tryz.func36, Tryz.ntmps36
    go_upto_region 2 with (go_at_call 71; refine (hf _).mono ?_; rintro e w2 ⟨rfl, hb2⟩)
    go_region
    go_wp2_with fail
    go_ret
    exact ⟨by rw [HC.out]; rfl, below_drewN (hb2.alloc hb2.size _) _⟩
  · have HC := Lib.hid (show fitsB el x = (grpL el).contains k1 by rw [HC.out]; rfl)
    have hg := fun W => groups_any el W
    go_enter Tryz.func36, Tryz.ntmps36
    go_upto_region 2 with (go_at_call 71; refine (hf _).mono ?_; rintro e w2 ⟨rfl, hb2⟩)
    have B2 := Blk.new w2 160 #[.int .i64 k0, .int .i64 k1, .int .i64 k2, .int .i64 k3, .int .i64 k4, .string k5]
    have hb3 := hb2.alloc hb2.size (.cells #[.int .i64 k0, .int .i64 k1, .int .i64 k2, .int .i64 k3, .int .i64 k4, .string k5] 160)
    have c1 := B2.cell 1 rfl
    generalize w2.alloc (.cells #[.int .i64 k0, .int .i64 k1, .int .i64 k2, .int .i64 k3, .int .i64 k4, .string k5] 160) = w3 at *
    generalize w2.heap.size = p at *
    have hcn := fun (W : World) (A : Option Addr) (n c : Nat) (h : Sl W 1 intC A n (grpL el)) => containsI_any A n c (grpL el) k1 W h (by have := h.len; omega)
    generalize (grpL el).contains k1 = bb at *
    go_region_held3 (fun w' => w'.cell? ⟨p, 1, none⟩ = some (.int .i64 k1))
      (first | (with_reducible exact r5) | go_keep)
      (first
        | (go_at_call 73; refine (hg _).mono ?_; rintro er w5 ⟨A, n, c, rfl, hs5, hb5⟩; have r5 : w5.cell? ⟨p, 1, none⟩ = some (.int .i64 k1) := keepC (nbDrew (q := 1) hb5) c1)
        | (go_at_call 72; refine (hcn _ _ _ _ hs5).mono ?_; rintro er w6 ⟨rfl, rfl⟩))
    all_goals
      go_wp2_with fail
      go_ret
      exact ⟨by rw [HC.out]; rfl, below_trans' hb3 hb3.size (nbDrew (q := 1) hb5)⟩
end Go.Proofs.YthbodpjkckminaaGreatDoor
