/- Contents, contents of the model. -/
import Derived.Test.YtbeollddmglkcaaA6
namespace Go.Proofs.Ytbeollddmglkcaa
open Go.RowKit

def hd0 : Hd := ⟨0, 0, 0, .empty, .empty⟩
def gH (hs : List Hd) (k : Nat) : Hd := hs.getD k hd0
theorem gH_some {hs : List Hd} {k : Nat} (h : k < hs.length) : hs[k]? = some (gH hs k) := by
  unfold gH; rw [List.getD_eq_getElem?_getD, List.getElem?_eq_getElem h]; rfl
theorem lvs_gH {hs : List Hd} {k : Nat} (h : k < hs.length) : lvs hs k = (gH hs k).level := by unfold lvs; rw [gH_some h]; rfl
structure En where
  h : Hd
  depth : Int
def enC (e : En) : List Value := [.int .i64 e.h.flow, .int .i64 e.h.pos, .int .i64 e.h.level, .string e.h.label, .string e.h.title, .int .i64 e.depth]
theorem enC_len (x : En) : (enC x).length = 6 := rfl
theorem enC_one (x : En) : ∀ u ∈ enC x, u.oneCell' = true := by intro u hu; simp [enC] at hu; rcases hu with rfl | rfl | rfl | rfl | rfl | rfl <;> rfl
theorem elemE : Elem Try.prog 34 39 6 64 := Elem.mk Try.underlying34 (z := .agg #[.int .i64 0, .int .i64 0, .int .i64 0, .string .empty, .string .empty, .int .i64 0]) (by kernel_rfl) rfl (by omega)
def keptB (a b : Int) (h : Hd) : Bool := decide (a ≤ h.level) && decide (h.level ≤ b)
def entry (hs : List Hd) (i : Nat) : En := ⟨gH hs i, (pathOf (lvs hs) i).length⟩
def entries (hs : List Hd) : List En := (List.range hs.length).map (entry hs)
theorem take_snocH {hs : List Hd} {k : Nat} (h : k < hs.length) : hs.take (k + 1) = hs.take k ++ [gH hs k] := by rw [List.take_add_one, gH_some h]; rfl
theorem filt_snoc {hs : List Hd} {k : Nat} {p : Hd → Bool} (h : k < hs.length) : (hs.take (k + 1)).filter p = (hs.take k).filter p ++ (if p (gH hs k) then [gH hs k] else []) := by
  rw [take_snocH h, List.filter_append]
  by_cases hp : p (gH hs k) = true <;> simp [hp]
theorem filt_len (hs : List Hd) (k : Nat) (p : Hd → Bool) : ((hs.take k).filter p).length ≤ k := by
  have h1 := List.length_filter_le p (hs.take k)
  have h2 : (hs.take k).length ≤ k := List.length_take_le ..
  omega
theorem Sl.hdk {w : World} {A : Option Addr} {n : Nat} {hs : List Hd} (h : Sl w 5 hdC A n hs) {k : Nat} (hk : k < n) :
    ∃ ad, A = some ad ∧ ad.block < w.heap.size ∧ w.cell? (ad.add (k * 5)) = some (.int .i64 (gH hs k).flow) ∧ w.cell? ⟨(ad.add (k * 5)).block, (ad.add (k * 5)).off + 1, none⟩ = some (.int .i64 (gH hs k).pos) ∧ w.cell? ⟨(ad.add (k * 5)).block, (ad.add (k * 5)).off + 2, none⟩ = some (.int .i64 (gH hs k).level) ∧
      w.cell? ⟨(ad.add (k * 5)).block, (ad.add (k * 5)).off + 3, none⟩ = some (.string (gH hs k).label) ∧ w.cell? ⟨(ad.add (k * 5)).block, (ad.add (k * 5)).off + 4, none⟩ = some (.string (gH hs k).title) := by
  obtain ⟨ad, x, e, hl, hx, q⟩ := h.hd hk
  have : x = gH hs k := by rw [gH_some (by rw [h.len]; exact hk)] at hx; injection hx with hx; exact hx.symm
  subst this
  exact ⟨ad, e, hl, q⟩

set_option maxHeartbeats 1000000 in
theorem contents_none (A : Option Addr) (n c : Nat) (a b : Int) (w : World) (h : a < 1 ∨ b < a ∨ 9 < b) :
    Calls Try.prog 13 #[.slice A n c, .int .i64 a, .int .i64 b] w fun e w' => e = .returned (.tuple #[.slice none 0 0, .int .i64 2]) ∧ Below w.heap.size w w' := by
  by_cases h1 : a < 1
  · go_enter Try.func13, Try.ntmps13
    go_wp2_with fail
    go_ret2
    exact ⟨rfl, Below.refl _ _⟩
  · by_cases h2 : b < a
    · go_enter Try.func13, Try.ntmps13
      go_wp2_with fail
      go_ret2
      exact ⟨rfl, Below.refl _ _⟩
    · have h3 : 9 < b := by omega
      go_enter Try.func13, Try.ntmps13
      go_wp2_with fail
      go_ret2
      exact ⟨rfl, Below.refl _ _⟩

set_option maxHeartbeats 1000000 in
theorem contents_any (A : Option Addr) (n c : Nat) (hs : List Hd) (a b : Int) (w : World) (ha : Sl w 5 hdC A n hs) (hn : n ≤ 65536) (h1 : ¬ a < 1) (h2 : ¬ b < a) (h3 : ¬ 9 < b) :
    Calls Try.prog 13 #[.slice A n c, .int .i64 a, .int .i64 b] w fun e w' => ∃ A' c', e = .returned (.tuple #[.slice A' (hs.filter (keptB a b)).length c', .int .i64 0]) ∧
      Own w' w.heap.size 39 6 enC A' (hs.filter (keptB a b)).length c' (entries (hs.filter (keptB a b))) ∧ Below w.heap.size w w' := by
  go_enter Try.func13, Try.ntmps13
  go_wp2_with fail
  go_loopw [8, 28] (fun vo vi wr => ∃ (k : Nat) (A1 : Option Addr) (c1 : Nat), k ≤ n ∧ vi = .int .i64 k ∧ vo = .slice A1 ((hs.take k).filter (keptB a b)).length c1 ∧ Own wr w.heap.size 32 5 hdC A1 ((hs.take k).filter (keptB a b)).length c1 ((hs.take k).filter (keptB a b)) ∧ Below w.heap.size w wr) (fun _ i _ => n - (intOf i).toNat)
  case atStart => exact ⟨0, none, 0, Nat.zero_le _, rfl, rfl, Own.nil_ _ _ _ _ _, Below.refl _ _⟩
  case round =>
    obtain ⟨k, A1, c1, hk, rfl, rfl, ho, hbw⟩ := hrel
    have hlen := ha.len
    by_cases hlt : k < n
    · obtain ⟨ad, rfl, hl, q0, q1, q2, q3, q4⟩ := (ha.below hbw).hdk hlt
      have hfl := filt_len hs k (keptB a b)
      have hsn := filt_snoc (p := keptB a b) (show k < hs.length by omega)
      clear hlen
      by_cases hp : a ≤ (gH hs k).level ∧ (gH hs k).level ≤ b
      · have hkp : keptB a b (gH hs k) = true := by unfold keptB; rw [decide_eq_true hp.1, decide_eq_true hp.2]; rfl
        rw [if_pos hkp] at hsn
        have HS := Lib.hid hsn
        obtain ⟨hp1, hp2⟩ := hp
        clear hsn hkp
        go_wp2_with (at_builtin; refine wpList_push elemH rfl (.tmp 42) (.tmp 44) rfl rfl _ rfl ((ho.alloc _).alloc _) (gH hs k) _ rfl (by simp) (hdC_one _) rfl (by unfold maxLen; omega) (Nat.le_trans hbw.size (by simp; omega)) ?_; intro A1' c1' w1 ho2 hg2 ha2)
        go_roundw
        case rel =>
          have hl : ((hs.take k).filter (keptB a b)).length + 1 = ((hs.take (k + 1)).filter (keptB a b)).length := by rw [HS.out]; simp
          exact ⟨k + 1, A1', c1', by omega, by go_num, by rw [hl], by rw [← hl, HS.out]; exact ho2, ((hbw.alloc hbw.size _).alloc (Nat.le_trans hbw.size (by simp)) _).grown hg2 (Nat.le_trans hbw.size (by simp; omega)) (fun g hg => (ho.lt g hg).1)⟩
        case measure => simp [intOf]; omega
      · have hkp : keptB a b (gH hs k) = false := by
          unfold keptB
          by_cases hq : a ≤ (gH hs k).level
          · rw [decide_eq_true hq, decide_eq_false (fun h => hp ⟨hq, h⟩)]; rfl
          · rw [decide_eq_false hq]; rfl
        rw [if_neg (by rw [hkp]; exact Bool.false_ne_true), List.append_nil] at hsn
        have HS := Lib.hid hsn
        clear hsn hkp
        by_cases hq : a ≤ (gH hs k).level
        · have hq2 : b < (gH hs k).level := by
            by_cases h : (gH hs k).level ≤ b
            · exact absurd ⟨hq, h⟩ hp
            · omega
          clear hp
          go_wp2_with fail
          go_roundw
          case rel => exact ⟨k + 1, A1, c1, by omega, by go_num, by rw [HS.out], by rw [HS.out]; exact ho.alloc _, hbw.alloc hbw.size _⟩
          case measure => simp [intOf]; omega
        · have hq2 : (gH hs k).level < a := by omega
          clear hp hq
          go_wp2_with fail
          go_roundw
          case rel => exact ⟨k + 1, A1, c1, by omega, by go_num, by rw [HS.out], by rw [HS.out]; exact ho.alloc _, hbw.alloc hbw.size _⟩
          case measure => simp [intOf]; omega
    · have : k = n := by omega
      subst this
      have hfl := filt_len hs k (keptB a b)
      rw [List.take_of_length_le (by omega)] at ho hfl
      rw [List.take_of_length_le (by omega)]
      clear hlen
      obtain ⟨K, hK⟩ : ∃ K, K = hs.filter (keptB a b) := ⟨_, rfl⟩
      rw [← hK] at ho hfl
      rw [← hK]
      have HK := Lib.hid hK
      clear hK
      obtain ⟨m, hm⟩ : ∃ m, m = K.length := ⟨_, rfl⟩
      rw [← hm] at ho hfl
      rw [← hm]
      have HM := Lib.hid hm
      clear hm
      go_wp2_with (go_at_call 15; refine (parents_any A1 m c1 K wr (ho.sl hdC_len) (by omega)).mono ?_; rintro e w1 ⟨Ap, cp, rfl, hop, hb1⟩)
      have hbw1 := below_trans' hbw hbw.size hb1
      have ho1 := ho.below hb1
      obtain ⟨wo, rfl⟩ : ∃ wo : World, wo = wr := ⟨_, rfl⟩
      go_loopw [11, 50] (fun vo vi w2 => ∃ (k : Nat) (A2 : Option Addr) (c2 : Nat), k ≤ m ∧ vi = .int .i64 k ∧ vo = .slice A2 k c2 ∧ Own w2 w1.heap.size 39 6 enC A2 k c2 ((List.range k).map (entry K)) ∧ Below w1.heap.size w1 w2) (fun _ i _ => m - (intOf i).toNat)
      case atStart => exact ⟨0, none, 0, Nat.zero_le _, rfl, rfl, Own.nil_ _ _ _ _ _, Below.refl _ _⟩
      case round =>
        obtain ⟨k, A2, c2, hk, rfl, rfl, ho2, hbw2⟩ := hrel
        have hb2 := below_trans' hbw1 hbw1.size hbw2
        by_cases hlt : k < m
        · obtain ⟨gp, rfl, _, _, hcp⟩ := (hop.below hbw2).int hlt
          rw [gI_range _ hlt] at hcp
          obtain ⟨ad, rfl, hl, q0, q1, q2, q3, q4⟩ := ((ho1.below hbw2).sl hdC_len).hdk hlt
          have hpl := par_lt (lvs K) k
          have hpe := pathOf_eq (lvs K) k
          by_cases h0 : par (lvs K) k < 0
          · rw [if_pos h0] at hpe
            have HE : Hid (entry K k = ⟨gH K k, 1⟩) := by show entry K k = _; unfold entry; rw [hpe]; rfl
            clear hpe
            go_wp2_with (at_builtin; refine wpList_push elemE rfl (.tmp 63) (.tmp 70) rfl rfl _ rfl (ho2.alloc _) ⟨gH K k, 1⟩ _ rfl rfl (enC_one _) rfl (by unfold maxLen; omega) (Nat.le_trans hbw2.size (by simp)) ?_; intro A3 c3 w3 ho3 hg3 ha3)
            go_roundw
            case rel => exact ⟨k + 1, A3, c3, by omega, by go_num, rfl, by rw [List.range_succ, List.map_append]; rw [← HE.out] at ho3; exact ho3, (hbw2.alloc hbw2.size _).grown hg3 (Nat.le_trans hbw2.size (by simp)) (fun g hg => (ho2.lt g hg).1)⟩
            case measure => simp [intOf]; omega
          · rw [if_neg h0] at hpe
            obtain ⟨j, hj⟩ := Int.eq_ofNat_of_zero_le (by omega : 0 ≤ par (lvs K) k)
            rw [hj, Int.toNat_natCast] at hpe
            rw [hj] at hcp hpl h0
            have HE : Hid (entry K k = ⟨gH K k, (entry K j).depth + 1⟩) := by show entry K k = _; unfold entry; rw [hpe]; simp
            clear hpe hj
            obtain ⟨g2, y, rfl, _, _, hy, hcy⟩ := ho2.field enC_len (k := j) (by omega)
            have hye : y = entry K j := by
              rw [List.getElem?_map, List.getElem?_range (by omega)] at hy
              injection hy with hy; exact hy.symm
            subst hye
            have q5 := hcy 5 _ rfl
            have hdl : (0 : Int) ≤ (entry K j).depth ∧ (entry K j).depth ≤ 65536 := by
              have := pathOf_len (lvs K) j; unfold entry; simp only; omega
            clear hy hcy
            obtain ⟨d, hd⟩ : ∃ d, d = (entry K j).depth := ⟨_, rfl⟩
            rw [← hd] at q5 hdl
            have HE2 : Hid (entry K k = ⟨gH K k, d + 1⟩) := by show entry K k = _; rw [hd]; exact HE.out
            clear HE hd
            go_wp2_with (at_builtin; refine wpList_push elemE rfl (.tmp 63) (.tmp 70) rfl rfl _ rfl (ho2.alloc _) ⟨gH K k, d + 1⟩ _ rfl rfl (enC_one _) rfl (by unfold maxLen; omega) (Nat.le_trans hbw2.size (by simp)) ?_; intro A3 c3 w3 ho3 hg3 ha3)
            go_roundw
            case rel => exact ⟨k + 1, A3, c3, by omega, by go_num, rfl, by rw [List.range_succ, List.map_append]; rw [← HE2.out] at ho3; exact ho3, (hbw2.alloc hbw2.size _).grown hg3 (Nat.le_trans hbw2.size (by simp)) (fun g hg => (ho2.lt g hg).1)⟩
            case measure => simp [intOf]; omega
        · have : k = m := by omega
          subst this
          go_wp2_with fail
          go_ret2
          exact ⟨A2, c2, by rw [← HK.out, ← HM.out]; rfl, by unfold entries; rw [← HK.out, ← HM.out]; exact ho2.base hbw1.size, hb2⟩
end Go.Proofs.Ytbeollddmglkcaa
