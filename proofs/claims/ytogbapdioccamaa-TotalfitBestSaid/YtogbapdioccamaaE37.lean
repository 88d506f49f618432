/- chosen, over. -/
import Derived.Test.YtogbapdioccamaaE36
namespace Go.Proofs.Ytogbapdioccamaa
open Go.RowKit

def ovC : List Ln → Nat
  | [] => 0
  | x :: l => (if 0 < x.over then 1 else 0) + ovC l
theorem ovC_snoc (l : List Ln) (x : Ln) : ovC (l ++ [x]) = ovC l + (if 0 < x.over then 1 else 0) := by
  induction l with
  | nil => simp [ovC]
  | cons y l ih => simp only [List.cons_append, ovC, ih]; omega
theorem ovC_len (l : List Ln) : ovC l ≤ l.length := by
  induction l with
  | nil => exact Nat.le_refl _
  | cons y l ih => simp only [ovC, List.length_cons]; split <;> omega
def gL (l : List Ln) (k : Nat) : Ln := l.getD k ⟨0, 0, 0, 0, 0, 0, 0, 0, 0, 0⟩
theorem gL_some {l : List Ln} {k : Nat} (h : k < l.length) : l[k]? = some (gL l k) := by
  unfold gL; rw [List.getD_eq_getElem?_getD, List.getElem?_eq_getElem h]; rfl

set_option maxRecDepth 100000 in
set_option maxHeartbeats 2000000 in
theorem over_any (A : Option Addr) (n c : Nat) (ls : List Ln) (w : World) (ha : Sl w 10 lnC A n ls) (hn : n ≤ 100000) :
    Calls Try.prog 29 #[.slice A n c] w fun e w' => e = .returned (.int .i64 (ovC ls)) ∧ Below w.heap.size w w' := by
  have hlen := ha.len
  have HL := Lib.hid hlen
  clear hlen
  go_enter Try.func29, Try.ntmps29
  go_wp2_with fail
  go_loopw [3, 4] (fun vn vi wr => ∃ k : Nat, k ≤ n ∧ vi = .int .i64 k ∧ vn = .int .i64 (ovC (ls.take k)) ∧ Below w.heap.size w wr) (fun _ vi _ => n - (intOf vi).toNat)
  case atStart => exact ⟨0, Nat.zero_le _, rfl, rfl, Below.refl _ _⟩
  case round =>
    obtain ⟨k, hk, rfl, rfl, hbw⟩ := hrel
    by_cases hlt : k < n
    · obtain ⟨ad, e, hl, x, hx, hc⟩ := (ha.below hbw).at_ hlt
      subst e
      have c8a := hc 8 _ rfl
      rw [← add_add_] at c8a
      have c8 : wr.cell? ⟨(ad.add (k * 10)).block, (ad.add (k * 10)).off + 8, none⟩ = some (.int .i64 x.over) := c8a
      clear c8a
      have hT : ls.take (k + 1) = ls.take k ++ [x] := by rw [List.take_add_one, hx]; rfl
      have hov := ovC_len (ls.take k)
      rw [List.length_take] at hov
      have HT := Lib.hid (show ovC (ls.take (k + 1)) = ovC (ls.take k) + (if 0 < x.over then 1 else 0) by rw [hT, ovC_snoc])
      clear hT hc hx
      have hob : ovC (ls.take k) ≤ 100000 := by omega
      generalize ovC (ls.take k) = o at *
      by_cases h0 : 0 < x.over
      · have h1 : decide (0 < x.over) = true := decide_eq_true h0
        have HO := Lib.hid h0
        clear h0
        go_wp2_with fail
        go_roundw
        case rel => exact ⟨k + 1, by omega, by go_num, by rw [HT.out, if_pos HO.out]; rfl, hbw⟩
        case measure => simp [intOf]; omega
      · have h1 : decide (0 < x.over) = false := decide_eq_false h0
        have HO := Lib.hid h0
        clear h0
        go_wp2_with fail
        go_roundw
        case rel => exact ⟨k + 1, by omega, by go_num, by rw [HT.out, if_neg HO.out]; rfl, hbw⟩
        case measure => simp [intOf]; omega
    · have hkn : k = n := by omega
      subst hkn
      have HE := Lib.hid (show ls.take k = ls from List.take_of_length_le (by rw [HL.out]; exact Nat.le_refl _))
      go_wp2_with fail
      go_ret
      exact ⟨by rw [HE.out]; rfl, hbw⟩

theorem take_snocN {l : List Nat} {k : Nat} (h : k < l.length) : l.take (k + 1) = l.take k ++ [gN l k] := by rw [List.take_add_one, gN_some h]; rfl
/-- what chosen has put out so far. -/
def ChO (xs : List It) (L : List Nat) (k : Nat) (t : List Nat) : Prop := t.Sublist (L.take k) ∧ ∀ b ∈ L.take k, fbm xs b = true → b ∈ t
theorem ChO.yes {xs : List It} {L : List Nat} {k : Nat} {t : List Nat} (h : ChO xs L k t) (hk : k < L.length) : ChO xs L (k + 1) (t ++ [gN L k]) := by
  unfold ChO
  rw [take_snocN hk]
  refine ⟨h.1.append (List.Sublist.refl _), fun b hb hf => ?_⟩
  rcases List.mem_append.1 hb with h1 | h1
  · exact List.mem_append.2 (.inl (h.2 b h1 hf))
  · exact List.mem_append.2 (.inr h1)
theorem ChO.no {xs : List It} {L : List Nat} {k : Nat} {t : List Nat} (h : ChO xs L k t) (hk : k < L.length) (hf : fbm xs (gN L k) = false) : ChO xs L (k + 1) t := by
  unfold ChO
  rw [take_snocN hk]
  refine ⟨h.1.trans (List.sublist_append_left _ _), fun b hb hfb => ?_⟩
  rcases List.mem_append.1 hb with h1 | h1
  · exact h.2 b h1 hfb
  · simp only [List.mem_singleton] at h1
    subst h1
    rw [hf] at hfb
    cases hfb

set_option maxRecDepth 100000 in
set_option maxHeartbeats 2000000 in
theorem chosen_any (A B : Option Addr) (n c m d : Nat) (xs : List It) (ch : List Int) (w : World) (ha : Sl w 6 itC A n xs) (hB : Sl w 1 byteC B m ch) (hn : n ≤ 4096) (hch : ∀ x ∈ ch, 0 ≤ x ∧ x ≤ 255) (hm : m ≤ maxLen) :
    Calls Try.prog 28 #[.slice A n c, .slice B m d] w fun e w' => ∃ t A' c', e = .returned (.slice A' t.length c') ∧ Own w' w.heap.size 3 1 intC A' t.length c' (ints t) ∧ t ∈ seqM xs (posN xs) ∧ Below w.heap.size w w' := by
  have hxl := ha.len
  have cp := fun w h => mpositions_any A n c xs w h hn
  have cf := fun i w h => mforced_any A n c xs i w h
  have hlt := fun j (h : j < (posN xs).length) => (posN_lt h : gN (posN xs) j < xs.length)
  have hLn : (posN xs).length ≤ 4096 := by
    have := posT_len xs xs.length
    unfold posN
    omega
  have hfin := fun t (h : t.Sublist (posN xs)) h2 => sub_seq xs (posN xs) t h h2 (posN_sorted xs)
  have HF := Lib.hid hfin
  have HLT := Lib.hid hlt
  have HX := Lib.hid hxl
  clear hfin hlt hxl
  unfold maxLen at hm
  go_enter Try.func28, Try.ntmps28
  go_wp2_with (first | (go_at_call 21; refine (cp _ ha).mono ?_; rintro e w1 ⟨A1, c1, rfl, ho1, hb1⟩))
  have hS1 := ho1.sl intC_len
  have hs1 := hb1.size
  clear cp ho1
  generalize hL : posN xs = L at *
  go_loopw [6, 7] (fun vo vi wr => ∃ (k : Nat) (t : List Nat) (A2 : Option Addr) (c2 : Nat), k ≤ L.length ∧ vi = .int .i64 k ∧ vo = .slice A2 t.length c2 ∧ ChO xs L k t ∧ Own wr w1.heap.size 3 1 intC A2 t.length c2 (ints t) ∧ Below w1.heap.size w1 wr) (fun _ vi _ => L.length - (intOf vi).toNat)
  case atStart => exact ⟨0, [], none, 0, Nat.zero_le _, rfl, rfl, ⟨List.Sublist.refl _, fun b hb => by simp at hb⟩, Own.nil_ _ _ _ _ _, Below.refl _ _⟩
  case round =>
    obtain ⟨k, t, A2, c2, hk, rfl, rfl, hco, ho, hbw⟩ := hrel
    have hbw2 := below_trans' hb1 hs1 hbw
    by_cases hlk : k < L.length
    · obtain ⟨ad, e, hl, r⟩ := (hS1.below hbw).int hlk
      subst e
      rw [gI_ints hlk] at r
      have htl : t.length ≤ 4096 := by have := hco.1.length_le; rw [List.length_take] at this; omega
      have cf := cf (gN L k : Int) wr (ha.below hbw2)
      rw [forI_at (HLT.out k hlk)] at cf
      have hfe : (decide ((gT xs (gN L k)).kind = 3) && decide ((gT xs (gN L k)).cost = -10000)) = fbm xs (gN L k) := by
        unfold fbm forcedI
        rfl
      rw [hfe] at cf
      have HY := Lib.hid (hco.yes hlk)
      cases hff : fbm xs (gN L k)
      · rw [hff] at cf
        have HN := Lib.hid (hco.no hlk hff)
        clear hff hco
        by_cases hkm : k < m
        · obtain ⟨ad2, e, hl2, x, hx, hc⟩ := (hB.below hbw2).at_ hkm
          subst e
          have cx := hc 0 _ rfl
          rw [Nat.mul_one, Nat.add_zero] at cx
          have hxb := hch x (List.mem_of_getElem? hx)
          clear hc hx
          generalize gN L k = b at *
          cases hx3 : (x % 3 == 0)
          · go_wp2_with (first | (go_at_call 47; refine cf.mono ?_; rintro e w3 ⟨rfl, rfl⟩))
            go_roundw
            case rel => exact ⟨k + 1, t, A2, c2, by omega, by go_num, rfl, HN.out, ho, hbw⟩
            case measure => simp [intOf]; omega
          · go_wp2_with (first | (go_at_call 47; refine cf.mono ?_; rintro e w3 ⟨rfl, rfl⟩) | (at_builtin; refine wpList_push elemI rfl (.tmp 36) (.tmp 41) rfl rfl _ rfl (ho.alloc _) (b : Int) _ rfl (by simp) (intC_one _) rfl (by unfold maxLen; omega) (Nat.le_trans hbw.size (by simp)) ?_; intro A3 c3 w5 ho3 hg3 ha3))
            go_roundw
            case rel =>
              refine ⟨k + 1, t ++ [b], A3, c3, by omega, by go_num, by rw [List.length_append]; rfl, HY.out, ?_, (hbw.alloc hbw.size _).grown hg3 (Nat.le_trans hbw.size (by simp)) (fun g hg => (ho.lt g hg).1)⟩
              rw [List.length_append, ints_snoc]
              exact ho3
            case measure => simp [intOf]; omega
        · generalize gN L k = b at *
          go_wp2_with (first | (go_at_call 47; refine cf.mono ?_; rintro e w3 ⟨rfl, rfl⟩))
          go_roundw
          case rel => exact ⟨k + 1, t, A2, c2, by omega, by go_num, rfl, HN.out, ho, hbw⟩
          case measure => simp [intOf]; omega
      · rw [hff] at cf
        clear hff hco
        generalize gN L k = b at *
        go_wp2_with (first | (go_at_call 47; refine cf.mono ?_; rintro e w3 ⟨rfl, rfl⟩) | (at_builtin; refine wpList_push elemI rfl (.tmp 36) (.tmp 41) rfl rfl _ rfl (ho.alloc _) (b : Int) _ rfl (by simp) (intC_one _) rfl (by unfold maxLen; omega) (Nat.le_trans hbw.size (by simp)) ?_; intro A3 c3 w5 ho3 hg3 ha3))
        go_roundw
        case rel =>
          refine ⟨k + 1, t ++ [b], A3, c3, by omega, by go_num, by rw [List.length_append]; rfl, HY.out, ?_, (hbw.alloc hbw.size _).grown hg3 (Nat.le_trans hbw.size (by simp)) (fun g hg => (ho.lt g hg).1)⟩
          rw [List.length_append, ints_snoc]
          exact ho3
        case measure => simp [intOf]; omega
    · have hkL : k = L.length := by omega
      subst hkL
      have hco1 := hco.1
      have hco2 := hco.2
      rw [List.take_length] at hco1 hco2
      have HT := Lib.hid (HF.out t hco1 hco2)
      clear hco hco1 hco2
      go_wp2_with fail
      go_ret
      exact ⟨t, A2, c2, rfl, ho.base hs1, by rw [hL]; exact HT.out, hbw2⟩
end Go.Proofs.Ytogbapdioccamaa
