/- solve. -/
import Derived.Test.YtogbapdioccamaaE17
import Derived.Test.YtogbapdioccamaaE19
namespace Go.Proofs.Ytogbapdioccamaa
open Go.RowKit

theorem add0 (g k : Nat) : (⟨g, 0, none⟩ : Addr).add k = ⟨g, k, none⟩ := by
  unfold Addr.add
  by_cases h : k = 0
  · subst h; rfl
  · simp [h]
theorem slKeep {α : Type} {w w' : World} {s g h n : Nat} {enc : α → List Value} {xs : List α} (hS : Sl w s enc (some ⟨g, 0, none⟩) n xs) (hg : w.grownBy w' (some h)) (hne : g < w.heap.size ∧ g ≠ h) : Sl w' s enc (some ⟨g, 0, none⟩) n xs := by
  refine ⟨hS.len, fun hn => ?_⟩
  obtain ⟨ad, e, hl, hc⟩ := hS.rd hn
  injection e with e
  subst e
  exact ⟨_, rfl, Nat.lt_of_lt_of_le hl hg.size, fun i x hx j u hu => (World.cell?_of_block (by rw [block_add]; exact hg.block g hne.1 (by intro e; injection e with e; exact hne.2 e))).trans (hc i x hx j u hu)⟩

/-- what solve answers: a map that holds the choices. -/
def SolP (xs : List It) (ms : List Int) (w : World) (e : Ending) (w' : World) : Prop :=
  ∃ h N f, e = .returned (.map (some h)) ∧ Mp w' h N f ∧ Below w.heap.size w w' ∧ (∀ c : Int, 0 ≤ c → c < 4 → f (-1) 0 c = valS xs ms (posN xs) (-1) 0 c) ∧ Inv xs ms (posN xs) 0 f

set_option maxRecDepth 100000 in
set_option maxHeartbeats 4000000 in
theorem solve_any (g : Nat) (q : PA) (n m : Nat) (xs : List It) (ms : List Int) (w : World) (P : Par w g q n m xs ms) (hn : 0 < n ∧ n ≤ 4096) (hm : 0 < m ∧ m ≤ 8) (hR : ∀ k, k < n → Right 31680 (gT xs k)) (hM : ∀ k, k < m → 1 ≤ gI ms k ∧ gI ms k ≤ 31680) (hF : forcedI (gT xs (n - 1)) = true) :
    Calls Try.prog 45 #[.pointer (some ⟨g, 0, none⟩)] w fun e w' => SolP xs ms w e w' := by
  have cp := fun w h => positions_any q.A n q.c xs w h hn.2
  obtain ⟨hL0, hlast⟩ := posN_last P.its.len hn.1 hF
  have hlt := fun j (h : j < (posN xs).length) => (posN_lt h : gN (posN xs) j < xs.length)
  rw [P.its.len] at hlt
  have hsort := posN_sorted xs
  have hLn : (posN xs).length ≤ n := by
    have := posT_len xs xs.length
    rw [P.its.len] at this
    unfold posN
    rw [P.its.len]
    exact this
  have hml := P.mss.len
  have HML := Lib.hid hml
  clear hml
  have p0 := P.blk.cell 0 rfl
  have hmk : ∀ w, (Instr.makeMap 73 none).run Try.prog w = .ok (.map (some w.heap.size)) (w.alloc (.map #[] 0)) := fun w => by kernel_rfl
  go_enter Try.func45, Try.ntmps45
  go_upto_region 1 with fail
  go_cut [3] (fun v wx => ∃ A' c', v = .slice A' (posN xs).length c' ∧ Own wx w.heap.size 3 1 intC A' (posN xs).length c' (ints (posN xs)) ∧ Below w.heap.size w wx)
  case first => as_aux_lemma =>
    clear hlast hlt hsort hmk
    go_wp2_with (first | (go_at_call 41; refine (cp _ P.its).mono ?_; rintro e w3 ⟨A', c', rfl, ho, hb3⟩))
    go_meet
    case rel => exact ⟨A', c', rfl, ho, hb3⟩
  case rest =>
    obtain ⟨A', c', rfl, ho, hb3⟩ := hcut
    clear cp p0
    have hcap := ho.cap
    obtain ⟨g2, rfl, _, hglt⟩ := ho.form hL0
    have hS := ho.sl intC_len
    clear ho
    generalize hL : posN xs = L at *
    have P1 := P.below hb3
    have p1 : (wc.alloc (.map #[] 0)).cell? ⟨g, 1, none⟩ = some (.slice q.M m q.d) := (P1.blk.alloc _).cell 1 rfl
    have M0 := Mp.made wc
    have hb4 := hb3.alloc hb3.size (.map #[] 0)
    have hS4 := hS.below ((Below.refl _ wc).alloc (Nat.le_refl _) (.map #[] 0))
    have hhw := hb3.size
    go_upto_region 4 with fail
    have hg2 : g2 < (wc.alloc (.map #[] 0)).heap.size ∧ g2 ≠ wc.heap.size := by
      have : g2 < wc.heap.size := hglt
      refine ⟨?_, by omega⟩
      simp
      omega
    clear hmk hb3 hS P1
    generalize wc.heap.size = h at *
    generalize wc.alloc (.map #[] 0) = W at *
    go_wp2_with fail
    go_loopw [6] (fun vi wr => ∃ (t N : Nat) (f : Int → Int → Int → Int × Int), t ≤ L.length + 1 ∧ vi = .int .i64 ((t : Int) - 2) ∧ Mp wr h N f ∧ N ≤ 4 * m * (L.length + 1 - t) ∧ Inv xs ms L (t - 1) f ∧ (t = 0 → ∀ c : Int, 0 ≤ c → c < 4 → f (-1) 0 c = valS xs ms L (-1) 0 c) ∧ W.grownBy wr (some h)) (fun vi _ => (intOf vi + 2).toNat)
    case atStart => exact ⟨L.length + 1, 0, _, Nat.le_refl _, by congr 1; omega, M0, Nat.zero_le _, fun j h1 h2 => by omega, fun h => by omega, World.grownBy.refl _ _⟩
    case round =>
      obtain ⟨t, N, f, ht, rfl, Hm, hN, hI, h0, hg⟩ := hrel
      clear M0 p1
      have hbw : Below w.heap.size w wr := hb4.grown hg hb4.size (fun k hk => by injection hk with hk; omega)
      rcases t with _ | t
      · go_wp2_with fail
        go_ret
        exact ⟨h, N, f, rfl, Hm, hbw, by rw [hL]; exact h0 (by trivial), by rw [hL]; exact hI⟩
      · have P1 := P.below hbw
        have p0 : wr.cell? ⟨g, 0, none⟩ = some (.slice q.A n q.c) := P1.blk.cell 0 rfl
        have hSr : Sl wr 1 intC (some ⟨g2, 0, none⟩) L.length (ints L) := slKeep hS4 hg hg2
        have hN9 : N < 900000 := by
          have : 4 * m * (L.length + 1 - (t + 1)) ≤ 32 * 4096 := Nat.mul_le_mul (by omega) (by omega)
          omega
        clear h0
        rcases t with _ | i
        · rw [show ((0 + 1 : Nat) : Int) - 2 = -1 by omega]
          have hm1n : ((-1 : Int) == (n : Int) - 1) = false := by simp; omega
          go_wp2_with fail
          go_loopw [62] (fun vi wx => ∃ (s N2 : Nat) (f2 : Int → Int → Int → Int × Int), s ≤ 1 ∧ vi = .int .i64 s ∧ Mp wx h N2 f2 ∧ N2 = N + 4 * s ∧ (∀ c : Int, s = 1 → 0 ≤ c → c < 4 → f2 (-1) 0 c = valS xs ms L (-1) 0 c) ∧ (∀ a', a' ≠ -1 → ∀ k c, f2 a' k c = f a' k c) ∧ W.grownBy wx (some h)) (fun vi _ => 2 - (intOf vi).toNat)
          case atStart => exact ⟨0, N, f, by omega, rfl, Hm, rfl, fun c h => by omega, fun _ _ _ _ => rfl, hg⟩
          case round =>
            obtain ⟨s, N2, f2, hs, rfl, Hm2, hN2, hv, ho2, hg3⟩ := hrel
            by_cases hs1 : s < 1
            · have hbw3 : Below w.heap.size w wr := hb4.grown hg3 hb4.size (fun k hk => by injection hk with hk; omega)
              have P2 := P.below hbw3
              have hS2 := slKeep hS4 hg3 hg2
              have hsm : s < m := by omega
              have hdz : decide ((0 : Int) < (s : Int)) = false := decide_eq_false (by omega)
              have hf2 : ∀ i, i < L.length → ∀ c', 0 ≤ c' → c' ≤ 3 → -4000000000000000000 ≤ (f2 (gN L i) (min (s + 1) (m - 1) : Nat) c').1 ∧ (f2 (gN L i) (min (s + 1) (m - 1) : Nat) c').1 ≤ 4000000000000000000 := fun i hi c' h1 h2 => by
                rw [ho2 (gN L i) (by omega), hI i (by omega) hi (min (s + 1) (m - 1)) (by rw [HML.out]; omega) c' h1 (by omega)]
                exact valS_bd P.its.len P.mss.len hm.1 hn.2 hR hM (fun b hb => by obtain ⟨j, hj, rfl⟩ := gN_of_mem (List.mem_of_mem_drop hb); exact hlt j hj) (by rw [List.length_drop]; omega) _ _ _
              have cc := fun c w (P : Par w g q n m xs ms) (H : Mp w h N2 f2) (hS : Sl w 1 intC (some ⟨g2, 0, none⟩) L.length (ints L)) => choose_any g q n m h N2 L.length c s f2 (-1) (some ⟨g2, 0, none⟩) L xs ms w P H hS (fun i hi => ⟨by omega, hlt i hi⟩) ⟨by omega, by omega⟩ (by omega) hn.2 ⟨hm.1, by omega⟩ hsm hR hM (by omega) hf2
              have HO := Lib.hid ho2
              have HI := Lib.hid hI
              clear hf2 hv ho2 hI
              go_wp2_with (first | (go_at_call 56; refine (cc _ _ P2 Hm2 hS2).mono ?_; rintro e w3 ⟨rfl, Hm3, hg4⟩))
              go_roundw
              case rel =>
                have hI2 : Inv xs ms L 0 f2 := fun j h1 h2 k hk c h3 h4 => by rw [HO.out _ (by omega)]; exact HI.out j h1 h2 k hk c h3 h4
                refine ⟨s + 1, N2 + 4, _, by omega, by go_num, Hm3, by omega, fun c _ h1 h2 => ?_, fun a' ha' k c => ?_, hg3.trans hg4⟩
                · have := chF_at xs ms (by rw [HML.out]; omega) hI2 hL0 (-1) (k := s) (by rw [HML.out]; omega) h1 h2
                  rw [List.drop_zero, HML.out, show s = 0 by omega] at this
                  rw [show s = 0 by omega]
                  exact this
                · unfold chF
                  rw [if_neg (fun h => ha' h.1)]
                  exact HO.out a' ha' k c
              case measure => simp [intOf]; omega
            · have hs0 : s = 1 := by omega
              subst hs0
              have hm2 := hm.1
              by_cases hm1 : (1 : Int) < m
              · go_wp2_with fail
                go_roundw
                case rel =>
                  refine ⟨0, N2, f2, by omega, by go_num, Hm2, ?_, fun j h1 h2 k hk c h3 h4 => by rw [ho2 _ (by omega)]; exact hI j h1 h2 k hk c h3 h4, fun _ c h1 h2 => hv c rfl h1 h2, hg3⟩
                  have : 4 * m * (L.length + 1 - 0) = 4 * m * (L.length + 1 - (0 + 1)) + 4 * m := by rw [Nat.sub_zero, Nat.mul_succ]; rfl
                  omega
                case measure => simp [intOf]
              · go_wp2_with fail
                go_roundw
                case rel =>
                  refine ⟨0, N2, f2, by omega, by go_num, Hm2, ?_, fun j h1 h2 k hk c h3 h4 => by rw [ho2 _ (by omega)]; exact hI j h1 h2 k hk c h3 h4, fun _ c h1 h2 => hv c rfl h1 h2, hg3⟩
                  have : 4 * m * (L.length + 1 - 0) = 4 * m * (L.length + 1 - (0 + 1)) + 4 * m := by rw [Nat.sub_zero, Nat.mul_succ]; rfl
                  omega
                case measure => simp [intOf]
        · rw [show ((i + 1 + 1 : Nat) : Int) - 2 = (i : Int) by omega]
          have hNb : 4 * m * (L.length + 1 - (i + 1)) = 4 * m * (L.length + 1 - (i + 1 + 1)) + 4 * m := by
            rw [show L.length + 1 - (i + 1) = (L.length + 1 - (i + 1 + 1)) + 1 by omega, Nat.mul_succ]
          have HNB := Lib.hid hNb
          clear hNb
          obtain ⟨ad, e, hl', r⟩ := hSr.int (k := i) (by omega)
          injection e with e
          subst e
          rw [gI_ints (by omega), add0] at r
          by_cases hil : i + 1 = L.length
          · have ha := (hlast i (by omega)).2 hil
            rw [ha] at r
            rw [show ((n - 1 : Nat) : Int) = (n : Int) - 1 by omega] at r
            go_wp2_with fail
            go_loopw [46] (fun vi wx => ∃ s : Nat, s ≤ m ∧ vi = .int .i64 s ∧ Mp wx h (N + 4 * s) (fill f ((n : Int) - 1) s 0) ∧ W.grownBy wx (some h)) (fun vi _ => m - (intOf vi).toNat)
            case atStart => exact ⟨0, by omega, rfl, by rw [fill_zero]; exact Hm, hg⟩
            case round =>
              obtain ⟨s, hs, rfl, Hm2, hg3⟩ := hrel
              by_cases hsm : s < m
              · go_wp2_with fail
                go_loopw [49] (fun vi wx => ∃ c : Nat, c ≤ 4 ∧ vi = .int .i64 c ∧ Mp wx h (N + 4 * s + c) (fill f ((n : Int) - 1) s c) ∧ W.grownBy wx (some h)) (fun vi _ => 4 - (intOf vi).toNat)
                case atStart => exact ⟨0, by omega, rfl, Hm2, hg3⟩
                case round =>
                  clear Hm2 hg3
                  obtain ⟨c, hc, rfl, Hm3, hg4⟩ := hrel
                  by_cases hc4 : c < 4
                  · obtain ⟨w', hr, hm', hg'⟩ := Hm3.update (by unfold maxLen; omega) (a := (n : Int) - 1) (k := s) (c := c) (by unfold okI; omega) (by unfold okI; omega) (by unfold okI; omega) 0 (-1)
                    rw [fill_succ _ _ _ _ hc4] at hm'
                    unfold stV chV at hr
                    go_wp2_with fail
                    go_roundw
                    case rel => exact ⟨c + 1, by omega, by go_num, hm', hg4.trans hg'⟩
                    case measure => simp [intOf]; omega
                  · have h4 : c = 4 := by omega
                    subst h4
                    rw [fill_next] at Hm3
                    go_wp2_with fail
                    go_roundw
                    case rel => exact ⟨s + 1, by omega, by go_num, Hm3, hg4⟩
                    case measure => simp [intOf]; omega
              · have hsm2 : s = m := by omega
                subst hsm2
                go_wp2_with fail
                go_roundw
                case rel =>
                  refine ⟨i + 1, N + 4 * s, _, by omega, by go_num, Hm2, by rw [HNB.out]; omega, fun j h1 h2 k hk c h3 h4 => ?_, fun h => by omega, hg3⟩
                  have hj : j = i := by omega
                  subst hj
                  unfold fill
                  rw [HML.out] at hk
                  rw [if_pos ⟨by omega, by omega, h3, .inl ⟨by omega, h4⟩⟩, List.drop_eq_nil_of_le (by omega)]
                  rfl
                case measure => simp [intOf]; omega
          · have ha : gN L i ≠ n - 1 := fun h => hil ((hlast i (by omega)).1 h)
            have ha' : ((gN L i : Int) == (n : Int) - 1) = false := by simp; omega
            have hai := hlt i (by omega)
            go_wp2_with fail
            go_loopw [62] (fun vi wx => ∃ (s : Nat) (f2 : Int → Int → Int → Int × Int), s ≤ m ∧ vi = .int .i64 s ∧ Mp wx h (N + 4 * s) f2 ∧ (∀ k : Nat, k < s → ∀ c : Int, 0 ≤ c → c < 4 → f2 (gN L i) k c = valS xs ms (L.drop (i + 1)) (gN L i) k c) ∧ (∀ a', a' ≠ (gN L i : Int) → ∀ k c, f2 a' k c = f a' k c) ∧ W.grownBy wx (some h)) (fun vi _ => m - (intOf vi).toNat)
            case atStart => exact ⟨0, f, by omega, rfl, Hm, fun k hk => by omega, fun _ _ _ _ => rfl, hg⟩
            case round =>
              obtain ⟨s, f2, hs, rfl, Hm2, hv, ho2, hg3⟩ := hrel
              have hI2 : Inv xs ms L (i + 1) f2 := fun j h1 h2 k hk c h3 h4 => by
                rw [ho2 _ (by have := gN_rise hsort (i := i) (j := j) (by omega) h2; omega)]
                exact hI j (by omega) h2 k hk c h3 h4
              by_cases hsm : s < m
              · have hbw3 : Below w.heap.size w wr := hb4.grown hg3 hb4.size (fun k hk => by injection hk with hk; omega)
                have P2 := P.below hbw3
                have hS2 := (slKeep hS4 hg3 hg2).drop (k := i + 1) (by omega)
                rw [ints_drop, Nat.mul_one, add0] at hS2
                have hf2 : ∀ j, j < L.length - (i + 1) → ∀ c', 0 ≤ c' → c' ≤ 3 → -4000000000000000000 ≤ (f2 (gN (L.drop (i + 1)) j) (min (s + 1) (m - 1) : Nat) c').1 ∧ (f2 (gN (L.drop (i + 1)) j) (min (s + 1) (m - 1) : Nat) c').1 ≤ 4000000000000000000 := fun j hj c' h1 h2 => by
                  rw [gN_drop, hI2 (i + 1 + j) (by omega) (by omega) (min (s + 1) (m - 1)) (by rw [HML.out]; omega) c' h1 (by omega)]
                  exact valS_bd P.its.len P.mss.len hm.1 hn.2 hR hM (fun b hb => by obtain ⟨j, hj, rfl⟩ := gN_of_mem (List.mem_of_mem_drop hb); exact hlt j hj) (by rw [List.length_drop]; omega) _ _ _
                have hll : ∀ j, j < L.length - (i + 1) → (gN L i : Int) < gN (L.drop (i + 1)) j ∧ gN (L.drop (i + 1)) j < n := fun j hj => by
                  rw [gN_drop]
                  have := gN_rise hsort (i := i) (j := i + 1 + j) (by omega) (by omega)
                  exact ⟨by omega, hlt _ (by omega)⟩
                have cc := fun c w (P : Par w g q n m xs ms) (H : Mp w h (N + 4 * s) f2) (hS : Sl w 1 intC (some ⟨g2, i + 1, none⟩) (L.length - (i + 1)) (ints (L.drop (i + 1)))) => choose_any g q n m h (N + 4 * s) (L.length - (i + 1)) c s f2 (gN L i) (some ⟨g2, i + 1, none⟩) (L.drop (i + 1)) xs ms w P H hS hll ⟨by omega, by omega⟩ (by omega) hn.2 ⟨hm.1, by omega⟩ hsm hR hM (by omega) hf2
                have HV := Lib.hid hv
                have HO := Lib.hid ho2
                have HI := Lib.hid hI2
                clear hf2 hll hv ho2 hI2 hI
                go_wp2_with (first | (go_at_call 56; refine (cc _ _ P2 Hm2 hS2).mono ?_; rintro e w3 ⟨rfl, Hm3, hg4⟩))
                go_roundw
                case rel =>
                  refine ⟨s + 1, _, by omega, by go_num, Hm3, fun k hk c h1 h2 => ?_, fun a' ha' k c => ?_, hg3.trans hg4⟩
                  · by_cases hks : k = s
                    · subst hks
                      have := chF_at xs ms (by rw [HML.out]; omega) HI.out (by omega) (gN L i) (k := k) (by rw [HML.out]; omega) h1 h2
                      rw [HML.out] at this
                      exact this
                    · unfold chF
                      rw [if_neg (fun h => by omega)]
                      exact HV.out k (by omega) c h1 h2
                  · unfold chF
                    rw [if_neg (fun h => ha' h.1)]
                    exact HO.out a' ha' k c
                case measure => simp [intOf]; omega
              · have hsm2 : s = m := by omega
                subst hsm2
                have HV := Lib.hid hv
                have HI := Lib.hid hI2
                clear hv ho2 hI2 hI
                go_wp2_with fail
                go_roundw
                case rel =>
                  refine ⟨i + 1, N + 4 * s, f2, by omega, by go_num, Hm2, by rw [HNB.out]; omega, fun j h1 h2 k hk c h3 h4 => ?_, fun h => by omega, hg3⟩
                  by_cases hj : j = i
                  · subst hj
                    rw [HML.out] at hk
                    exact HV.out k hk c h3 h4
                  · exact HI.out j (by omega) h2 k hk c h3 h4
                case measure => simp [intOf]; omega
end Go.Proofs.Ytogbapdioccamaa
