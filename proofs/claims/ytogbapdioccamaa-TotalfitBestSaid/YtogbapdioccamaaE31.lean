/- lines of the model. -/
import Derived.Test.YtogbapdioccamaaE30
import Derived.Test.YtogbapdioccamaaE14
import Derived.Test.YtogbapdioccamaaE16
namespace Go.Proofs.Ytogbapdioccamaa
open Go.RowKit

def costN (xs : List It) (ms : List Int) (bl : List Nat) : Nat → Int
  | 0 => 0
  | k + 1 => costN xs ms bl k + demAt xs ms bl k
theorem costN_bd {xs : List It} {ms : List Int} {bl : List Nat} (h : ∀ k, k < bl.length → -200000000 ≤ demAt xs ms bl k ∧ demAt xs ms bl k ≤ 50000000000000) : ∀ {k : Nat}, k ≤ bl.length → -200000000 * (k : Int) ≤ costN xs ms bl k ∧ costN xs ms bl k ≤ 50000000000000 * (k : Int)
  | 0, _ => by simp [costN]
  | k + 1, hk => by
    have h1 := costN_bd h (k := k) (by omega)
    have h2 := h k (by omega)
    unfold costN
    omega
set_option maxRecDepth 100000 in
set_option maxHeartbeats 4000000 in
theorem mlines_any (A M B : Option Addr) (n m K c d e0 : Nat) (bl : List Nat) (xs : List It) (ms : List Int) (w : World) (hA : Sl w 6 itC A n xs) (hMs : Sl w 1 intC M m ms) (hB : Sl w 1 intC B K (ints bl)) (hr : Rise bl n) (hn : n ≤ 4096) (hm : 0 < m ∧ m ≤ 4096) (hK : K ≤ 4096)
    (hR : ∀ k, k < n → Right 31680 (gT xs k)) (hM : ∀ k, k < m → 1 ≤ gI ms k ∧ gI ms k ≤ 31680) :
    Calls Try.prog 27 #[.slice A n c, .slice M m d, .slice B K e0] w fun e w' => ∃ A' c', e = .returned (.tuple #[.slice A' K c', .int .i64 (costN xs ms bl K)]) ∧ Own w' w.heap.size 56 10 lnC A' K c' (linesN xs ms bl K) ∧ Below w.heap.size w w' := by
  have hlen : bl.length = K := by have := hB.len; simpa [ints] using this
  have hxl := hA.len
  have hml := hMs.len
  have hok : ∀ k, k < K → LnOk (lnAt xs ms bl k) := fun k hk => line_ok hxl hml hm.1 (hr.1 k (by omega)) hn hR hM
  have hdem : ∀ k, k < bl.length → -200000000 ≤ demAt xs ms bl k ∧ demAt xs ms bl k ≤ 50000000000000 := fun k hk => dem_bd (hok k (by omega)) ⟨(hR _ (hr.1 k hk)).c0, (hR _ (hr.1 k hk)).c1⟩
  have hcost := fun k (hk : k ≤ K) => costN_bd hdem (k := k) (by omega)
  have hfl : ∀ k, k < n → (gT xs k).kind ≠ 3 → (gT xs k).flag = false := fun k hk h => ((hR k hk).noP h).2
  have HL := Lib.hid hlen
  have HC0 := Lib.hid hcost
  have HD0 := Lib.hid hdem
  have HOK := Lib.hid hok
  have HFL := Lib.hid hfl
  clear hlen hcost hdem hok hfl hxl hml
  go_enter Try.func27, Try.ntmps27
  go_wp2_with fail
  go_loopw [8, 9, 10, 11, 12] (fun vo vs va vc vi wr => ∃ (k : Nat) (A1 : Option Addr) (c1 : Nat), k ≤ K ∧ vi = .int .i64 k ∧ vs = .int .i64 (costN xs ms bl k) ∧ va = .int .i64 (aAt bl k) ∧ vc = .int .i64 (clAt xs ms bl k) ∧ vo = .slice A1 k c1 ∧ Own wr w.heap.size 56 10 lnC A1 k c1 (linesN xs ms bl k) ∧ Below w.heap.size w wr) (fun _ _ _ _ i _ => K - (intOf i).toNat)
  case atStart => exact ⟨0, none, 0, Nat.zero_le _, rfl, rfl, rfl, rfl, rfl, Own.nil_ _ _ _ _ _, Below.refl _ _⟩
  case round =>
    obtain ⟨k, A1, c1, hk, rfl, rfl, rfl, rfl, rfl, ho, hbw⟩ := hrel
    by_cases hlt : k < K
    · obtain ⟨ad, e, hl0, -⟩ := hB.int hlt
      subst e
      have hRR : ∀ w3 : World, Below w.heap.size w w3 → w3.cell? (ad.add k) = some (.int .i64 (gN bl k)) := fun w3 h3 => by
        obtain ⟨ad', e, _, r'⟩ := (hB.below h3).int hlt
        injection e with e
        subst e
        rw [gI_ints (by rw [HL.out]; exact hlt)] at r'
        exact r'
      have r := hRR wr hbw
      have hb := hr.1 k (by rw [HL.out]; exact hlt)
      have ha := hr.a (k := k) (by rw [HL.out]; exact hlt)
      have hok := HOK.out k hlt
      have hcl : 0 ≤ clAt xs ms bl k ∧ clAt xs ms bl k ≤ 3 := by
        unfold clAt
        split
        · omega
        · exact (HOK.out (k - 1) (by omega)).cls
      have hbn : (lnAt xs ms bl k).br = gN bl k := rfl
      have cl := fun w h1 h2 => mline_any A M n m (gN bl k) k c d (aAt bl k) xs ms w h1 h2 hb ha hn hm (by omega) hR hM
      have cd := fun w h => mdemerits_any A n c (gN bl k) (aAt bl k) (clAt xs ms bl k) (lnAt xs ms bl k) xs w h hb hbn (by omega) ⟨(hR _ hb).c0, (hR _ hb).c1⟩ HFL.out hok.bad ⟨hok.over.1, by have := hok.over.2; omega⟩ hok.cls hcl
      have HA := Lib.hid (show aAt bl (k + 1) = (gN bl k : Int) from rfl)
      have HC := Lib.hid (show clAt xs ms bl (k + 1) = (lnAt xs ms bl k).cls from rfl)
      have HCO := Lib.hid (show costN xs ms bl (k + 1) = costN xs ms bl k + demAt xs ms bl k from rfl)
      have HS := Lib.hid (linesN_succ xs ms bl k)
      have hdb := HD0.out k (by rw [HL.out]; exact hlt)
      have hcb := HC0.out k hk
      rw [show demF 31680 xs (lnAt xs ms bl k) (gN bl k) (aAt bl k) (clAt xs ms bl k) = demAt xs ms bl k from rfl] at cd
      rw [show lineF xs ms (aAt bl k) (gN bl k) k = lnAt xs ms bl k from rfl] at cl
      have hA1 := hA.below hbw
      have hM1 := hMs.below hbw
      generalize demAt xs ms bl k = dm at *
      generalize lnAt xs ms bl k = x at *
      obtain ⟨xf, xt, xb, xm, xw, xr, xc, xbad, xo, xd⟩ := x
      unfold lnV at cl cd
      generalize aAt bl k = a at *
      generalize clAt xs ms bl k = cls at *
      have HRR := Lib.hid hRR
      generalize gN bl k = b at *
      generalize hco : costN xs ms bl k = co at *
      clear hok hcl hbn hRR hR hM hco
      go_upto_region 6 with fail
      go_cut [13] (fun v wx => ∃ p, v = .pointer (some ⟨p, 0, none⟩) ∧ wr.heap.size ≤ p ∧ Blk wx p 56 #[.int .i64 xf, .int .i64 xt, .int .i64 xb, .int .i64 xm, .int .i64 xw, .int .i64 xr, .int .i64 xc, .int .i64 xbad, .int .i64 xo, .int .i64 xd] ∧ Below wr.heap.size wr wx)
      case first => as_aux_lemma =>
        go_wp2_with (first | (go_at_call 48; refine (cl _ hA1 hM1).mono ?_; rintro e w3 ⟨rfl, hb3⟩))
        go_meet
        case rel => exact ⟨_, rfl, hb3.size, Blk.new _ _ _, hb3.alloc hb3.size _⟩
      case rest =>
        obtain ⟨p, rfl, hp, Bx, hb4⟩ := hcut
        clear cl
        go_upto_region 7 with fail
        go_cut [] (fun wx => Blk wx p 56 #[.int .i64 xf, .int .i64 xt, .int .i64 xb, .int .i64 xm, .int .i64 xw, .int .i64 xr, .int .i64 xc, .int .i64 xbad, .int .i64 xo, .int .i64 dm] ∧ Below wr.heap.size wr wx)
        case first => as_aux_lemma =>
          have k0 : wc.cell? ⟨p, 0, none⟩ = some (.int .i64 xf) := Bx.cell 0 rfl
          have k1 : wc.cell? ⟨p, 1, none⟩ = some (.int .i64 xt) := Bx.cell 1 rfl
          have k2 : wc.cell? ⟨p, 2, none⟩ = some (.int .i64 xb) := Bx.cell 2 rfl
          have k3 : wc.cell? ⟨p, 3, none⟩ = some (.int .i64 xm) := Bx.cell 3 rfl
          have k4 : wc.cell? ⟨p, 4, none⟩ = some (.int .i64 xw) := Bx.cell 4 rfl
          have k5 : wc.cell? ⟨p, 5, none⟩ = some (.int .i64 xr) := Bx.cell 5 rfl
          have k6 : wc.cell? ⟨p, 6, none⟩ = some (.int .i64 xc) := Bx.cell 6 rfl
          have k7 : wc.cell? ⟨p, 7, none⟩ = some (.int .i64 xbad) := Bx.cell 7 rfl
          have k8 : wc.cell? ⟨p, 8, none⟩ = some (.int .i64 xo) := Bx.cell 8 rfl
          have k9 : wc.cell? ⟨p, 9, none⟩ = some (.int .i64 xd) := Bx.cell 9 rfl
          go_wp2_with (first | (go_at_call 49; refine (cd _ (hA1.below hb4)).mono ?_; rintro e w5 ⟨rfl, hb5⟩; have B5 := Bx.below hb5; have f9 := B5.frozen 9; have c9 : w5.cell? ⟨p, 9, none⟩ = some (.int .i64 xd) := B5.cell 9 rfl))
          go_meet
          case rel => exact ⟨B5.set_ 9 (.int .i64 dm), setBw (below_trans' hb4 hb4.size hb5) hp 9 (.int .i64 dm)⟩
        case rest =>
          clear Bx cd
          obtain ⟨Bx, hb5⟩ := hcut
          have k0 : wc.cell? ⟨p, 0, none⟩ = some (.int .i64 xf) := Bx.cell 0 rfl
          have k1 : wc.cell? ⟨p, 1, none⟩ = some (.int .i64 xt) := Bx.cell 1 rfl
          have k2 : wc.cell? ⟨p, 2, none⟩ = some (.int .i64 xb) := Bx.cell 2 rfl
          have k3 : wc.cell? ⟨p, 3, none⟩ = some (.int .i64 xm) := Bx.cell 3 rfl
          have k4 : wc.cell? ⟨p, 4, none⟩ = some (.int .i64 xw) := Bx.cell 4 rfl
          have k5 : wc.cell? ⟨p, 5, none⟩ = some (.int .i64 xr) := Bx.cell 5 rfl
          have k6 : wc.cell? ⟨p, 6, none⟩ = some (.int .i64 xc) := Bx.cell 6 rfl
          have k7 : wc.cell? ⟨p, 7, none⟩ = some (.int .i64 xbad) := Bx.cell 7 rfl
          have k8 : wc.cell? ⟨p, 8, none⟩ = some (.int .i64 xo) := Bx.cell 8 rfl
          have k9 : wc.cell? ⟨p, 9, none⟩ = some (.int .i64 dm) := Bx.cell 9 rfl
          have ho5 := ho.below hb5
          have hbw5 := below_trans' hbw hbw.size hb5
          have hlt1 := ho.lt
          have hlp := Bx.lt
          go_wp2_with (at_builtin; refine wpList_push elemL rfl (.tmp 35) (.tmp 37) rfl rfl _ rfl (ho5.alloc _) (⟨xf, xt, xb, xm, xw, xr, xc, xbad, xo, dm⟩ : Ln) _ rfl (by simp) (lnC_one _) (lnC_len _) (by unfold maxLen; omega) (Nat.le_trans hbw5.size (by simp <;> omega)) ?_; intro A3 c3 w3 ho3 hg3 ha3; have Bz := (Bx.alloc _).keep hg3 (fun e => by have := (hlt1 p e).2; omega); have k60 : w3.cell? ⟨p, 6, none⟩ = some (.int .i64 xc) := Bz.cell 6 rfl; have k90 : w3.cell? ⟨p, 9, none⟩ = some (.int .i64 dm) := Bz.cell 9 rfl)
          have hbw3 := (hbw5.alloc hbw5.size _).grown hg3 (Nat.le_trans hbw5.size (by simp)) (fun g hg => (hlt1 g hg).1)
          have r3 := HRR.out w3 hbw3
          clear hg3 ha3 ho5 Bx Bz k0 k1 k2 k3 k4 k5 k6 k7 k8 k9
          go_quiet (fail)
          go_wp2_with fail
          go_roundw
          case rel =>
            refine ⟨k + 1, A3, c3, by omega, by go_num, by rw [HCO.out], by rw [HA.out], by rw [HC.out], rfl, ?_, below_drewN hbw3 _⟩
            rw [HS.out]
            exact ho3.drewN _
          case measure => simp [intOf]; omega
    · have hkK : k = K := by omega
      subst hkK
      go_wp2_with fail
      go_ret2
      exact ⟨A1, c1, rfl, ho, hbw⟩
end Go.Proofs.Ytogbapdioccamaa
