/- lines of the program. -/
import Derived.Test.YtogbapdioccamaaE11
import Derived.Test.YtogbapdioccamaaE12
namespace Go.Proofs.Ytogbapdioccamaa
open Go.RowKit

def gN (l : List Nat) (k : Nat) : Nat := l.getD k 0
theorem gN_some {l : List Nat} {k : Nat} (h : k < l.length) : l[k]? = some (gN l k) := by
  unfold gN; rw [List.getD_eq_getElem?_getD, List.getElem?_eq_getElem h]; rfl
theorem gI_ints {l : List Nat} {k : Nat} (h : k < l.length) : gI (ints l) k = (gN l k : Int) := by
  have h1 : k < (ints l).length := by simpa [ints] using h
  have h2 := gI_some h1
  unfold ints at h2
  rw [List.getElem?_map, gN_some h] at h2
  unfold ints
  injection h2 with h2
  exact h2.symm
/-- the break before line k, line k, the class before it, and what is put out. -/
def aAt (bl : List Nat) (k : Nat) : Int := if k = 0 then -1 else (gN bl (k - 1) : Int)
def lnAt (xs : List It) (ms : List Int) (bl : List Nat) (k : Nat) : Ln := lineF xs ms (aAt bl k) (gN bl k) k
def clAt (xs : List It) (ms : List Int) (bl : List Nat) (k : Nat) : Int := if k = 0 then 1 else (lnAt xs ms bl (k - 1)).cls
def demAt (xs : List It) (ms : List Int) (bl : List Nat) (k : Nat) : Int := demF 31680 xs (lnAt xs ms bl k) (gN bl k) (aAt bl k) (clAt xs ms bl k)
def withD (x : Ln) (d : Int) : Ln := ⟨x.fr, x.to, x.br, x.meas, x.width, x.ratio, x.cls, x.bad, x.over, d⟩
def linesN (xs : List It) (ms : List Int) (bl : List Nat) (k : Nat) : List Ln := (List.range k).map (fun i => withD (lnAt xs ms bl i) (demAt xs ms bl i))
theorem linesN_len {xs : List It} {ms : List Int} {bl : List Nat} {k : Nat} : (linesN xs ms bl k).length = k := by simp [linesN]
theorem linesN_succ (xs : List It) (ms : List Int) (bl : List Nat) (k : Nat) : linesN xs ms bl (k + 1) = linesN xs ms bl k ++ [withD (lnAt xs ms bl k) (demAt xs ms bl k)] := by
  unfold linesN; rw [List.range_succ, List.map_append]; rfl
/-- what a right line is. -/
structure LnOk (x : Ln) : Prop where
  bad : 0 ≤ x.bad ∧ x.bad ≤ 10000
  over : 0 ≤ x.over ∧ x.over ≤ 1000000000
  cls : 0 ≤ x.cls ∧ x.cls ≤ 3
theorem cls_bd (r : Int) : 0 ≤ clsOf r ∧ clsOf r ≤ 3 := by unfold clsOf; split; omega; split; omega; split; omega; omega
theorem bad_bd {d z r : Int} : 0 ≤ badOf d z r ∧ badOf d z r ≤ 10000 := by
  unfold badOf
  split
  · omega
  · have h : 0 ≤ max r (-r) := by omega
    have h1 : 0 ≤ max r (-r) * max r (-r) * max r (-r) := Int.mul_nonneg (Int.mul_nonneg h h) h
    have h2 : 0 ≤ max r (-r) * max r (-r) * max r (-r) / 10000000 := Int.ediv_nonneg h1 (by omega)
    omega
theorem line_ok {xs : List It} {ms : List Int} {n m b k : Nat} {a : Int} (hl : xs.length = n) (hml : ms.length = m) (hm : 0 < m) (hb : b < n) (hn : n ≤ 4096) (hR : ∀ k, k < n → Right 31680 (gT xs k)) (hM : ∀ k, k < m → 1 ≤ gI ms k ∧ gI ms k ≤ 31680) : LnOk (lineF xs ms a b k) := by
  refine ⟨bad_bd, ?_, cls_bd _⟩
  have hmem : ∀ x ∈ xs, Right 31680 x := fun x hx => by
    obtain ⟨i, hi, rfl⟩ := List.mem_iff_getElem.1 hx
    have h := hR i (by omega)
    have e : gT xs i = xs[i] := by have := gT_some hi; rw [List.getElem?_eq_getElem hi] at this; injection this with this; exact this.symm
    rw [e] at h
    exact h
  have W : ∀ k, k ≤ n → 0 ≤ sumTo wOf xs k ∧ sumTo wOf xs k ≤ 200000000 := fun k hk => by
    have h := sumTo_bd (f := wOf) (l := xs) (M := 31680) (fun x hx => by have := (hmem x hx).w0; have := (hmem x hx).w1; unfold wOf; split <;> omega) (i := k) (by omega)
    omega
  have Z : ∀ k, k ≤ n → 0 ≤ sumTo (·.shrink) xs k ∧ sumTo (·.shrink) xs k ≤ 200000000 := fun k hk => by
    have h := sumTo_bd (f := (·.shrink)) (l := xs) (M := 31680) (fun x hx => ⟨(hmem x hx).z0, Int.le_trans (hmem x hx).z1 (hmem x hx).w1⟩) (i := k) (by omega)
    omega
  have hf := fromOf_le xs a b
  have w1 := W b (by omega)
  have w2 := W (fromOf xs a b) (by omega)
  have z1 := Z b (by omega)
  have z2 := Z (fromOf xs a b) (by omega)
  have m1 := meas_bd (k := k) hml hm hM
  have hw : widthOf xs (fromOf xs a b) b ≤ 200040000 := by
    have := (hR b hb).w0
    have := (hR b hb).w1
    unfold widthOf
    split <;> omega
  show 0 ≤ overOf _ _ ∧ overOf _ _ ≤ 1000000000
  unfold overOf
  split <;> omega
theorem elemL : Elem Try.prog 45 56 10 80 := Elem.mk Try.underlying45 (z := .agg #[.int .i64 0, .int .i64 0, .int .i64 0, .int .i64 0, .int .i64 0, .int .i64 0, .int .i64 0, .int .i64 0, .int .i64 0, .int .i64 0]) (by kernel_rfl) rfl (by omega)
/-- strictly rising, below n. -/
def Rise (bl : List Nat) (n : Nat) : Prop := (∀ k, k < bl.length → gN bl k < n) ∧ ∀ k, k + 1 < bl.length → gN bl k < gN bl (k + 1)
theorem Rise.a {bl : List Nat} {n k : Nat} (h : Rise bl n) (hk : k < bl.length) : -1 ≤ aAt bl k ∧ aAt bl k < gN bl k := by
  unfold aAt
  split
  · omega
  · have := h.2 (k - 1) (by omega)
    rw [show k - 1 + 1 = k by omega] at this
    omega

set_option maxRecDepth 100000 in
set_option maxHeartbeats 4000000 in
theorem lines_any (g : Nat) (q : PA) (n m K c : Nat) (B : Option Addr) (bl : List Nat) (xs : List It) (ms : List Int) (w : World) (P : Par w g q n m xs ms) (hB : Sl w 1 intC B K (ints bl)) (hr : Rise bl n) (hn : n ≤ 4096) (hm : 0 < m ∧ m ≤ 4096) (hK : K ≤ 4096)
    (hR : ∀ k, k < n → Right 31680 (gT xs k)) (hM : ∀ k, k < m → 1 ≤ gI ms k ∧ gI ms k ≤ 31680) :
    Calls Try.prog 51 #[.pointer (some ⟨g, 0, none⟩), .slice B K c] w fun e w' => ∃ A' c', e = .returned (.slice A' K c') ∧ Own w' w.heap.size 56 10 lnC A' K c' (linesN xs ms bl K) ∧ Below w.heap.size w w' := by
  have hlen : bl.length = K := by have := hB.len; simpa [ints] using this
  have HL := Lib.hid hlen
  clear hlen
  go_enter Try.func51, Try.ntmps51
  go_wp2_with fail
  go_loopw [5, 6, 7, 13] (fun vo va vc vi wr => ∃ (k : Nat) (A1 : Option Addr) (c1 : Nat), k ≤ K ∧ vi = .int .i64 k ∧ va = .int .i64 (aAt bl k) ∧ vc = .int .i64 (clAt xs ms bl k) ∧ vo = .slice A1 k c1 ∧ Own wr w.heap.size 56 10 lnC A1 k c1 (linesN xs ms bl k) ∧ Below w.heap.size w wr) (fun _ _ _ i _ => K - (intOf i).toNat)
  case atStart => exact ⟨0, none, 0, Nat.zero_le _, rfl, rfl, rfl, rfl, Own.nil_ _ _ _ _ _, Below.refl _ _⟩
  case round =>
    obtain ⟨k, A1, c1, hk, rfl, rfl, rfl, rfl, ho, hbw⟩ := hrel
    by_cases hlt : k < K
    · obtain ⟨ad, e, hl, r⟩ := (hB.below hbw).int hlt
      subst e
      rw [gI_ints (by rw [HL.out]; exact hlt)] at r
      have hb := hr.1 k (by rw [HL.out]; exact hlt)
      have ha := hr.a (k := k) (by rw [HL.out]; exact hlt)
      have hok : LnOk (lnAt xs ms bl k) := line_ok P.its.len P.mss.len hm.1 hb hn hR hM
      have hcl : 0 ≤ clAt xs ms bl k ∧ clAt xs ms bl k ≤ 3 := by
        unfold clAt
        split
        · omega
        · exact (line_ok P.its.len P.mss.len hm.1 (hr.1 (k - 1) (by rw [HL.out]; omega)) hn hR hM : LnOk (lnAt xs ms bl (k - 1))).cls
      have hbn : (lnAt xs ms bl k).br = gN bl k := rfl
      have cl := fun w h => line_any g q n m (gN bl k) k (aAt bl k) xs ms w h hb ha hn hm hR hM
      have cd := fun w h => demerits_any g q n m (gN bl k) (aAt bl k) (clAt xs ms bl k) (lnAt xs ms bl k) xs ms w h hb hbn (by omega) ⟨(hR _ hb).c0, (hR _ hb).c1⟩ hok.bad ⟨hok.over.1, by have := hok.over.2; omega⟩ hok.cls hcl
      have HA := Lib.hid (show aAt bl (k + 1) = (gN bl k : Int) from rfl)
      have HC := Lib.hid (show clAt xs ms bl (k + 1) = (lnAt xs ms bl k).cls from rfl)
      have HS := Lib.hid (linesN_succ xs ms bl k)
      rw [show demF 31680 xs (lnAt xs ms bl k) (gN bl k) (aAt bl k) (clAt xs ms bl k) = demAt xs ms bl k from rfl] at cd
      rw [show lineF xs ms (aAt bl k) (gN bl k) k = lnAt xs ms bl k from rfl] at cl
      have P1 := P.below hbw
      generalize demAt xs ms bl k = dm at *
      generalize lnAt xs ms bl k = x at *
      obtain ⟨xf, xt, xb, xm, xw, xr, xc, xbad, xo, xd⟩ := x
      unfold lnV at cl cd
      generalize aAt bl k = a at *
      generalize clAt xs ms bl k = cls at *
      generalize gN bl k = b at *
      clear hok hcl hbn
      go_upto_region 6 with fail
      go_cut [10] (fun v wx => ∃ p, v = .pointer (some ⟨p, 0, none⟩) ∧ wr.heap.size ≤ p ∧ Blk wx p 56 #[.int .i64 xf, .int .i64 xt, .int .i64 xb, .int .i64 xm, .int .i64 xw, .int .i64 xr, .int .i64 xc, .int .i64 xbad, .int .i64 xo, .int .i64 xd] ∧ Below wr.heap.size wr wx)
      case first =>
        go_wp2_with (first | (go_at_call 46; refine (cl _ P1).mono ?_; rintro e w3 ⟨rfl, hb3⟩))
        go_meet
        case rel => exact ⟨_, rfl, hb3.size, Blk.new _ _ _, hb3.alloc hb3.size _⟩
      case rest =>
        obtain ⟨p, rfl, hp, Bx, hb4⟩ := hcut
        clear cl
        go_upto_region 7 with fail
        go_cut [] (fun wx => Blk wx p 56 #[.int .i64 xf, .int .i64 xt, .int .i64 xb, .int .i64 xm, .int .i64 xw, .int .i64 xr, .int .i64 xc, .int .i64 xbad, .int .i64 xo, .int .i64 dm] ∧ Below wr.heap.size wr wx)
        case first =>
          have k0 : wc.cell? ⟨p, 0, none⟩ = some (.int .i64 xf) := Bx.cell 0 rfl
          have k1 : wc.cell? ⟨p, 1, none⟩ = some (.int .i64 xt) := Bx.cell 1 rfl
          have k2 : wc.cell? ⟨p, 2, none⟩ = some (.int .i64 xb) := Bx.cell 2 rfl
          have k3 : wc.cell? ⟨p, 3, none⟩ = some (.int .i64 xm) := Bx.cell 3 rfl
          have k4 : wc.cell? ⟨p, 4, none⟩ = some (.int .i64 xw) := Bx.cell 4 rfl
          have k5 : wc.cell? ⟨p, 5, none⟩ = some (.int .i64 xr) := Bx.cell 5 rfl
          have k6 : wc.cell? ⟨p, 6, none⟩ = some (.int .i64 xc) := Bx.cell 6 rfl
          have k7 : wc.cell? ⟨p, 7, none⟩ = some (.int .i64 xbad) := Bx.cell 7 rfl
          have k8 : wc.cell? ⟨p, 8, none⟩ = some (.int .i64 xo) := Bx.cell 8 rfl
          have k9 : wc.cell? ⟨p, 9, none⟩ = some (.int .i64 xd) := Bx.cell 9 rfl
          go_wp2_with (first | (go_at_call 61; refine (cd _ (P1.below hb4)).mono ?_; rintro e w5 ⟨rfl, hb5⟩; have B5 := Bx.below hb5; have f9 := B5.frozen 9; have c9 : w5.cell? ⟨p, 9, none⟩ = some (.int .i64 xd) := B5.cell 9 rfl))
          go_meet
          case rel => exact ⟨B5.set_ 9 (.int .i64 dm), setBw (below_trans' hb4 hb4.size hb5) hp 9 (.int .i64 dm)⟩
        case rest =>
          clear Bx
          obtain ⟨Bx, hb5⟩ := hcut
          have k0 : wc.cell? ⟨p, 0, none⟩ = some (.int .i64 xf) := Bx.cell 0 rfl
          have k1 : wc.cell? ⟨p, 1, none⟩ = some (.int .i64 xt) := Bx.cell 1 rfl
          have k2 : wc.cell? ⟨p, 2, none⟩ = some (.int .i64 xb) := Bx.cell 2 rfl
          have k3 : wc.cell? ⟨p, 3, none⟩ = some (.int .i64 xm) := Bx.cell 3 rfl
          have k4 : wc.cell? ⟨p, 4, none⟩ = some (.int .i64 xw) := Bx.cell 4 rfl
          have k5 : wc.cell? ⟨p, 5, none⟩ = some (.int .i64 xr) := Bx.cell 5 rfl
          have k6 : wc.cell? ⟨p, 6, none⟩ = some (.int .i64 xc) := Bx.cell 6 rfl
          have k7 : wc.cell? ⟨p, 7, none⟩ = some (.int .i64 xbad) := Bx.cell 7 rfl
          have k8 : wc.cell? ⟨p, 8, none⟩ = some (.int .i64 xo) := Bx.cell 8 rfl
          have k9 : wc.cell? ⟨p, 9, none⟩ = some (.int .i64 dm) := Bx.cell 9 rfl
          have ho5 := ho.below hb5
          have hbw5 := below_trans' hbw hbw.size hb5
          have hlt1 := ho.lt
          have hlp := Bx.lt
          go_wp2_with (at_builtin; refine wpList_push elemL rfl (.tmp 29) (.tmp 31) rfl rfl _ rfl (ho5.alloc _) (⟨xf, xt, xb, xm, xw, xr, xc, xbad, xo, dm⟩ : Ln) _ rfl (by simp) (lnC_one _) (lnC_len _) (by unfold maxLen; omega) (Nat.le_trans hbw5.size (by simp <;> omega)) ?_; intro A3 c3 w3 ho3 hg3 ha3; have Bz := (Bx.alloc _).keep hg3 (fun e => by have := (hlt1 p e).2; omega); have k60 : w3.cell? ⟨p, 6, none⟩ = some (.int .i64 xc) := Bz.cell 6 rfl)
          have hbw3 := (hbw5.alloc hbw5.size _).grown hg3 (Nat.le_trans hbw5.size (by simp)) (fun g hg => (hlt1 g hg).1)
          clear hg3 ha3 ho5 Bx Bz
          go_region
          all_goals go_wp2_with fail
          all_goals go_roundw
          case rel =>
            refine ⟨k + 1, A3, c3, by omega, by go_num, by rw [HA.out], by rw [HC.out], rfl, ?_, below_drewN hbw3 1⟩
            rw [HS.out]
            exact ho3.drewN 1
          case measure => simp [intOf]; omega
    · have hkK : k = K := by omega
      subst hkK
      go_wp2_with fail
      go_ret
      exact ⟨A1, c1, rfl, ho, hbw⟩
end Go.Proofs.Ytogbapdioccamaa
