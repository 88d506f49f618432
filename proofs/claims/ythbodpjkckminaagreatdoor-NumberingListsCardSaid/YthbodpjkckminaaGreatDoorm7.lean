/- The package's variables that the numerals read, and numeral.ordinal. Roman numerals, plain. numeral.roman, walked. numeral.Format. Words for memory: slices of slices. No program in sight. leveltext.digits, check; numbering.numbers, Shown. -/
import Derived.Test.YthbodpjkckminaaGreatDoorm6
import Derived.Test.YthbodpjkckminaaGreatDoorShelf
import Derived.Lib.LaidTab
import Derived.Lib.ItoaLen
import Derived.Deep.MidRow
import Derived.Deep.RegionHeld3
import Derived.Deep.DeepCutAuto
import Derived.WalkLawsBesides
import Derived.Test.YthbodpjkckminaaGreatDoorm1
namespace Go.Proofs.YthbodpjkckminaaGreatDoor
open Go.RowKit

def signsP : List (Int × ByteArray) := [(1000, ⟨#[109]⟩), (900, ⟨#[99, 109]⟩), (500, ⟨#[100]⟩), (400, ⟨#[99, 100]⟩), (100, ⟨#[99]⟩), (90, ⟨#[120, 99]⟩), (50, ⟨#[108]⟩), (40, ⟨#[120, 108]⟩), (10, ⟨#[120]⟩), (9, ⟨#[105, 120]⟩), (5, ⟨#[118]⟩), (4, ⟨#[105, 118]⟩), (1, ⟨#[105]⟩)]
def signsC : List Value := signsP.flatMap fun p => [.int .i64 p.1, .string p.2]
structure Gl (w : World) : Prop where
  pow : Lib.TabIs Tryz.prog w "internal/strconv.uint64pow10" .u64 Lib.pow10Tab
  signs : w.rangeAt 0 0 signsC
theorem Gl.of_heap {w w' : World} (h : Gl w) (hb : ∀ k, k < w.heap.size → w'.heap[k]? = w.heap[k]?) : Gl w' := by
  refine ⟨?_, fun j v hv => ?_⟩
  · have h1 := h.pow
    unfold Lib.TabIs World.var? at h1 ⊢
    cases hg : Program.globalNamed Tryz.prog "internal/strconv.uint64pow10" with
    | none => rw [hg] at h1; simp at h1
    | some g =>
      rw [hg] at h1
      simp only [Option.bind_some] at h1 ⊢
      have hlt : g < w.heap.size := by
        rcases Nat.lt_or_ge g w.heap.size with h' | h'
        · exact h'
        · rw [Array.getElem?_eq_none h'] at h1; simp at h1
      rw [hb g hlt]
      exact h1
  · have h1 := h.signs j v hv
    exact (World.cell?_of_block (hb _ (World.block_lt_of_cell? _ _ h1))).trans h1
theorem Gl.below {w w' : World} (h : Gl w) (hb : Below w.heap.size w w') : Gl w' := h.of_heap hb.block
theorem Gl.drewN {w : World} (h : Gl w) (n : Nat) : Gl (w.drewN n) := ⟨h.pow, h.signs⟩
theorem Gl.alloc {w : World} (h : Gl w) (o : Obj) : Gl (w.alloc o) := h.below ((Below.refl _ w).alloc (Nat.le_refl _) o)
def itoaB (n : Int) : ByteArray := ⟨(Lib.itoa n).toArray⟩
theorem itoa_any (n : Int) (w : World) (hg : Gl w) (h0 : -9223372036854775808 ≤ n) (h1 : n ≤ 9223372036854775807) : Calls Tryz.prog 193 #[.int .i64 n] w fun e w' => e = .returned (.string (itoaB n)) ∧ Below w.heap.size w w' := by
  refine (Tryz.strconv_Itoa n h0 h1 w hg.pow).mono ?_
  rintro e w' ⟨rfl, k, os, rfl⟩
  exact ⟨rfl, ⟨rfl, rfl, rfl, by simp [Sort.grow], fun k hk => by simp [Sort.grow, Array.getElem?_append, hk]⟩⟩
theorem itoaB_size (n : Int) (h0 : -9223372036854775808 ≤ n) (h1 : n ≤ 9223372036854775807) : (itoaB n).size ≤ 21 := by
  have := Lib.itoa_length_le n h0 h1
  unfold itoaB
  simpa [ByteArray.size] using this
/-- the ending of an ordinal number. -/
def ordE (n : Int) : ByteArray := if n / 10 % 10 = 1 then ⟨#[116, 104]⟩ else if n % 10 = 1 then ⟨#[115, 116]⟩ else if n % 10 = 2 then ⟨#[110, 100]⟩ else if n % 10 = 3 then ⟨#[114, 100]⟩ else ⟨#[116, 104]⟩
def ordB (n : Int) : ByteArray := itoaB n ++ ordE n
theorem ordB_size (n : Int) (h0 : -9223372036854775808 ≤ n) (h1 : n ≤ 9223372036854775807) : (ordB n).size ≤ 23 := by
  have := itoaB_size n h0 h1
  have h2 : (ordE n).size = 2 := by unfold ordE; repeat' split
                                    all_goals rfl
  unfold ordB
  rw [ByteArray.size_append]
  omega
set_option maxHeartbeats 4000000 in
set_option maxRecDepth 100000 in
theorem ordinal_any (n : Int) (w : World) (hg : Gl w) (h0 : 0 ≤ n) (h1 : n ≤ 1000000000) : Calls Tryz.prog 199 #[.int .i64 n] w fun e w' => e = .returned (.string (ordB n)) ∧ Below w.heap.size w w' := by
  have hi := fun W hW => itoa_any n W hW (by omega) (by omega)
  have hsz := itoaB_size n (by omega) (by omega)
  have t1 : n.tdiv 10 = n / 10 := Int.tdiv_eq_ediv_of_nonneg (by omega)
  have t2 : (n / 10).tmod 10 = n / 10 % 10 := Int.tmod_eq_emod_of_nonneg (by omega)
  have t3 : n.tmod 10 = n % 10 := Int.tmod_eq_emod_of_nonneg (by omega)
  have HO := Lib.hid (show ordB n = itoaB n ++ ordE n from rfl)
  have HE := Lib.hid (show ordE n = if n / 10 % 10 = 1 then ⟨#[116, 104]⟩ else if n % 10 = 1 then ⟨#[115, 116]⟩ else if n % 10 = 2 then ⟨#[110, 100]⟩ else if n % 10 = 3 then ⟨#[114, 100]⟩ else ⟨#[116, 104]⟩ from rfl)
  have q0 : 0 ≤ n / 10 := by omega
  have hsz2 : ¬ 9223372036854775807 < (itoaB n).size + 2 := by omega
  generalize itoaB n = s at *
  by_cases c0 : n / 10 % 10 = 1
  · have e0 : ordE n = ⟨#[116, 104]⟩ := by rw [HE.out, if_pos c0]
    have b0 : (n / 10 % 10 != 1) = false := by rw [bne_eq_false_iff_eq]; exact c0
    have HE := Lib.hid e0
    clear e0 c0
    go_enter Tryz.func199, Tryz.ntmps199
    go_wp2_with (first | (go_at_call 193; refine (hi _ hg).mono ?_; rintro e w1 ⟨rfl, hb⟩))
    go_ret
    exact ⟨by rw [HO.out, HE.out]; rfl, hb⟩
  · have b0 : (n / 10 % 10 != 1) = true := by rw [bne_iff_ne]; exact c0
    by_cases c1 : n % 10 = 1
    · have e0 : ordE n = ⟨#[115, 116]⟩ := by rw [HE.out, if_neg c0, if_pos c1]
      have b1 : (n % 10 == 1) = true := beq_iff_eq.2 c1
      have HE := Lib.hid e0
      clear e0 c0 c1
      go_enter Tryz.func199, Tryz.ntmps199
      go_wp2_with (first | (go_at_call 193; refine (hi _ hg).mono ?_; rintro e w1 ⟨rfl, hb⟩))
      go_ret
      exact ⟨by rw [HO.out, HE.out]; rfl, hb⟩
    · have b1 : (n % 10 == 1) = false := beq_eq_false_iff_ne.2 c1
      by_cases c2 : n % 10 = 2
      · have e0 : ordE n = ⟨#[110, 100]⟩ := by rw [HE.out, if_neg c0, if_neg c1, if_pos c2]
        have b2 : (n % 10 == 2) = true := beq_iff_eq.2 c2
        have HE := Lib.hid e0
        clear e0 c0 c1 c2
        go_enter Tryz.func199, Tryz.ntmps199
        go_wp2_with (first | (go_at_call 193; refine (hi _ hg).mono ?_; rintro e w1 ⟨rfl, hb⟩))
        go_ret
        exact ⟨by rw [HO.out, HE.out]; rfl, hb⟩
      · have b2 : (n % 10 == 2) = false := beq_eq_false_iff_ne.2 c2
        by_cases c3 : n % 10 = 3
        · have e0 : ordE n = ⟨#[114, 100]⟩ := by rw [HE.out, if_neg c0, if_neg c1, if_neg c2, if_pos c3]
          have b3 : (n % 10 == 3) = true := beq_iff_eq.2 c3
          have HE := Lib.hid e0
          clear e0 c0 c1 c2 c3
          go_enter Tryz.func199, Tryz.ntmps199
          go_wp2_with (first | (go_at_call 193; refine (hi _ hg).mono ?_; rintro e w1 ⟨rfl, hb⟩))
          go_ret
          exact ⟨by rw [HO.out, HE.out]; rfl, hb⟩
        · have b3 : (n % 10 == 3) = false := beq_eq_false_iff_ne.2 c3
          have e0 : ordE n = ⟨#[116, 104]⟩ := by rw [HE.out, if_neg c0, if_neg c1, if_neg c2, if_neg c3]
          have HE := Lib.hid e0
          clear e0 c0 c1 c2 c3
          go_enter Tryz.func199, Tryz.ntmps199
          go_wp2_with (first | (go_at_call 193; refine (hi _ hg).mono ?_; rintro e w1 ⟨rfl, hb⟩))
          go_ret
          exact ⟨by rw [HO.out, HE.out]; rfl, hb⟩
end Go.Proofs.YthbodpjkckminaaGreatDoor

namespace Go.Proofs.YthbodpjkckminaaGreatDoor

def romStep (st : Int × List UInt8) (p : Int × ByteArray) : Int × List UInt8 := (st.1 % p.1, st.2 ++ Lib.repeatL p.2.data.toList (st.1 / p.1).toNat)
def romF (n : Int) (i : Nat) : Int × List UInt8 := (signsP.take i).foldl romStep (n, [])
def romL (n : Int) : List UInt8 := (romF n 13).2
def romB (n : Int) : ByteArray := ⟨(romL n).toArray⟩
theorem romF_succ (n : Int) {i : Nat} (h : i < 13) : romF n (i + 1) = romStep (romF n i) (signsP.getD i (1, ⟨#[]⟩)) := by
  unfold romF
  rw [List.take_succ_eq_append_getElem (show i < signsP.length from h), List.foldl_append]
  show romStep _ signsP[i] = _
  rw [List.getD_eq_getElem?_getD, List.getElem?_eq_getElem (show i < signsP.length from h)]
  rfl
theorem lt13 {p : Nat → Prop} (h0 : p 0) (h1 : p 1) (h2 : p 2) (h3 : p 3) (h4 : p 4) (h5 : p 5) (h6 : p 6) (h7 : p 7) (h8 : p 8) (h9 : p 9) (h10 : p 10) (h11 : p 11) (h12 : p 12) (k : Nat) (hk : k < 13) : p k := by
  match k, hk with
  | 0, _ => exact h0
  | 1, _ => exact h1
  | 2, _ => exact h2
  | 3, _ => exact h3
  | 4, _ => exact h4
  | 5, _ => exact h5
  | 6, _ => exact h6
  | 7, _ => exact h7
  | 8, _ => exact h8
  | 9, _ => exact h9
  | 10, _ => exact h10
  | 11, _ => exact h11
  | 12, _ => exact h12
theorem sign_ok : ∀ i, i < 13 → 1 ≤ (signsP.getD i (1, ⟨#[]⟩)).1 ∧ (signsP.getD i (1, ⟨#[]⟩)).1 ≤ 1000 ∧ (signsP.getD i (1, ⟨#[]⟩)).2.size ≤ 2 ∧ ∀ b ∈ (signsP.getD i (1, ⟨#[]⟩)).2.data.toList, b.toNat < 128 :=
  lt13 (by decide) (by decide) (by decide) (by decide) (by decide) (by decide) (by decide) (by decide) (by decide) (by decide) (by decide) (by decide) (by decide)
theorem repeatL_len (l : List UInt8) : ∀ c : Nat, (Lib.repeatL l c).length = l.length * c
  | 0 => rfl
  | c + 1 => by
    show (l ++ Lib.repeatL l c).length = _
    rw [List.length_append, repeatL_len l c, Nat.mul_succ, Nat.add_comm]
theorem repeatL_mem {l : List UInt8} {b : UInt8} : ∀ {c : Nat}, b ∈ Lib.repeatL l c → b ∈ l
  | 0, h => by simp [Lib.repeatL] at h
  | c + 1, h => by
    rcases List.mem_append.1 (show b ∈ l ++ Lib.repeatL l c from h) with h | h
    · exact h
    · exact repeatL_mem h
theorem romF_ok (n : Int) (h0 : 0 ≤ n) (h1 : n ≤ 1000000) : ∀ i, i ≤ 13 → 0 ≤ (romF n i).1 ∧ (romF n i).1 ≤ 1000000 ∧ (romF n i).2.length ≤ 2000000 * i ∧ ∀ b ∈ (romF n i).2, b.toNat < 128
  | 0, _ => ⟨h0, h1, Nat.zero_le _, fun b h => absurd h (List.not_mem_nil)⟩
  | i + 1, h => by
    obtain ⟨a1, a2, a3, a4⟩ := romF_ok n h0 h1 i (by omega)
    obtain ⟨s1, s2, s3, s4⟩ := sign_ok i (by omega)
    rw [romF_succ n (by omega)]
    unfold romStep
    generalize signsP.getD i (1, ⟨#[]⟩) = p at *
    generalize romF n i = st at *
    have m0 := Int.emod_nonneg st.1 (show p.1 ≠ 0 by omega)
    have m1 := Int.emod_lt_of_pos st.1 (show 0 < p.1 by omega)
    have d0 : 0 ≤ st.1 / p.1 := Int.ediv_nonneg a1 (by omega)
    have d1 : st.1 / p.1 ≤ st.1 := Int.ediv_le_self _ a1
    refine ⟨m0, by show st.1 % p.1 ≤ _; omega, ?_, ?_⟩
    · show (st.2 ++ Lib.repeatL p.2.data.toList (st.1 / p.1).toNat).length ≤ _
      rw [List.length_append, repeatL_len]
      have e : p.2.data.toList.length = p.2.size := Array.length_toList
      rw [e]
      have h2 : p.2.size * (st.1 / p.1).toNat ≤ 2 * 1000000 := Nat.mul_le_mul s3 (by omega)
      omega
    · intro b hb
      rcases List.mem_append.1 hb with hb | hb
      · exact a4 b hb
      · exact s4 b (repeatL_mem hb)
theorem romB_size (n : Int) (h0 : 0 ≤ n) (h1 : n ≤ 1000000) : (romB n).size ≤ 26000000 := by
  have := (romF_ok n h0 h1 13 (Nat.le_refl _)).2.2.1
  exact this
theorem romB_ascii (n : Int) (h0 : 0 ≤ n) (h1 : n ≤ 1000000) : ∀ b ∈ (romB n).data.toList, b.toNat < 128 := by
  have := (romF_ok n h0 h1 13 (Nat.le_refl _)).2.2.2
  exact this
end Go.Proofs.YthbodpjkckminaaGreatDoor

namespace Go.Proofs.YthbodpjkckminaaGreatDoor
open Go.RowKit

theorem ibBelow {T e : TypeId} {B b : Nat} {bs : List Value} {w w' : World} (h : Lib.IsBuilderF T e B b bs w) (hb : Below w.heap.size w w') : Lib.IsBuilderF T e B b bs w' := by
  have one : ∀ p, Lib.BuilderAtF T e B b p bs w → Lib.BuilderAtF T e B b p bs w' := by
    rintro p ⟨hB, v, hv, hown, hne⟩
    have hlt : b < w.heap.size := by
      rcases Nat.lt_or_ge b w.heap.size with h' | h'
      · exact h'
      · simp [Array.getElem?_eq_none h'] at hv
    refine ⟨hB, v, (hb.block b hlt).trans hv, hown.kept (row := none) ⟨hb.os, hb.tape, hb.output, hb.size, fun k hk _ => hb.block k hk⟩ ?_, hne⟩
    cases v.ownBlock with
    | none => exact .inl rfl
    | some g => exact .inr (by simp)
  exact h.elim (fun x => .inl (one _ x)) (fun x => .inr (one _ x))
theorem sign_index : ∀ i, i < 13 → ∀ w, (Instr.index 324 (.agg signsC.toArray) (.int .i64 ((i : Nat) : Int))).run Tryz.prog w = .ok (.agg #[.int .i64 (signsP.getD i (1, ⟨#[]⟩)).1, .string (signsP.getD i (1, ⟨#[]⟩)).2]) w :=
  lt13 (p := fun i => ∀ w, (Instr.index 324 (.agg signsC.toArray) (.int .i64 ((i : Nat) : Int))).run Tryz.prog w = .ok (.agg #[.int .i64 (signsP.getD i (1, ⟨#[]⟩)).1, .string (signsP.getD i (1, ⟨#[]⟩)).2]) w) (fun w => by kernel_rfl) (fun w => by kernel_rfl) (fun w => by kernel_rfl) (fun w => by kernel_rfl) (fun w => by kernel_rfl) (fun w => by kernel_rfl) (fun w => by kernel_rfl) (fun w => by kernel_rfl) (fun w => by kernel_rfl) (fun w => by kernel_rfl) (fun w => by kernel_rfl) (fun w => by kernel_rfl) (fun w => by kernel_rfl)
theorem size179 : (Tryz.prog.info? 324).map (·.size) = some signsC.length := by kernel_rfl
theorem keptCell {b p : Nat} {t : TypeId} {cs : Array Value} {w w' : World} (h : Lib.OthersKept 5 (some b) w w') (hp : w.heap[p]? = some (.cells cs t (0, 0))) (hb : p ≠ b) (ht : t ≠ 5) : w'.heap[p]? = some (.cells cs t (0, 0)) :=
  h p _ hp (fun e => hb (Option.some.inj e)) (fun c fz e => by injection e with _ e2 _; exact ht e2)
set_option maxHeartbeats 8000000 in
set_option maxRecDepth 100000 in
theorem roman_any (n : Int) (w : World) (hg : Gl w) (h0 : 0 ≤ n) (h1 : n ≤ 1000000) : Calls Tryz.prog 197 #[.int .i64 n] w fun e w' => e = .returned (.string (romB n)) ∧ Below w.heap.size w w' := by
  have HR := Lib.hid (romF_ok n h0 h1)
  have HS := Lib.hid sign_ok
  have HX := Lib.hid sign_index
  have hi9 := size179
  have rg := hg.signs
  have hA := (Below.refl w.heap.size w).alloc (Nat.le_refl _) (.cells #[.pointer none, .slice none 0 0] 195)
  have rg2 := (hg.below hA).signs
  have B0 : Lib.IsBuilderF 195 5 w.heap.size w.heap.size (Lib.byteCells []) (w.alloc (.cells #[.pointer none, .slice none 0 0] 195)) := Lib.IsBuilderF.of (Lib.fresh_isBuilder 195 5 w)
  go_enter Tryz.func197, Tryz.ntmps197
  go_wp2_with (refine wpList_load_mid rfl 324 _ rfl 0 0 rfl signsC _ rg2 Tryz.underlying324 rfl hi9 ?_)
  go_loopw [0, 7] (fun vn vi wr => ∃ i : Nat, vi = .int .i64 i ∧ i ≤ 13 ∧ vn = .int .i64 (romF n i).1 ∧ Lib.IsBuilderF 195 5 w.heap.size w.heap.size (Lib.byteCells (romF n i).2) wr ∧ Below w.heap.size w wr) (fun _ vi _ => 13 - (intOf vi).toNat)
  case atStart => exact ⟨0, rfl, by omega, rfl, B0, hA⟩
  case round =>
    obtain ⟨i, rfl, hi, rfl, hB, hbw⟩ := hrel
    clear rg rg2 hA B0
    have ro := HR.out i hi
    by_cases hlt : i < 13
    · have hlt' : (i : Int) < 13 := by omega
      have so := HS.out i hlt
      have hix := HX.out i hlt
      have HT := Lib.hid (romF_succ n hlt)
      unfold romStep at HT
      generalize signsP.getD i (1, ⟨#[]⟩) = p at *
      generalize romF n i = st at *
      obtain ⟨pv, ps⟩ := p
      obtain ⟨x, l⟩ := st
      simp only at so hix hB ro HT
      go_upto_region 4 with fail
      go_cut [5] (fun v5 wx => ∃ p5, v5 = .pointer (some ⟨p5, 0, none⟩) ∧ Blk wx p5 323 #[.int .i64 pv, .string ps] ∧ wr.heap.size ≤ p5 ∧ Below wr.heap.size wr wx)
      case first =>
        go_wp2_with fail
        go_meet
        case rel => exact ⟨_, rfl, Blk.new _ _ _, Nat.le_refl _, (Below.refl _ _).alloc (Nat.le_refl _) _⟩
      case rest =>
      obtain ⟨p5, rfl, B5, hp5, hb4⟩ := hcut
      have hB2 := ibBelow hB hb4
      have hbc := below_trans' hbw hbw.size hb4
      have np : p5 ≠ w.heap.size := by
        have : w.heap.size < wr.heap.size := by
          rcases hB with ⟨_, v, hv, _⟩ | ⟨_, v, hv, _⟩
          · rcases Nat.lt_or_ge w.heap.size wr.heap.size with h' | h'
            · exact h'
            · simp [Array.getElem?_eq_none h'] at hv
          · rcases Nat.lt_or_ge w.heap.size wr.heap.size with h' | h'
            · exact h'
            · simp [Array.getElem?_eq_none h'] at hv
        omega
      clear hB hbw hb4 hix
      have q0 : wc.cell? ⟨p5, 0, none⟩ = some (.int .i64 pv) := B5.cell 0 rfl
      have q1 : wc.cell? ⟨p5, 1, none⟩ = some (.string ps) := B5.cell 1 rfl
      have d0 : 0 ≤ x / pv := Int.ediv_nonneg ro.1 (by omega)
      have d1 : x / pv ≤ x := Int.ediv_le_self _ ro.1
      obtain ⟨c, hc⟩ : ∃ c : Nat, (c : Int) = x / pv := ⟨(x / pv).toNat, by omega⟩
      have hc2 : (x / pv).toNat = c := by omega
      rw [hc2] at HT
      have t1 : x.tdiv pv = (c : Int) := by rw [Int.tdiv_eq_ediv_of_nonneg ro.1]; omega
      have t2 : x.tmod pv = x % pv := Int.tmod_eq_emod_of_nonneg ro.1
      have m0 := Int.emod_nonneg x (show pv ≠ 0 by omega)
      have m1 := Int.emod_lt_of_pos x (show 0 < pv by omega)
      have w0 : IntKind.i64.wrap (c : Int) = (c : Int) := IntWalk.i64_in _ (by omega)
      have w1 : IntKind.i64.wrap (x % pv) = x % pv := IntWalk.i64_in _ (by omega)
      have hz : (pv == 0) = false := beq_eq_false_iff_ne.2 (by omega)
      have hz2 : ¬ pv = 0 := by omega
      have hlen : ps.size * c ≤ 2 * 1000000 := Nat.mul_le_mul so.2.2.1 (by omega)
      have hl2 := ro.2.2.1
      have hrep := fun W => Tryz.strings_Repeat ps c W (by omega) (by omega)
      have hsz : (⟨(Lib.repeatL ps.data.toList c).toArray⟩ : ByteArray).size = ps.size * c := by
        show (Lib.repeatL ps.data.toList c).toArray.size = _
        rw [List.size_toArray, repeatL_len]
        rfl
      have hwr := fun W (hW : Lib.IsBuilderF 195 5 w.heap.size w.heap.size (Lib.byteCells l) W) (hW2 : w.heap.size ≤ W.heap.size) => bWrite w.heap.size w.heap.size l ⟨(Lib.repeatL ps.data.toList c).toArray⟩ W hW (by rw [hsz]; omega) hW2
      have HC := Lib.hid hc
      clear hc hc2 hsz
      go_upto_region 5 with fail
      go_region_held3 (fun w' => w'.cell? ⟨p5, 0, none⟩ = some (.int .i64 pv) ∧ w'.cell? ⟨p5, 1, none⟩ = some (.string ps))
        (first | (with_reducible exact ⟨s0, s1⟩) | (with_reducible exact ⟨r0, r1⟩) | go_keep)
        (first
          | (go_at_call 211; refine (hrep _).mono ?_; rintro er w5 ⟨rfl, hb5⟩; have r0 := (hb5.cell (p := ⟨p5, 0, none⟩) (World.block_lt_of_cell? _ _ (q0 : (wc.drewN 1).cell? _ = _))).trans q0; have r1 := (hb5.cell (p := ⟨p5, 1, none⟩) (World.block_lt_of_cell? _ _ (q1 : (wc.drewN 1).cell? _ = _))).trans q1; have hB3 := ibBelow hB2 (nbDrew (q := 1) hb5); have B6 := B5.below (nbDrew (q := 1) hb5); have hbd := below_trans' hbc hbc.size (nbDrew (q := 1) hb5))
          | (go_at_call 121; refine (hwr w5 hB3 hbd.size).mono ?_; rintro er w6 ⟨rfl, hB4, hb6, hk6⟩; have B7 : Blk w6 p5 323 #[.int .i64 pv, .string ps] := keptCell hk6 B6 np (by decide); have s0 := B7.cell 0 rfl; have s1 := B7.cell 1 rfl))
      all_goals
        go_wp2_with fail
        go_roundw
        case measure => rw [intOf, intOf]; omega
        case rel => exact ⟨i + 1, by simp, by omega, by rw [HT.out], by rw [HT.out]; exact hB4, hbd.trans hb6⟩
    · have : i = 13 := by omega
      subst this
      go_wp2_with (first | (go_at_call 123; refine (Tryz.Builder_String_any_f w.heap.size w.heap.size (romF n 13).2 wr hB hbw.size).mono ?_; rintro er w7 ⟨rfl, _, hb7⟩))
      go_ret
      exact ⟨rfl, hbw.trans hb7⟩
end Go.Proofs.YthbodpjkckminaaGreatDoor

namespace Go.Proofs.YthbodpjkckminaaGreatDoor
open Go.RowKit

def upB (s : ByteArray) : ByteArray := ⟨(Lib.toUpperA s.data.toList).toArray⟩
def bulB : ByteArray := ⟨#[226, 128, 162]⟩
theorem lettersB_ascii : ∀ (f : Nat) (n : Int), ∀ b ∈ (lettersB f n).data.toList, b.toNat < 128
  | 0, _ => fun b h => absurd h (List.not_mem_nil)
  | f + 1, n => fun b h => by
    unfold lettersB at h
    by_cases h0 : n ≤ 0
    · rw [if_pos h0] at h; exact absurd h (List.not_mem_nil)
    · rw [if_neg h0, ByteArray.data_append, Array.toList_append] at h
      rcases List.mem_append.1 h with h | h
      · exact lettersB_ascii f _ b h
      · have e : b = UInt8.ofNat (97 + ((n - 1) % 26).toNat) := by simpa using h
        have m0 := Int.emod_nonneg (n - 1) (show (26 : Int) ≠ 0 by omega)
        have m1 := Int.emod_lt_of_pos (n - 1) (show (0 : Int) < 26 by omega)
        rw [e, UInt8.toNat_ofNat', Nat.mod_eq_of_lt (by omega)]
        omega
theorem up_any (s : ByteArray) (w : World) (hs : s.size ≤ 140737488355328) (ha : ∀ b ∈ s.data.toList, b.toNat < 128) : Calls Tryz.prog 196 #[.string s] w fun e w' => e = .returned (.string (upB s)) ∧ Below w.heap.size w w' :=
  Tryz.strings_ToUpper_ascii s w hs fun _ b h => ha b (List.mem_of_getElem? h)
set_option maxRecDepth 100000 in
theorem upl_any (n : Int) (w : World) (h0 : 0 ≤ n) (h1 : n ≤ 1000000) : Calls Tryz.prog 195 #[.int .i64 n] w fun e w' => e = .returned (.string (upB (lettersB 20 n))) ∧ Below w.heap.size w w' := by
  have hl := fun W => letters_any 20 n W (by omega) (by omega) (by omega) (by omega)
  have hu := fun W => up_any (lettersB 20 n) W (by have := lettersB_size 20 n; omega) (lettersB_ascii 20 n)
  generalize lettersB 20 n = s at *
  go_enter Tryz.func195, Tryz.ntmps195
  go_wp2_with (first | (go_at_call 194; refine (hl _).mono ?_; rintro e w1 ⟨rfl, hb1⟩) | (go_at_call 196; refine (hu _).mono ?_; rintro e w2 ⟨rfl, hb2⟩))
  go_ret
  exact ⟨rfl, below_trans' hb1 hb1.size hb2⟩
set_option maxRecDepth 100000 in
theorem upr_any (n : Int) (w : World) (hg : Gl w) (h0 : 0 ≤ n) (h1 : n ≤ 1000000) : Calls Tryz.prog 198 #[.int .i64 n] w fun e w' => e = .returned (.string (upB (romB n))) ∧ Below w.heap.size w w' := by
  have hl := fun W hW => roman_any n W hW h0 h1
  have hu := fun W => up_any (romB n) W (by have := romB_size n h0 h1; omega) (romB_ascii n h0 h1)
  generalize romB n = s at *
  go_enter Tryz.func198, Tryz.ntmps198
  go_wp2_with (first | (go_at_call 197; refine (hl _ hg).mono ?_; rintro e w1 ⟨rfl, hb1⟩) | (go_at_call 196; refine (hu _).mono ?_; rintro e w2 ⟨rfl, hb2⟩))
  go_ret
  exact ⟨rfl, below_trans' hb1 hb1.size hb2⟩
set_option maxRecDepth 100000 in
theorem bul_any (n : Int) (w : World) : Calls Tryz.prog 200 #[.int .i64 n] w fun e w' => e = .returned (.string bulB) ∧ Below w.heap.size w w' := by
  go_enter Tryz.func200, Tryz.ntmps200
  go_wp2
  go_ret
  exact ⟨rfl, Below.refl _ _⟩
def formB (f n : Int) : ByteArray := if f = 1 then itoaB n else if f = 2 then lettersB 20 n else if f = 3 then upB (lettersB 20 n) else if f = 4 then romB n else if f = 5 then upB (romB n) else if f = 6 then ordB n else bulB
def formE (f n : Int) : Int := if 1 ≤ f ∧ f ≤ 7 then (if n < rngL f ∨ rngG f < n then 2 else 0) else 3
def formS (f n : Int) : ByteArray := if formE f n = 0 then formB f n else ⟨#[]⟩
set_option maxHeartbeats 4000000 in
set_option maxRecDepth 100000 in
theorem format_any (f n : Int) (w : World) (hg : Gl w) : Calls Tryz.prog 153 #[.int .i64 f, .int .i64 n] w fun e w' => e = .returned (.tuple #[.string (formS f n), .int .i64 (formE f n)]) ∧ Below w.heap.size w w' := by
  have hr := fun W => range_any f W
  have HE := Lib.hid (show formE f n = if 1 ≤ f ∧ f ≤ 7 then (if n < rngL f ∨ rngG f < n then 2 else 0) else 3 from rfl)
  have HS := Lib.hid (show formS f n = if formE f n = 0 then formB f n else ⟨#[]⟩ from rfl)
  by_cases hf : 1 ≤ f ∧ f ≤ 7
  · have e0 : rngE f = 0 := if_pos hf
    rw [e0] at hr
    have HE2 := Lib.hid (HE.out.trans (if_pos hf))
    clear HE e0
    by_cases hb : n < rngL f ∨ rngG f < n
    · have HE3 := Lib.hid (HE2.out.trans (if_pos hb))
      have HS3 := Lib.hid (HS.out.trans (if_neg (by rw [HE3.out]; omega)))
      clear HE2 HS
      generalize rngL f = lo at *
      generalize rngG f = hi at *
      rcases hb with hb | hb
      all_goals
        by_cases hc : n < lo
        all_goals
          go_enter Tryz.func153, Tryz.ntmps153
          go_wp2_with (first | (go_at_call 180; refine (hr _).mono ?_; rintro e w1 ⟨rfl, rfl⟩))
          go_ret2
          rw [HS3.out, HE3.out]
          exact ⟨rfl, Below.refl _ _⟩
    · have HE3 := Lib.hid (HE2.out.trans (if_neg hb))
      have HS3 := Lib.hid (HS.out.trans (if_pos HE3.out))
      clear HE2 HS
      rcases (show f = 1 ∨ f = 2 ∨ f = 3 ∨ f = 4 ∨ f = 5 ∨ f = 6 ∨ f = 7 by omega) with rfl | rfl | rfl | rfl | rfl | rfl | rfl
      · have hlo : 0 ≤ n ∧ n ≤ 999999 := by
          have h1 : rngL 1 = 0 := rfl
          have h2 : rngG 1 = 999999 := rfl
          omega
        have h1 : ¬ n < 0 := by omega
        have h2 : ¬ 999999 < n := by omega
        have hr2 : ∀ W, Calls Tryz.prog 180 #[.int .i64 1] W fun e w' => e = .returned (.tuple #[.int .i64 0, .int .i64 999999, .int .i64 0]) ∧ w' = W := hr
        have hf := fun W (hW : Gl W) => itoa_any n W hW (by omega) (by omega)
        have HB : Hid (formB 1 n = itoaB n) := Lib.hid rfl
        clear hr hb
        generalize itoaB n = s at *
        go_enter Tryz.func153, Tryz.ntmps153
        go_wp2_with (first
          | (go_at_call 180; refine (hr2 _).mono ?_; rintro e w1 ⟨rfl, rfl⟩)
          | (go_at_call 181; refine (formats_any _).mono ?_; rintro e w2 ⟨rfl, hm, hb2⟩; have hgb := hg.below hb2; have hlk : (Instr.lookup 301 (.map (some w1.heap.size)) (.int .i64 1) false).run Tryz.prog w2 = .ok (.func (.func 193) #[] #[]) w2 := formats_at hm (by omega); clear hm)
          | (go_at_call 193; refine (hf _ hgb).mono ?_; rintro e w3 ⟨rfl, hb3⟩))
        go_ret2
        rw [HS3.out, HE3.out, HB.out]
        exact ⟨rfl, below_trans' hb2 hb2.size hb3⟩
      · have hlo : 1 ≤ n ∧ n ≤ 999999 := by
          have h1 : rngL 2 = 1 := rfl
          have h2 : rngG 2 = 999999 := rfl
          omega
        have h1 : ¬ n < 1 := by omega
        have h2 : ¬ 999999 < n := by omega
        have hr2 : ∀ W, Calls Tryz.prog 180 #[.int .i64 2] W fun e w' => e = .returned (.tuple #[.int .i64 1, .int .i64 999999, .int .i64 0]) ∧ w' = W := hr
        have hf := fun W (hW : Gl W) => letters_any 20 n W (by omega) (by omega) (by omega) (by omega)
        have HB : Hid (formB 2 n = lettersB 20 n) := Lib.hid rfl
        clear hr hb
        generalize lettersB 20 n = s at *
        go_enter Tryz.func153, Tryz.ntmps153
        go_wp2_with (first
          | (go_at_call 180; refine (hr2 _).mono ?_; rintro e w1 ⟨rfl, rfl⟩)
          | (go_at_call 181; refine (formats_any _).mono ?_; rintro e w2 ⟨rfl, hm, hb2⟩; have hgb := hg.below hb2; have hlk : (Instr.lookup 301 (.map (some w1.heap.size)) (.int .i64 2) false).run Tryz.prog w2 = .ok (.func (.func 194) #[] #[]) w2 := formats_at hm (by omega); clear hm)
          | (go_at_call 194; refine (hf _ hgb).mono ?_; rintro e w3 ⟨rfl, hb3⟩))
        go_ret2
        rw [HS3.out, HE3.out, HB.out]
        exact ⟨rfl, below_trans' hb2 hb2.size hb3⟩
      · have hlo : 1 ≤ n ∧ n ≤ 999999 := by
          have h1 : rngL 3 = 1 := rfl
          have h2 : rngG 3 = 999999 := rfl
          omega
        have h1 : ¬ n < 1 := by omega
        have h2 : ¬ 999999 < n := by omega
        have hr2 : ∀ W, Calls Tryz.prog 180 #[.int .i64 3] W fun e w' => e = .returned (.tuple #[.int .i64 1, .int .i64 999999, .int .i64 0]) ∧ w' = W := hr
        have hf := fun W (hW : Gl W) => upl_any n W (by omega) (by omega)
        have HB : Hid (formB 3 n = upB (lettersB 20 n)) := Lib.hid rfl
        clear hr hb
        generalize upB (lettersB 20 n) = s at *
        go_enter Tryz.func153, Tryz.ntmps153
        go_wp2_with (first
          | (go_at_call 180; refine (hr2 _).mono ?_; rintro e w1 ⟨rfl, rfl⟩)
          | (go_at_call 181; refine (formats_any _).mono ?_; rintro e w2 ⟨rfl, hm, hb2⟩; have hgb := hg.below hb2; have hlk : (Instr.lookup 301 (.map (some w1.heap.size)) (.int .i64 3) false).run Tryz.prog w2 = .ok (.func (.func 195) #[] #[]) w2 := formats_at hm (by omega); clear hm)
          | (go_at_call 195; refine (hf _ hgb).mono ?_; rintro e w3 ⟨rfl, hb3⟩))
        go_ret2
        rw [HS3.out, HE3.out, HB.out]
        exact ⟨rfl, below_trans' hb2 hb2.size hb3⟩
      · have hlo : 1 ≤ n ∧ n ≤ 3999 := by
          have h1 : rngL 4 = 1 := rfl
          have h2 : rngG 4 = 3999 := rfl
          omega
        have h1 : ¬ n < 1 := by omega
        have h2 : ¬ 3999 < n := by omega
        have hr2 : ∀ W, Calls Tryz.prog 180 #[.int .i64 4] W fun e w' => e = .returned (.tuple #[.int .i64 1, .int .i64 3999, .int .i64 0]) ∧ w' = W := hr
        have hf := fun W (hW : Gl W) => roman_any n W hW (by omega) (by omega)
        have HB : Hid (formB 4 n = romB n) := Lib.hid rfl
        clear hr hb
        generalize romB n = s at *
        go_enter Tryz.func153, Tryz.ntmps153
        go_wp2_with (first
          | (go_at_call 180; refine (hr2 _).mono ?_; rintro e w1 ⟨rfl, rfl⟩)
          | (go_at_call 181; refine (formats_any _).mono ?_; rintro e w2 ⟨rfl, hm, hb2⟩; have hgb := hg.below hb2; have hlk : (Instr.lookup 301 (.map (some w1.heap.size)) (.int .i64 4) false).run Tryz.prog w2 = .ok (.func (.func 197) #[] #[]) w2 := formats_at hm (by omega); clear hm)
          | (go_at_call 197; refine (hf _ hgb).mono ?_; rintro e w3 ⟨rfl, hb3⟩))
        go_ret2
        rw [HS3.out, HE3.out, HB.out]
        exact ⟨rfl, below_trans' hb2 hb2.size hb3⟩
      · have hlo : 1 ≤ n ∧ n ≤ 3999 := by
          have h1 : rngL 5 = 1 := rfl
          have h2 : rngG 5 = 3999 := rfl
          omega
        have h1 : ¬ n < 1 := by omega
        have h2 : ¬ 3999 < n := by omega
        have hr2 : ∀ W, Calls Tryz.prog 180 #[.int .i64 5] W fun e w' => e = .returned (.tuple #[.int .i64 1, .int .i64 3999, .int .i64 0]) ∧ w' = W := hr
        have hf := fun W (hW : Gl W) => upr_any n W hW (by omega) (by omega)
        have HB : Hid (formB 5 n = upB (romB n)) := Lib.hid rfl
        clear hr hb
        generalize upB (romB n) = s at *
        go_enter Tryz.func153, Tryz.ntmps153
        go_wp2_with (first
          | (go_at_call 180; refine (hr2 _).mono ?_; rintro e w1 ⟨rfl, rfl⟩)
          | (go_at_call 181; refine (formats_any _).mono ?_; rintro e w2 ⟨rfl, hm, hb2⟩; have hgb := hg.below hb2; have hlk : (Instr.lookup 301 (.map (some w1.heap.size)) (.int .i64 5) false).run Tryz.prog w2 = .ok (.func (.func 198) #[] #[]) w2 := formats_at hm (by omega); clear hm)
          | (go_at_call 198; refine (hf _ hgb).mono ?_; rintro e w3 ⟨rfl, hb3⟩))
        go_ret2
        rw [HS3.out, HE3.out, HB.out]
        exact ⟨rfl, below_trans' hb2 hb2.size hb3⟩
      · have hlo : 1 ≤ n ∧ n ≤ 999999 := by
          have h1 : rngL 6 = 1 := rfl
          have h2 : rngG 6 = 999999 := rfl
          omega
        have h1 : ¬ n < 1 := by omega
        have h2 : ¬ 999999 < n := by omega
        have hr2 : ∀ W, Calls Tryz.prog 180 #[.int .i64 6] W fun e w' => e = .returned (.tuple #[.int .i64 1, .int .i64 999999, .int .i64 0]) ∧ w' = W := hr
        have hf := fun W (hW : Gl W) => ordinal_any n W hW (by omega) (by omega)
        have HB : Hid (formB 6 n = ordB n) := Lib.hid rfl
        clear hr hb
        generalize ordB n = s at *
        go_enter Tryz.func153, Tryz.ntmps153
        go_wp2_with (first
          | (go_at_call 180; refine (hr2 _).mono ?_; rintro e w1 ⟨rfl, rfl⟩)
          | (go_at_call 181; refine (formats_any _).mono ?_; rintro e w2 ⟨rfl, hm, hb2⟩; have hgb := hg.below hb2; have hlk : (Instr.lookup 301 (.map (some w1.heap.size)) (.int .i64 6) false).run Tryz.prog w2 = .ok (.func (.func 199) #[] #[]) w2 := formats_at hm (by omega); clear hm)
          | (go_at_call 199; refine (hf _ hgb).mono ?_; rintro e w3 ⟨rfl, hb3⟩))
        go_ret2
        rw [HS3.out, HE3.out, HB.out]
        exact ⟨rfl, below_trans' hb2 hb2.size hb3⟩
      · have hlo : 1 ≤ n ∧ n ≤ 999999 := by
          have h1 : rngL 7 = 1 := rfl
          have h2 : rngG 7 = 999999 := rfl
          omega
        have h1 : ¬ n < 1 := by omega
        have h2 : ¬ 999999 < n := by omega
        have hr2 : ∀ W, Calls Tryz.prog 180 #[.int .i64 7] W fun e w' => e = .returned (.tuple #[.int .i64 1, .int .i64 999999, .int .i64 0]) ∧ w' = W := hr
        have hf := fun W (hW : Gl W) => bul_any n W
        have HB : Hid (formB 7 n = bulB) := Lib.hid rfl
        clear hr hb
        generalize bulB = s at *
        go_enter Tryz.func153, Tryz.ntmps153
        go_wp2_with (first
          | (go_at_call 180; refine (hr2 _).mono ?_; rintro e w1 ⟨rfl, rfl⟩)
          | (go_at_call 181; refine (formats_any _).mono ?_; rintro e w2 ⟨rfl, hm, hb2⟩; have hgb := hg.below hb2; have hlk : (Instr.lookup 301 (.map (some w1.heap.size)) (.int .i64 7) false).run Tryz.prog w2 = .ok (.func (.func 200) #[] #[]) w2 := formats_at hm (by omega); clear hm)
          | (go_at_call 200; refine (hf _ hgb).mono ?_; rintro e w3 ⟨rfl, hb3⟩))
        go_ret2
        rw [HS3.out, HE3.out, HB.out]
        exact ⟨rfl, below_trans' hb2 hb2.size hb3⟩
  · have e0 : rngE f = 3 := if_neg hf
    rw [e0] at hr
    have HE3 := Lib.hid (HE.out.trans (if_neg hf))
    have HS3 := Lib.hid (HS.out.trans (if_neg (by rw [HE3.out]; omega)))
    clear HE HS e0 hf
    generalize rngL f = lo at *
    generalize rngG f = hi at *
    go_enter Tryz.func153, Tryz.ntmps153
    go_wp2_with (first | (go_at_call 180; refine (hr _).mono ?_; rintro e w1 ⟨rfl, rfl⟩))
    go_ret2
    rw [HS3.out, HE3.out]
    exact ⟨rfl, Below.refl _ _⟩
end Go.Proofs.YthbodpjkckminaaGreatDoor

namespace Go.Proofs.YthbodpjkckminaaGreatDoor
open Go.RowKit

section
variable {P : Program} {t e : TypeId} {s : Nat} {α : Type} {enc : α → List Value}
theorem Sl.drop_ {w : World} {ad : Addr} {n : Nat} {xs : List α} (h : Sl w s enc (some ad) n xs) {k : Nat} (hk : k ≤ n) : Sl w s enc (some (ad.add (k * s))) (n - k) (xs.drop k) := by
  refine ⟨by rw [List.length_drop, h.len], fun hn => ?_⟩
  obtain ⟨ad', e, hl, hc⟩ := h.rd (by omega)
  injection e with e
  subst e
  refine ⟨_, rfl, by rw [block_add]; exact hl, fun i x hx j u hu => ?_⟩
  rw [List.getElem?_drop] at hx
  have := hc (k + i) x hx j u hu
  rw [add_add_, show k * s + (i * s + j) = (k + i) * s + j by rw [Nat.add_mul]; omega]
  exact this
def cutA (A : Option Addr) (l c s : Nat) : Option Addr := if c = l then A else A.map (·.add (l * s))
theorem Sl.cut {w : World} {A : Option Addr} {n c : Nat} {xs : List α} (h : Sl w s enc A n xs) {l k : Nat} (h1 : l ≤ k) (h2 : k ≤ n) (hc : n ≤ c) : Sl w s enc (cutA A l c s) (k - l) ((xs.drop l).take (k - l)) := by
  by_cases h0 : k = l
  · subst h0
    rw [Nat.sub_self, List.take_zero]
    exact ⟨rfl, fun h => absurd h (by omega)⟩
  · obtain ⟨ad, e, _, _⟩ := h.rd (by omega)
    subst e
    unfold cutA
    rw [if_neg (by omega)]
    exact (h.drop_ (k := l) (by omega)).take (by omega)
theorem run_cut_lh (ht : P.underlying t = some (.slice e)) (hs : ∀ w, (sizeOf e).run P w = .ok s w) (A : Option Addr) {n c l k : Nat} (h1 : l ≤ k) (h2 : k ≤ n) (hc : n ≤ c) (w : World) :
    (Instr.slice t (.slice A n c) (some (.int .i64 l)) (some (.int .i64 k)) none).run P w = .ok (.slice (cutA A l c s) (k - l) (c - l)) w := by
  have he : P.elem t = e := by unfold Program.elem; rw [ht]
  rw [run_slice_lh w t A n c (by rw [he]; exact ht) _ _ _ _ (by omega) (by omega) (by omega), he, hs]
  simp only [Result.andThen, sliced, Int.toNat_natCast]
  rfl
theorem run_cut_l (ht : P.underlying t = some (.slice e)) (hs : ∀ w, (sizeOf e).run P w = .ok s w) (A : Option Addr) {n c l : Nat} (h1 : l ≤ n) (w : World) :
    (Instr.slice t (.slice A n c) (some (.int .i64 l)) none none).run P w = .ok (.slice (cutA A l c s) (n - l) (c - l)) w := by
  have he : P.elem t = e := by unfold Program.elem; rw [ht]
  rw [run_slice_l w t A n c (by rw [he]; exact ht) _ _ (by omega) (by omega), he, hs]
  simp only [Result.andThen, sliced, Int.toNat_natCast]
  rfl
theorem run_cut_h (ht : P.underlying t = some (.slice e)) (hs : ∀ w, (sizeOf e).run P w = .ok s w) (A : Option Addr) {n c k : Nat} (h2 : k ≤ n) (hc : n ≤ c) (w : World) :
    (Instr.slice t (.slice A n c) none (some (.int .i64 k)) none).run P w = .ok (.slice A k c) w := by
  have he : P.elem t = e := by unfold Program.elem; rw [ht]
  rw [run_slice_h w t A n c (by rw [he]; exact ht) _ _ (by omega) (by omega), he, hs]
  simp only [Result.andThen, sliced, Int.toNat_natCast, Nat.sub_zero, Nat.zero_mul]
  congr 2
  split
  · rfl
  · cases A
    · rfl
    · simp [Addr.add]
end
end Go.Proofs.YthbodpjkckminaaGreatDoor

namespace Go.Proofs.YthbodpjkckminaaGreatDoor
open Go.RowKit

def digF (f n : Int) (pl : Bool) : ByteArray := if pl = false ∧ formE f n = 0 then formB f n else if formE 1 n = 0 then formB 1 n else ⟨#[63]⟩
set_option maxHeartbeats 4000000 in
set_option maxRecDepth 100000 in
theorem digits_any (f n : Int) (pl : Bool) (w : World) (hg : Gl w) : Calls Tryz.prog 122 #[.int .i64 f, .int .i64 n, .bool pl] w fun e w' => e = .returned (.string (digF f n pl)) ∧ Below w.heap.size w w' := by
  have h1 := fun W hW => format_any f n W hW
  have h2 := fun W hW => format_any 1 n W hW
  have HD := Lib.hid (show digF f n pl = if pl = false ∧ formE f n = 0 then formB f n else if formE 1 n = 0 then formB 1 n else ⟨#[63]⟩ from rfl)
  have s1 : formE f n = 0 → formS f n = formB f n := fun h => if_pos h
  have s2 : formE 1 n = 0 → formS 1 n = formB 1 n := fun h => if_pos h
  have HS1 := Lib.hid s1
  have HS2 := Lib.hid s2
  clear s1 s2
  generalize formS f n = sf at *
  generalize formS 1 n = sd at *
  by_cases e1 : formE f n = 0
  · have es := HS1.out e1
    rw [e1] at h1
    cases pl
    · have HD2 := Lib.hid (HD.out.trans (if_pos ⟨rfl, e1⟩))
      subst es
      clear HD e1 h2
      go_enter Tryz.func122, Tryz.ntmps122
      go_wp2_with (first | (go_at_call 153; refine (h1 _ hg).mono ?_; rintro e w1 ⟨rfl, hb1⟩))
      go_ret
      exact ⟨by rw [HD2.out]; rfl, hb1⟩
    · have HD2 := Lib.hid (HD.out.trans (if_neg (by simp)))
      clear HD e1 h1 es
      by_cases e2 : formE 1 n = 0
      · have HD3 := Lib.hid (HD2.out.trans (if_pos e2))
        have es := HS2.out e2
        rw [e2] at h2
        subst es
        clear e2
        go_enter Tryz.func122, Tryz.ntmps122
        go_wp2_with (first | (go_at_call 153; refine (h2 _ hg).mono ?_; rintro e w1 ⟨rfl, hb1⟩))
        go_ret
        exact ⟨by rw [HD3.out]; rfl, hb1⟩
      · have HD3 := Lib.hid (HD2.out.trans (if_neg e2))
        have b2 : (formE 1 n == 0) = false := beq_eq_false_iff_ne.2 e2
        generalize formE 1 n = e2 at *
        go_enter Tryz.func122, Tryz.ntmps122
        go_wp2_with (first | (go_at_call 153; refine (h2 _ hg).mono ?_; rintro e w1 ⟨rfl, hb1⟩))
        go_ret
        exact ⟨by rw [HD3.out]; rfl, hb1⟩
  · have HD2 := Lib.hid (HD.out.trans (if_neg (fun h => e1 h.2)))
    have b1 : (formE f n == 0) = false := beq_eq_false_iff_ne.2 e1
    generalize formE f n = ef at *
    clear HD HS1
    by_cases e2 : formE 1 n = 0
    · have HD3 := Lib.hid (HD2.out.trans (if_pos e2))
      have es := HS2.out e2
      rw [e2] at h2
      subst es
      clear e2
      cases pl
      · go_enter Tryz.func122, Tryz.ntmps122
        go_wp2_with fail
        refine (h1 _ hg).mono ?_
        rintro e w1 ⟨rfl, hb1⟩
        go_wp2_with fail
        refine (h2 _ (hg.below hb1)).mono ?_
        rintro e w2 ⟨rfl, hb2⟩
        go_wp2_with fail
        go_ret
        exact ⟨by rw [HD3.out]; rfl, below_trans' hb1 hb1.size hb2⟩
      · go_enter Tryz.func122, Tryz.ntmps122
        go_wp2_with fail
        refine (h2 _ hg).mono ?_
        rintro e w2 ⟨rfl, hb2⟩
        go_wp2_with fail
        go_ret
        exact ⟨by rw [HD3.out]; rfl, hb2⟩
    · have HD3 := Lib.hid (HD2.out.trans (if_neg e2))
      have b2 : (formE 1 n == 0) = false := beq_eq_false_iff_ne.2 e2
      generalize formE 1 n = e2 at *
      cases pl
      · go_enter Tryz.func122, Tryz.ntmps122
        go_wp2_with fail
        refine (h1 _ hg).mono ?_
        rintro e w1 ⟨rfl, hb1⟩
        go_wp2_with fail
        refine (h2 _ (hg.below hb1)).mono ?_
        rintro e w2 ⟨rfl, hb2⟩
        go_wp2_with fail
        go_ret
        exact ⟨by rw [HD3.out]; rfl, below_trans' hb1 hb1.size hb2⟩
      · go_enter Tryz.func122, Tryz.ntmps122
        go_wp2_with fail
        refine (h2 _ hg).mono ?_
        rintro e w2 ⟨rfl, hb2⟩
        go_wp2_with fail
        go_ret
        exact ⟨by rw [HD3.out]; rfl, hb2⟩
set_option maxHeartbeats 4000000 in
set_option maxRecDepth 100000 in
theorem ltcheck_any (A : Option Addr) (n c : Nat) (ls : List Lv) (level : Int) (w : World) (ha : Sl w 4 lvC A n ls) :
    Calls Tryz.prog 120 #[.slice A n c, .int .i64 level] w fun e w' => e = .returned (.int .i64 (ckE ls n level)) ∧ Below w.heap.size w w' := by
  have HE := Lib.hid (show ckE ls n level = if clE ls ≠ 0 then clE ls else if level < 1 ∨ (n : Int) < level then 2 else 0 from rfl)
  have cl := checkLevels_any A n c ls w ha
  by_cases hc : clE ls = 0
  · rw [hc] at cl
    have HE2 := Lib.hid (HE.out.trans (if_neg (by rw [hc]; simp)))
    clear HE hc
    by_cases h1 : level < 1
    · go_enter Tryz.func120, Tryz.ntmps120
      go_wp2_with (first | (go_at_call 11; refine cl.mono ?_; rintro er w2 ⟨rfl, hb2⟩))
      go_ret
      exact ⟨ret_int (by rw [HE2.out, if_pos (.inl h1)]), hb2⟩
    by_cases h2 : (n : Int) < level
    · go_enter Tryz.func120, Tryz.ntmps120
      go_wp2_with (first | (go_at_call 11; refine cl.mono ?_; rintro er w2 ⟨rfl, hb2⟩))
      go_ret
      exact ⟨ret_int (by rw [HE2.out, if_pos (.inr h2)]), hb2⟩
    go_enter Tryz.func120, Tryz.ntmps120
    go_wp2_with (first | (go_at_call 11; refine cl.mono ?_; rintro er w2 ⟨rfl, hb2⟩))
    go_ret
    exact ⟨ret_int (by rw [HE2.out, if_neg (by omega)]), hb2⟩
  · have HE2 := Lib.hid (HE.out.trans (if_pos hc))
    clear HE
    generalize clE ls = ce at *
    go_enter Tryz.func120, Tryz.ntmps120
    go_wp2_with (first | (go_at_call 11; refine cl.mono ?_; rintro er w2 ⟨rfl, hb2⟩))
    go_ret
    exact ⟨ret_int (by rw [HE2.out]), hb2⟩
end Go.Proofs.YthbodpjkckminaaGreatDoor
