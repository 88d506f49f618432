/- (*strings.Builder).copyCheck, WriteString at this dump: the shelf's proofs (its forms for a builder in a range) turned to a dump whose copyCheck bears a refused branch. Imports that the walks share. numeral: maps of functions, and the table of formats. numeral.Range, letters. The package's variables that the numerals read, and numeral.ordinal. Roman numerals, plain. numeral.roman, walked. -/
import Derived.Test.YtbpodnhebjjkaaaGreatDoorShelf
import Derived.Shelf.Strings.BuilderF
import Derived.Shelf.Strings.BuilderK
import Derived.WalkKit
import Derived.Test.YtbpodnhebjjkaaaGreatDoorRows
import Derived.Test.YtbpodnhebjjkaaaGreatDoorm1
import Derived.Outline
import Derived.LoopTactic
import Derived.Deep.LoopGhost
import Derived.Deep.QuietTactic
import Derived.BigQuiet
import Derived.WalkSpells
import Derived.WalkLawsBesides
import Derived.IntWalk
import Derived.Deep.Light
import Derived.Maps.OwnOps
import Derived.Maps.Keyed
import Derived.Maps.AppendAt
import Derived.Deep.RegionLaw
import Derived.Lib.LaidTab
import Derived.Lib.ItoaLen
import Derived.Deep.MidRow
import Derived.Deep.RegionHeld3
import Derived.Deep.DeepCutAuto
namespace Go.Proofs.YtbpodnhebjjkaaaGreatDoor
open Go.Shelf Go.RowKit

theorem sizeBuilderN : (Tryz.prog.info? 134).map (·.size) = some 2 := by kernel_rfl
theorem liesBuilderN : liesAt Tryz.prog Tryz.prog.depth 134 (2 / Tryz.prog.cellsOf 134) 0 134 1 = true := by kernel_rfl
theorem infoByteN : (Tryz.prog.info? 5).map (fun i => (i.zero, i.size, i.bytes)) = some (some (.int .u8 0), 1, 1) := by kernel_rfl

set_option maxRecDepth 100000 in
theorem nCopyCheck_fresh (b : Nat) (w : World) (h0 : w.cell? ⟨b, 0, none⟩ = some (.pointer none)) (hsh : w.shape? b = some (134, 2)) (hfz : w.frozen? ⟨b, 0, none⟩ = false) :
    Calls Tryz.prog 68 #[.pointer (some ⟨b, 0, none⟩)] w fun e w' => e = .returned (.tuple #[]) ∧ w' = w.setCell ⟨b, 0, none⟩ (.pointer (some ⟨b, 0, none⟩)) := by
  obtain ⟨j, hj, hjs⟩ := Option.map_eq_some_iff.1 sizeBuilderN
  go_enter Tryz.func68, Tryz.ntmps68
  go_wp2
  rw [Lib.run_to_unsafe w ⟨b, 0, none⟩ Tryz.underlying131 Tryz.underlying160 hj (by rw [hjs]; decide) hsh (Nat.zero_lt_succ 1)]
  simp only [Result.andThen]
  rw [Oper.upon_value]
  go_wp2
  rw [run_callFunc_extern Tryz.func75 (by kernel_rfl) (by kernel_rfl) (by kernel_rfl) (e := Extern.AbiNoEscape.same) (by kernel_rfl)]
  rw [Lib.run_noEscape]
  simp only [Result.andThen]
  rw [Oper.upon_value]
  go_wp2
  rw [Lib.run_from_unsafe w ⟨b, 0, none⟩ Tryz.underlying160 Tryz.underlying131 hj hsh liesBuilderN]
  simp only [Result.andThen]
  rw [Oper.upon_value]
  go_wp2
  go_end0
  exact ⟨rfl, rfl⟩

set_option maxRecDepth 100000 in
theorem nCopyCheck_used (b : Nat) (w : World) (h0 : w.cell? ⟨b, 0, none⟩ = some (.pointer (some ⟨b, 0, none⟩))) :
    Calls Tryz.prog 68 #[.pointer (some ⟨b, 0, none⟩)] w fun e w' => e = .returned (.tuple #[]) ∧ w' = w := by
  obtain ⟨j, hj, _⟩ := Option.map_eq_some_iff.1 sizeBuilderN
  go_enter Tryz.func68, Tryz.ntmps68
  go_wp2
  rw [Lib.run_neq_ptr_same w _ Tryz.underlying131 hj]
  go_wp2
  go_end0
  exact ⟨rfl, rfl⟩

theorem nCopyCheck (B b : Nat) (bs : List Value) (w : World) (h : Lib.IsBuilderF 134 5 B b bs w) :
    Calls Tryz.prog 68 #[.pointer (some ⟨b, 0, none⟩)] w fun e w' => e = .returned (.tuple #[]) ∧ (Lib.BuilderAtF 134 5 B b (.pointer (some ⟨b, 0, none⟩)) bs w' ∧ Below B w w' ∧ Lib.OthersKept 5 (some b) w w') := by
  rcases h with h | h
  · refine (nCopyCheck_fresh b w h.cell0 h.shape h.frozen0).mono ?_
    rintro e w' ⟨rfl, rfl⟩
    exact ⟨rfl, h.used _, (Below.refl B w).setCell (p := ⟨b, 0, none⟩) h.1 _, (Lib.OthersKept.refl _ _ w).setCell ⟨b, 0, none⟩ rfl _⟩
  · refine (nCopyCheck_used b w h.cell0).mono ?_
    rintro e w' ⟨rfl, rfl⟩
    exact ⟨rfl, h, Below.refl B _, Lib.OthersKept.refl _ _ _⟩

set_option maxHeartbeats 2000000 in
set_option maxRecDepth 100000 in
theorem bWriteString (B b : Nat) (bs : List Value) (s : ByteArray) (w : World) (h : Lib.IsBuilderF 134 5 B b bs w) (hlen : bs.length + s.size ≤ 140737488355328) (hBw : B ≤ w.heap.size) :
    Calls Tryz.prog 56 #[.pointer (some ⟨b, 0, none⟩), .string s] w fun e w' => e = .returned (.tuple #[.int .i64 s.size, .nilIface]) ∧ (Lib.BuilderAtF 134 5 B b (.pointer (some ⟨b, 0, none⟩)) (bs ++ Lib.strCells s) w' ∧ Below B w w' ∧ Lib.OthersKept 5 (some b) w w') := by
  obtain ⟨i0, hi, hz0, hz1, hz2⟩ := info_parts infoByteN
  go_enter Tryz.func56, Tryz.ntmps56
  go_wp2_with (go_at_call 68; refine (nCopyCheck B b bs _ h).mono ?_)
  rintro e w1 ⟨rfl, h1, hb1, hk1⟩
  obtain ⟨hB, v, hbk, hown, hne⟩ := h1
  have c0 : w1.cell? ⟨b, 0, none⟩ = some (.pointer (some ⟨b, 0, none⟩)) := by rw [Lib.cell_of_heap hbk]; rfl
  have c1 : w1.cell? ⟨b, 1, none⟩ = some v := by rw [Lib.cell_of_heap hbk]; rfl
  go_wp2_with (at_builtin; refine Lib.wpList_append_own_stringF _ rfl _ _ 132 9 rfl B 5 i0 Tryz.underlying132 Tryz.underlying9 hi hz0 hz1 hz2 _ _ _ rfl hown s rfl ?c3 ?c4 ?c5 ?_)
  case c3 => unfold maxLen; omega
  case c4 => omega
  case c5 => have := hb1.size; omega
  intro v' w2 hown' hgrow _
  have hlt : b < w1.heap.size := by
    rcases Nat.lt_or_ge b w1.heap.size with h' | h'
    · exact h'
    · simp [Array.getElem?_eq_none h'] at hbk
  have hb2 : w2.heap[b]? = some (.cells #[.pointer (some ⟨b, 0, none⟩), v] 134 (0, 0)) := by
    rw [hgrow.block b hlt (fun e => hne e.symm)]
    exact hbk
  have d0 : w2.cell? ⟨b, 0, none⟩ = some (.pointer (some ⟨b, 0, none⟩)) := by rw [Lib.cell_of_heap hb2]; rfl
  have d1 : w2.cell? ⟨b, 1, none⟩ = some v := by rw [Lib.cell_of_heap hb2]; rfl
  have f1 : w2.frozen? ⟨b, 1, none⟩ = false := Lib.frozen_of_heap hb2 1
  obtain ⟨ao, n', cap, rfl⟩ : ∃ ao n' cap, v' = .slice ao n' cap := by
    rcases hown'.2 with ⟨hv, _⟩ | ⟨g, cap, cur, fz, hv, _⟩
    · exact ⟨_, _, _, hv⟩
    · exact ⟨_, _, _, hv⟩
  go_wp2
  go_ret2
  refine ⟨rfl, ?_, ?_, (hk1.grown hgrow (Lib.ownsRowF_kind hown)).setCell ⟨b, 1, none⟩ rfl _⟩
  · exact Lib.BuilderAtF.put (T := 134) (e := 5) hB hb2 (bs' := bs ++ Lib.strCells s) (by simpa [Lib.strCells_length] using hown') (by decide)
  · exact (hb1.grown hgrow (by have := hb1.size; omega) (fun k hk => (hown.lt k hk).1)).setCell (p := ⟨b, 1, none⟩) hB _
/-- a builder that holds the bytes l, after writing a string behind them. -/
theorem bWrite (B b : Nat) (l : List UInt8) (s : ByteArray) (w : World) (h : Lib.IsBuilderF 134 5 B b (Lib.byteCells l) w) (hlen : l.length + s.size ≤ 140737488355328) (hBw : B ≤ w.heap.size) :
    Calls Tryz.prog 56 #[.pointer (some ⟨b, 0, none⟩), .string s] w fun e w' => e = .returned (.tuple #[.int .i64 s.size, .nilIface]) ∧ Lib.IsBuilderF 134 5 B b (Lib.byteCells (l ++ s.data.toList)) w' ∧ Below B w w' ∧ Lib.OthersKept 5 (some b) w w' := by
  have := bWriteString B b (Lib.byteCells l) s w h (by simpa [Lib.byteCells] using hlen) hBw
  refine this.mono ?_
  rintro e w' ⟨he, h1, h2, h3⟩
  refine ⟨he, .inr ?_, h2, h3⟩
  have e : Lib.byteCells (l ++ s.data.toList) = Lib.byteCells l ++ Lib.strCells s := by simp [Lib.byteCells, Lib.strCells]
  rw [e]
  exact h1
end Go.Proofs.YtbpodnhebjjkaaaGreatDoor



namespace Go.Proofs.YtbpodnhebjjkaaaGreatDoor
open Go.RowKit

/-- a function as an element of a map, read as its number. -/
def funcElem (v : Value) : Option (DataW Unit × List MemPlace) :=
  match v with
  | .func (.func f) a b => if a = #[] ∧ b = #[] then some (.lit (.int .i64 f), []) else none
  | .nilFunc => some (.lit (.bool false), [])
  | _ => none
theorem funcElem_mk (f : Nat) : funcElem (.func (.func f) #[] #[]) = some (.lit (.int .i64 f), []) := rfl
theorem funcElem_inv {v : Value} {f : Nat} {ps : List MemPlace} (h : funcElem v = some (.lit (.int .i64 f), ps)) : v = .func (.func f) #[] #[] := by
  unfold funcElem at h
  split at h
  · rename_i g a b
    split at h
    · rename_i hab
      simp only [Option.some.injEq, Prod.mk.injEq, DataW.lit.injEq] at h
      have : (g : Int) = (f : Int) := by injection h.1
      have : g = f := Int.ofNat.inj this
      rw [this, hab.1, hab.2]
    · simp at h
  · simp at h
  · simp at h
section
variable {P : Program} {ops : Array Oper} {rest : List Oper} {o : Oper} {a : Act} {Q : Exit → Act → World → Prop} {w : World}
theorem wpList_insert_own (hg : o.guard = none) (m x v : Operand) (t : TypeId) (hop : o.op = Op.insert t m x v)
    (k e : TypeId) (K : Maps.Keyed P k) (ht : P.underlying t = some (.map k e)) (b n : Nat) (D : DataW Unit)
    (hm : a.eval m = .map (some b)) (hown : w.ownsMap P k funcElem b n D) (hn : n < maxLen) (key val : Value) (kl : Lit) (hx : a.eval x = key) (hv : a.eval v = val) (hkey : keyOf P k key = some kl)
    (d : DataW Unit) (ps : List MemPlace) (hval : funcElem val = some (d, ps))
    (hK : ∀ w', w'.ownsMap P k funcElem b (n + 1) (D.put kl d) → w.grownBy w' (some b) → wpList P ops Q rest (a.put o.dst undef) w') :
    wpList P ops Q (o :: rest) a w := by
  refine wpList_plain hg fun K' hK' => ?_
  obtain ⟨w', hrun, r1, r2⟩ := hown.update K ht hn hkey hval
  unfold Oper.wp
  simp [execOp, hop, hm, hx, hv, hrun, Result.andThen]
  exact hK' _ _ (hK w' r1 r2)
end
def keyI (n : Int) : Lit := .int .i64 n
theorem key3 {n : Int} (h : (Lit.int .i64 n).wf = true) : keyOf Tryz.prog 3 (.int .i64 n) = some (.int .i64 n) := Maps.keyOf_int_mk Tryz.underlying3 h
def fmtD (a b c d e f g : Nat) : DataW Unit := (((((((DataW.map []).put (.int .i64 1) (.lit (.int .i64 a))).put (.int .i64 2) (.lit (.int .i64 b))).put (.int .i64 3) (.lit (.int .i64 c))).put (.int .i64 4) (.lit (.int .i64 d))).put (.int .i64 5) (.lit (.int .i64 e))).put (.int .i64 6) (.lit (.int .i64 f))).put (.int .i64 7) (.lit (.int .i64 g))
def fmtDD : DataW Unit := fmtD 84 85 86 88 89 90 91
def fmtF (i : Int) : Nat := if i = 1 then 84 else if i = 2 then 85 else if i = 3 then 86 else if i = 4 then 88 else if i = 5 then 89 else if i = 6 then 90 else 91
theorem fmt_at {i : Int} (h : 1 ≤ i ∧ i ≤ 7) (z : DataW Unit) : fmtDD.atKey (.int .i64 i) z = .lit (.int .i64 (fmtF i)) := by
  rcases (show i = 1 ∨ i = 2 ∨ i = 3 ∨ i = 4 ∨ i = 5 ∨ i = 6 ∨ i = 7 by omega) with rfl | rfl | rfl | rfl | rfl | rfl | rfl <;> kernel_rfl
set_option maxHeartbeats 2000000 in
set_option maxRecDepth 100000 in
theorem formats_any (w : World) : Calls Tryz.prog 77 #[] w fun e w' => e = .returned (.map (some w.heap.size)) ∧ w'.ownsMap Tryz.prog 3 funcElem w.heap.size 7 fmtDD ∧ Below w.heap.size w w' := by
  have K := Maps.int_keyed Tryz.underlying3
  have hmm := @run_makeMap Tryz.prog
  have h0 := World.ownsMap_made w Tryz.prog 3 funcElem
  have hb0 := (Below.refl w.heap.size w).alloc (Nat.le_refl _) (.map #[] 0)
  go_enter Tryz.func77, Tryz.ntmps77
  go_wp2_with (first
    | (refine wpList_insert_own rfl _ _ _ 165 rfl 3 _ K Tryz.underlying165 w.heap.size 0 _ rfl h0 (by unfold maxLen; omega) (.int .i64 1) (.func (.func 84) #[] #[]) _ rfl rfl (key3 rfl) _ [] (funcElem_mk _) ?_; intro w1 m1 g1)
    | (refine wpList_insert_own rfl _ _ _ 165 rfl 3 _ K Tryz.underlying165 w.heap.size 1 _ rfl m1 (by unfold maxLen; omega) (.int .i64 2) (.func (.func 85) #[] #[]) _ rfl rfl (key3 rfl) _ [] (funcElem_mk _) ?_; intro w2 m2 g2)
    | (refine wpList_insert_own rfl _ _ _ 165 rfl 3 _ K Tryz.underlying165 w.heap.size 2 _ rfl m2 (by unfold maxLen; omega) (.int .i64 3) (.func (.func 86) #[] #[]) _ rfl rfl (key3 rfl) _ [] (funcElem_mk _) ?_; intro w3 m3 g3)
    | (refine wpList_insert_own rfl _ _ _ 165 rfl 3 _ K Tryz.underlying165 w.heap.size 3 _ rfl m3 (by unfold maxLen; omega) (.int .i64 4) (.func (.func 88) #[] #[]) _ rfl rfl (key3 rfl) _ [] (funcElem_mk _) ?_; intro w4 m4 g4)
    | (refine wpList_insert_own rfl _ _ _ 165 rfl 3 _ K Tryz.underlying165 w.heap.size 4 _ rfl m4 (by unfold maxLen; omega) (.int .i64 5) (.func (.func 89) #[] #[]) _ rfl rfl (key3 rfl) _ [] (funcElem_mk _) ?_; intro w5 m5 g5)
    | (refine wpList_insert_own rfl _ _ _ 165 rfl 3 _ K Tryz.underlying165 w.heap.size 5 _ rfl m5 (by unfold maxLen; omega) (.int .i64 6) (.func (.func 90) #[] #[]) _ rfl rfl (key3 rfl) _ [] (funcElem_mk _) ?_; intro w6 m6 g6)
    | (refine wpList_insert_own rfl _ _ _ 165 rfl 3 _ K Tryz.underlying165 w.heap.size 6 _ rfl m6 (by unfold maxLen; omega) (.int .i64 7) (.func (.func 91) #[] #[]) _ rfl rfl (key3 rfl) _ [] (funcElem_mk _) ?_; intro w7 m7 g7))
  go_ret
  have gg : ∀ {a b : World}, Below w.heap.size w a → a.grownBy b (some w.heap.size) → Below w.heap.size w b := fun h g => h.grown g h.size (fun k e => by cases e; exact Nat.le_refl _)
  exact ⟨rfl, m7, gg (gg (gg (gg (gg (gg (gg hb0 g1) g2) g3) g4) g5) g6) g7⟩
theorem zero_func (w : World) : (zeroValue 164).run Tryz.prog w = .ok .nilFunc w := by kernel_rfl
/-- the table's function for a format. -/
theorem formats_at {w : World} {b : Nat} (h : w.ownsMap Tryz.prog 3 funcElem b 7 fmtDD) {i : Int} (hi : 1 ≤ i ∧ i ≤ 7) : (Instr.lookup 165 (.map (some b)) (.int .i64 i) false).run Tryz.prog w = .ok (.func (.func (fmtF i)) #[] #[]) w := by
  obtain ⟨v, ps, hrun, hv⟩ := h.lookup (Maps.int_keyed Tryz.underlying3) Tryz.underlying165 (zero_func w) (zd := .lit (.bool false)) (zp := []) rfl (key3 (n := i) (by simp [Lit.wf, IntKind.min, IntKind.max, IntKind.signed, IntKind.bits]; omega))
  rw [fmt_at hi] at hv
  rw [hrun, funcElem_inv hv]
end Go.Proofs.YtbpodnhebjjkaaaGreatDoor

namespace Go.Proofs.YtbpodnhebjjkaaaGreatDoor
open Go.RowKit

def rngL (f : Int) : Int := if f = 1 then 0 else if 1 ≤ f ∧ f ≤ 7 then 1 else 0
def rngG (f : Int) : Int := if f = 4 ∨ f = 5 then 3999 else if 1 ≤ f ∧ f ≤ 7 then 999999 else 0
def rngE (f : Int) : Int := if 1 ≤ f ∧ f ≤ 7 then 0 else 3
set_option maxRecDepth 100000 in
theorem range_any (f : Int) (w : World) : Calls Tryz.prog 76 #[.int .i64 f] w fun e w' => e = .returned (.tuple #[.int .i64 (rngL f), .int .i64 (rngG f), .int .i64 (rngE f)]) ∧ w' = w := by
  have go : ∀ a b c, rngL f = a → rngG f = b → rngE f = c → Calls Tryz.prog 76 #[.int .i64 f] w (fun e w' => e = .returned (.tuple #[.int .i64 a, .int .i64 b, .int .i64 c]) ∧ w' = w) → Calls Tryz.prog 76 #[.int .i64 f] w fun e w' => e = .returned (.tuple #[.int .i64 (rngL f), .int .i64 (rngG f), .int .i64 (rngE f)]) ∧ w' = w := by
    intro a b c h1 h2 h3 h
    rw [h1, h2, h3]; exact h
  by_cases h : 1 ≤ f ∧ f ≤ 7
  · rcases (show f = 1 ∨ f = 2 ∨ f = 3 ∨ f = 4 ∨ f = 5 ∨ f = 6 ∨ f = 7 by omega) with rfl | rfl | rfl | rfl | rfl | rfl | rfl
    all_goals
      refine go _ _ _ rfl rfl rfl ?_
      go_enter Tryz.func76, Tryz.ntmps76
      go_wp2
      go_ret3
      exact ⟨rfl, rfl⟩
  · refine go 0 0 3 (by unfold rngL; rw [if_neg (by omega), if_neg h]) (by unfold rngG; rw [if_neg (by omega), if_neg h]) (by unfold rngE; rw [if_neg h]) ?_
    have e1 : (f == 1) = false := beq_eq_false_iff_ne.2 (by omega)
    have e2 : (f == 2) = false := beq_eq_false_iff_ne.2 (by omega)
    have e3 : (f == 3) = false := beq_eq_false_iff_ne.2 (by omega)
    have e4 : (f == 4) = false := beq_eq_false_iff_ne.2 (by omega)
    have e5 : (f == 5) = false := beq_eq_false_iff_ne.2 (by omega)
    have e6 : (f == 6) = false := beq_eq_false_iff_ne.2 (by omega)
    have e7 : (f == 7) = false := beq_eq_false_iff_ne.2 (by omega)
    go_enter Tryz.func76, Tryz.ntmps76
    go_wp2
    go_ret3
    exact ⟨rfl, rfl⟩
/-- a numeral of letters; the first number bounds the depth. -/
def lettersB : Nat → Int → ByteArray
  | 0, _ => ⟨#[]⟩
  | f + 1, n => if n ≤ 0 then ⟨#[]⟩ else lettersB f ((n - 1) / 26) ++ ⟨#[UInt8.ofNat (97 + ((n - 1) % 26).toNat)]⟩
theorem nbDrew {w w' : World} {q : Nat} (h : Below (w.drewN q).heap.size (w.drewN q) w') : Below w.heap.size w w' := ⟨h.os, h.tape, h.output, h.size, h.block⟩
theorem lettersB_size : ∀ (f : Nat) (n : Int), (lettersB f n).size ≤ f
  | 0, _ => Nat.le_refl _
  | f + 1, n => by
    unfold lettersB
    by_cases h : n ≤ 0
    · rw [if_pos h]; exact Nat.zero_le _
    · rw [if_neg h, ByteArray.size_append]
      have := lettersB_size f ((n - 1) / 26)
      show _ + 1 ≤ f + 1
      omega
set_option maxHeartbeats 4000000 in
set_option maxRecDepth 100000 in
theorem letters_any : ∀ (f : Nat) (n : Int) (w : World), f ≤ 64 → n < 2 ^ f → n ≤ 1000000000 → -1000000000 ≤ n → Calls Tryz.prog 85 #[.int .i64 n] w fun e w' => e = .returned (.string (lettersB f n)) ∧ Below w.heap.size w w'
  | 0, n, w, _, h, _, _ => by
    have h0 : n ≤ 0 := by simp at h; omega
    go_enter Tryz.func85, Tryz.ntmps85
    go_wp2
    go_ret
    exact ⟨rfl, Below.refl _ _⟩
  | f + 1, n, w, hf, h, hn, hn0 => by
    have HB := Lib.hid (show lettersB (f + 1) n = if n ≤ 0 then ⟨#[]⟩ else lettersB f ((n - 1) / 26) ++ ⟨#[UInt8.ofNat (97 + ((n - 1) % 26).toNat)]⟩ from rfl)
    by_cases h0 : n ≤ 0
    · go_enter Tryz.func85, Tryz.ntmps85
      go_wp2
      go_ret
      exact ⟨by rw [HB.out, if_pos h0]; rfl, Below.refl _ _⟩
    · have HB2 := Lib.hid (HB.out.trans (if_neg h0))
      clear HB
      have hp : (2 : Int) ^ (f + 1) = 2 * 2 ^ f := by rw [Int.pow_succ]; omega
      have ih := fun W => letters_any f ((n - 1) / 26) W (by omega) (by rw [hp] at h; omega) (by omega) (by omega)
      clear hp h
      have m0 := Int.emod_nonneg (n - 1) (show (26 : Int) ≠ 0 by omega)
      have m1 := Int.emod_lt_of_pos (n - 1) (show (0 : Int) < 26 by omega)
      obtain ⟨m, hm⟩ : ∃ m : Nat, (m : Int) = (n - 1) % 26 := ⟨((n - 1) % 26).toNat, by omega⟩
      have hm2 : ((n - 1) % 26).toNat = m := by omega
      rw [hm2, UInt8.ofNat_add] at HB2
      have hsz := lettersB_size f ((n - 1) / 26)
      have hsz2 : ¬ 9223372036854775807 < (lettersB f ((n - 1) / 26)).size + 1 := by omega
      have t1 : (n - 1).tdiv 26 = (n - 1) / 26 := Int.tdiv_eq_ediv_of_nonneg (by omega)
      have t2 : (n - 1).tmod 26 = (m : Int) := by rw [Int.tmod_eq_emod_of_nonneg (by omega)]; omega
      have mlt : (m : Int) < 26 := by omega
      have w0 : IntKind.i64.wrap (n - 1) = n - 1 := IntWalk.i64_in _ (by omega)
      have w1 : IntKind.i64.wrap ((n - 1) / 26) = (n - 1) / 26 := IntWalk.i64_in _ (by omega)
      have w2 : IntKind.i64.wrap (m : Int) = (m : Int) := IntWalk.i64_in _ (by omega)
      have w3 : IntKind.i64.wrap (97 + (m : Int)) = 97 + (m : Int) := IntWalk.i64_in _ (by omega)
      have w4 : IntKind.u8.wrap (97 + (m : Int)) = 97 + (m : Int) := IntWalk.u8_in _ (by omega)
      have u8i : (UInt8.ofNat (97 + m)).toNat = 97 + m := by rw [UInt8.toNat_ofNat']; exact Nat.mod_eq_of_lt (by omega)
      have hcv : ∀ (W : World) (g : Nat), W.cell? ⟨g, 0, none⟩ = some (.int .u8 (97 + (m : Int))) → (convert 132 9 (.slice (some ⟨g, 0, none⟩) 1 1)).run Tryz.prog W = .ok (.string ⟨#[UInt8.ofNat (97 + m)]⟩) W := fun W g hc => by
        refine run_convert_bytes_back W 132 9 5 ⟨g, 0, none⟩ 1 [UInt8.ofNat (97 + m)] Tryz.underlying132 Tryz.underlying5 Tryz.underlying9 (fun j hj => ?_)
        have h0 : j = 0 := by simpa using hj
        subst h0
        simp only [List.getElem_cons_zero, u8i]
        exact hc
      have HM := Lib.hid hm
      clear hm hm2 u8i m0 m1
      go_enter Tryz.func85, Tryz.ntmps85
      have hNew : ((w.alloc (.cells #[.int .u8 (97 + (m : Int))] 5)).drewN 1).cell? ⟨w.heap.size, 0, none⟩ = some (.int .u8 (97 + (m : Int))) := (Blk.new w 5 #[.int .u8 (97 + (m : Int))]).cell 0 rfl
      go_upto_region 3 with fail
      go_region_law
        (first
          | (go_simp; go_at_call 85; refine (ih _).mono ?_; rintro er w9 ⟨rfl, hb9⟩; (try have q9 := (hb9.cell (World.block_lt_of_cell? _ _ hNew)).trans hNew)))
      all_goals
        go_wp2_with fail
        go_ret
        refine ⟨by rw [HB2.out]; rfl, ?_⟩
        first
          | exact (nbDrew (q := 1) hb9).alloc hb9.size _
          | exact ((Below.refl w.heap.size w).alloc (Nat.le_refl _) _).trans ((nbDrew (q := 1) hb9).mono (by simp))
end Go.Proofs.YtbpodnhebjjkaaaGreatDoor

namespace Go.Proofs.YtbpodnhebjjkaaaGreatDoor
open Go.RowKit

def signsP : List (Int × ByteArray) := [(1000, ⟨#[109]⟩), (900, ⟨#[99, 109]⟩), (500, ⟨#[100]⟩), (400, ⟨#[99, 100]⟩), (100, ⟨#[99]⟩), (90, ⟨#[120, 99]⟩), (50, ⟨#[108]⟩), (40, ⟨#[120, 108]⟩), (10, ⟨#[120]⟩), (9, ⟨#[105, 120]⟩), (5, ⟨#[118]⟩), (4, ⟨#[105, 118]⟩), (1, ⟨#[105]⟩)]
def signsC : List Value := signsP.flatMap fun p => [.int .i64 p.1, .string p.2]
structure Gl (w : World) : Prop where
  pow : Lib.TabIs Tryz.prog w "internal/strconv.uint64pow10" .u64 Lib.pow10Tab
  signs : w.rangeAt 0 0 signsC
theorem Gl.of_heap {w w' : World} (h : Gl w) (hb : ∀ k, k < w.heap.size → w'.heap[k]? = w.heap[k]?) : Gl w' := by
  refine ⟨?_, fun j v hv => ?_⟩
  · have h1 := h.pow
    unfold Lib.TabIs World.var? at h1 ⊢
    cases hg : Program.globalNamed Tryz.prog "internal/strconv.uint64pow10" with
    | none => rw [hg] at h1; simp at h1
    | some g =>
      rw [hg] at h1
      simp only [Option.bind_some] at h1 ⊢
      have hlt : g < w.heap.size := by
        rcases Nat.lt_or_ge g w.heap.size with h' | h'
        · exact h'
        · rw [Array.getElem?_eq_none h'] at h1; simp at h1
      rw [hb g hlt]
      exact h1
  · have h1 := h.signs j v hv
    exact (World.cell?_of_block (hb _ (World.block_lt_of_cell? _ _ h1))).trans h1
theorem Gl.below {w w' : World} (h : Gl w) (hb : Below w.heap.size w w') : Gl w' := h.of_heap hb.block
theorem Gl.drewN {w : World} (h : Gl w) (n : Nat) : Gl (w.drewN n) := ⟨h.pow, h.signs⟩
theorem Gl.alloc {w : World} (h : Gl w) (o : Obj) : Gl (w.alloc o) := h.below ((Below.refl _ w).alloc (Nat.le_refl _) o)
def itoaB (n : Int) : ByteArray := ⟨(Lib.itoa n).toArray⟩
theorem itoa_any (n : Int) (w : World) (hg : Gl w) (h0 : -9223372036854775808 ≤ n) (h1 : n ≤ 9223372036854775807) : Calls Tryz.prog 84 #[.int .i64 n] w fun e w' => e = .returned (.string (itoaB n)) ∧ Below w.heap.size w w' := by
  refine (Tryz.strconv_Itoa n h0 h1 w hg.pow).mono ?_
  rintro e w' ⟨rfl, k, os, rfl⟩
  exact ⟨rfl, ⟨rfl, rfl, rfl, by simp [Sort.grow], fun k hk => by simp [Sort.grow, Array.getElem?_append, hk]⟩⟩
theorem itoaB_size (n : Int) (h0 : -9223372036854775808 ≤ n) (h1 : n ≤ 9223372036854775807) : (itoaB n).size ≤ 21 := by
  have := Lib.itoa_length_le n h0 h1
  unfold itoaB
  simpa [ByteArray.size] using this
/-- the ending of an ordinal number. -/
def ordE (n : Int) : ByteArray := if n / 10 % 10 = 1 then ⟨#[116, 104]⟩ else if n % 10 = 1 then ⟨#[115, 116]⟩ else if n % 10 = 2 then ⟨#[110, 100]⟩ else if n % 10 = 3 then ⟨#[114, 100]⟩ else ⟨#[116, 104]⟩
def ordB (n : Int) : ByteArray := itoaB n ++ ordE n
theorem ordB_size (n : Int) (h0 : -9223372036854775808 ≤ n) (h1 : n ≤ 9223372036854775807) : (ordB n).size ≤ 23 := by
  have := itoaB_size n h0 h1
  have h2 : (ordE n).size = 2 := by unfold ordE; repeat' split
                                    all_goals rfl
  unfold ordB
  rw [ByteArray.size_append]
  omega
set_option maxHeartbeats 4000000 in
set_option maxRecDepth 100000 in
theorem ordinal_any (n : Int) (w : World) (hg : Gl w) (h0 : 0 ≤ n) (h1 : n ≤ 1000000000) : Calls Tryz.prog 90 #[.int .i64 n] w fun e w' => e = .returned (.string (ordB n)) ∧ Below w.heap.size w w' := by
  have hi := fun W hW => itoa_any n W hW (by omega) (by omega)
  have hsz := itoaB_size n (by omega) (by omega)
  have t1 : n.tdiv 10 = n / 10 := Int.tdiv_eq_ediv_of_nonneg (by omega)
  have t2 : (n / 10).tmod 10 = n / 10 % 10 := Int.tmod_eq_emod_of_nonneg (by omega)
  have t3 : n.tmod 10 = n % 10 := Int.tmod_eq_emod_of_nonneg (by omega)
  have HO := Lib.hid (show ordB n = itoaB n ++ ordE n from rfl)
  have HE := Lib.hid (show ordE n = if n / 10 % 10 = 1 then ⟨#[116, 104]⟩ else if n % 10 = 1 then ⟨#[115, 116]⟩ else if n % 10 = 2 then ⟨#[110, 100]⟩ else if n % 10 = 3 then ⟨#[114, 100]⟩ else ⟨#[116, 104]⟩ from rfl)
  have q0 : 0 ≤ n / 10 := by omega
  have hsz2 : ¬ 9223372036854775807 < (itoaB n).size + 2 := by omega
  generalize itoaB n = s at *
  by_cases c0 : n / 10 % 10 = 1
  · have e0 : ordE n = ⟨#[116, 104]⟩ := by rw [HE.out, if_pos c0]
    have b0 : (n / 10 % 10 != 1) = false := by rw [bne_eq_false_iff_eq]; exact c0
    have HE := Lib.hid e0
    clear e0 c0
    go_enter Tryz.func90, Tryz.ntmps90
    go_wp2_with (first | (go_at_call 84; refine (hi _ hg).mono ?_; rintro e w1 ⟨rfl, hb⟩))
    go_ret
    exact ⟨by rw [HO.out, HE.out]; rfl, hb⟩
  · have b0 : (n / 10 % 10 != 1) = true := by rw [bne_iff_ne]; exact c0
    by_cases c1 : n % 10 = 1
    · have e0 : ordE n = ⟨#[115, 116]⟩ := by rw [HE.out, if_neg c0, if_pos c1]
      have b1 : (n % 10 == 1) = true := beq_iff_eq.2 c1
      have HE := Lib.hid e0
      clear e0 c0 c1
      go_enter Tryz.func90, Tryz.ntmps90
      go_wp2_with (first | (go_at_call 84; refine (hi _ hg).mono ?_; rintro e w1 ⟨rfl, hb⟩))
      go_ret
      exact ⟨by rw [HO.out, HE.out]; rfl, hb⟩
    · have b1 : (n % 10 == 1) = false := beq_eq_false_iff_ne.2 c1
      by_cases c2 : n % 10 = 2
      · have e0 : ordE n = ⟨#[110, 100]⟩ := by rw [HE.out, if_neg c0, if_neg c1, if_pos c2]
        have b2 : (n % 10 == 2) = true := beq_iff_eq.2 c2
        have HE := Lib.hid e0
        clear e0 c0 c1 c2
        go_enter Tryz.func90, Tryz.ntmps90
        go_wp2_with (first | (go_at_call 84; refine (hi _ hg).mono ?_; rintro e w1 ⟨rfl, hb⟩))
        go_ret
        exact ⟨by rw [HO.out, HE.out]; rfl, hb⟩
      · have b2 : (n % 10 == 2) = false := beq_eq_false_iff_ne.2 c2
        by_cases c3 : n % 10 = 3
        · have e0 : ordE n = ⟨#[114, 100]⟩ := by rw [HE.out, if_neg c0, if_neg c1, if_neg c2, if_pos c3]
          have b3 : (n % 10 == 3) = true := beq_iff_eq.2 c3
          have HE := Lib.hid e0
          clear e0 c0 c1 c2 c3
          go_enter Tryz.func90, Tryz.ntmps90
          go_wp2_with (first | (go_at_call 84; refine (hi _ hg).mono ?_; rintro e w1 ⟨rfl, hb⟩))
          go_ret
          exact ⟨by rw [HO.out, HE.out]; rfl, hb⟩
        · have b3 : (n % 10 == 3) = false := beq_eq_false_iff_ne.2 c3
          have e0 : ordE n = ⟨#[116, 104]⟩ := by rw [HE.out, if_neg c0, if_neg c1, if_neg c2, if_neg c3]
          have HE := Lib.hid e0
          clear e0 c0 c1 c2 c3
          go_enter Tryz.func90, Tryz.ntmps90
          go_wp2_with (first | (go_at_call 84; refine (hi _ hg).mono ?_; rintro e w1 ⟨rfl, hb⟩))
          go_ret
          exact ⟨by rw [HO.out, HE.out]; rfl, hb⟩
end Go.Proofs.YtbpodnhebjjkaaaGreatDoor

namespace Go.Proofs.YtbpodnhebjjkaaaGreatDoor

def romStep (st : Int × List UInt8) (p : Int × ByteArray) : Int × List UInt8 := (st.1 % p.1, st.2 ++ Lib.repeatL p.2.data.toList (st.1 / p.1).toNat)
def romF (n : Int) (i : Nat) : Int × List UInt8 := (signsP.take i).foldl romStep (n, [])
def romL (n : Int) : List UInt8 := (romF n 13).2
def romB (n : Int) : ByteArray := ⟨(romL n).toArray⟩
theorem romF_succ (n : Int) {i : Nat} (h : i < 13) : romF n (i + 1) = romStep (romF n i) (signsP.getD i (1, ⟨#[]⟩)) := by
  unfold romF
  rw [List.take_succ_eq_append_getElem (show i < signsP.length from h), List.foldl_append]
  show romStep _ signsP[i] = _
  rw [List.getD_eq_getElem?_getD, List.getElem?_eq_getElem (show i < signsP.length from h)]
  rfl
theorem lt13 {p : Nat → Prop} (h0 : p 0) (h1 : p 1) (h2 : p 2) (h3 : p 3) (h4 : p 4) (h5 : p 5) (h6 : p 6) (h7 : p 7) (h8 : p 8) (h9 : p 9) (h10 : p 10) (h11 : p 11) (h12 : p 12) (k : Nat) (hk : k < 13) : p k := by
  match k, hk with
  | 0, _ => exact h0
  | 1, _ => exact h1
  | 2, _ => exact h2
  | 3, _ => exact h3
  | 4, _ => exact h4
  | 5, _ => exact h5
  | 6, _ => exact h6
  | 7, _ => exact h7
  | 8, _ => exact h8
  | 9, _ => exact h9
  | 10, _ => exact h10
  | 11, _ => exact h11
  | 12, _ => exact h12
theorem sign_ok : ∀ i, i < 13 → 1 ≤ (signsP.getD i (1, ⟨#[]⟩)).1 ∧ (signsP.getD i (1, ⟨#[]⟩)).1 ≤ 1000 ∧ (signsP.getD i (1, ⟨#[]⟩)).2.size ≤ 2 ∧ ∀ b ∈ (signsP.getD i (1, ⟨#[]⟩)).2.data.toList, b.toNat < 128 :=
  lt13 (by decide) (by decide) (by decide) (by decide) (by decide) (by decide) (by decide) (by decide) (by decide) (by decide) (by decide) (by decide) (by decide)
theorem repeatL_len (l : List UInt8) : ∀ c : Nat, (Lib.repeatL l c).length = l.length * c
  | 0 => rfl
  | c + 1 => by
    show (l ++ Lib.repeatL l c).length = _
    rw [List.length_append, repeatL_len l c, Nat.mul_succ, Nat.add_comm]
theorem repeatL_mem {l : List UInt8} {b : UInt8} : ∀ {c : Nat}, b ∈ Lib.repeatL l c → b ∈ l
  | 0, h => by simp [Lib.repeatL] at h
  | c + 1, h => by
    rcases List.mem_append.1 (show b ∈ l ++ Lib.repeatL l c from h) with h | h
    · exact h
    · exact repeatL_mem h
theorem romF_ok (n : Int) (h0 : 0 ≤ n) (h1 : n ≤ 1000000) : ∀ i, i ≤ 13 → 0 ≤ (romF n i).1 ∧ (romF n i).1 ≤ 1000000 ∧ (romF n i).2.length ≤ 2000000 * i ∧ ∀ b ∈ (romF n i).2, b.toNat < 128
  | 0, _ => ⟨h0, h1, Nat.zero_le _, fun b h => absurd h (List.not_mem_nil)⟩
  | i + 1, h => by
    obtain ⟨a1, a2, a3, a4⟩ := romF_ok n h0 h1 i (by omega)
    obtain ⟨s1, s2, s3, s4⟩ := sign_ok i (by omega)
    rw [romF_succ n (by omega)]
    unfold romStep
    generalize signsP.getD i (1, ⟨#[]⟩) = p at *
    generalize romF n i = st at *
    have m0 := Int.emod_nonneg st.1 (show p.1 ≠ 0 by omega)
    have m1 := Int.emod_lt_of_pos st.1 (show 0 < p.1 by omega)
    have d0 : 0 ≤ st.1 / p.1 := Int.ediv_nonneg a1 (by omega)
    have d1 : st.1 / p.1 ≤ st.1 := Int.ediv_le_self _ a1
    refine ⟨m0, by show st.1 % p.1 ≤ _; omega, ?_, ?_⟩
    · show (st.2 ++ Lib.repeatL p.2.data.toList (st.1 / p.1).toNat).length ≤ _
      rw [List.length_append, repeatL_len]
      have e : p.2.data.toList.length = p.2.size := Array.length_toList
      rw [e]
      have h2 : p.2.size * (st.1 / p.1).toNat ≤ 2 * 1000000 := Nat.mul_le_mul s3 (by omega)
      omega
    · intro b hb
      rcases List.mem_append.1 hb with hb | hb
      · exact a4 b hb
      · exact s4 b (repeatL_mem hb)
theorem romB_size (n : Int) (h0 : 0 ≤ n) (h1 : n ≤ 1000000) : (romB n).size ≤ 26000000 := by
  have := (romF_ok n h0 h1 13 (Nat.le_refl _)).2.2.1
  exact this
theorem romB_ascii (n : Int) (h0 : 0 ≤ n) (h1 : n ≤ 1000000) : ∀ b ∈ (romB n).data.toList, b.toNat < 128 := by
  have := (romF_ok n h0 h1 13 (Nat.le_refl _)).2.2.2
  exact this
end Go.Proofs.YtbpodnhebjjkaaaGreatDoor

namespace Go.Proofs.YtbpodnhebjjkaaaGreatDoor
open Go.RowKit

theorem ibBelow {T e : TypeId} {B b : Nat} {bs : List Value} {w w' : World} (h : Lib.IsBuilderF T e B b bs w) (hb : Below w.heap.size w w') : Lib.IsBuilderF T e B b bs w' := by
  have one : ∀ p, Lib.BuilderAtF T e B b p bs w → Lib.BuilderAtF T e B b p bs w' := by
    rintro p ⟨hB, v, hv, hown, hne⟩
    have hlt : b < w.heap.size := by
      rcases Nat.lt_or_ge b w.heap.size with h' | h'
      · exact h'
      · simp [Array.getElem?_eq_none h'] at hv
    refine ⟨hB, v, (hb.block b hlt).trans hv, hown.kept (row := none) ⟨hb.os, hb.tape, hb.output, hb.size, fun k hk _ => hb.block k hk⟩ ?_, hne⟩
    cases v.ownBlock with
    | none => exact .inl rfl
    | some g => exact .inr (by simp)
  exact h.elim (fun x => .inl (one _ x)) (fun x => .inr (one _ x))
theorem sign_index : ∀ i, i < 13 → ∀ w, (Instr.index 179 (.agg signsC.toArray) (.int .i64 ((i : Nat) : Int))).run Tryz.prog w = .ok (.agg #[.int .i64 (signsP.getD i (1, ⟨#[]⟩)).1, .string (signsP.getD i (1, ⟨#[]⟩)).2]) w :=
  lt13 (p := fun i => ∀ w, (Instr.index 179 (.agg signsC.toArray) (.int .i64 ((i : Nat) : Int))).run Tryz.prog w = .ok (.agg #[.int .i64 (signsP.getD i (1, ⟨#[]⟩)).1, .string (signsP.getD i (1, ⟨#[]⟩)).2]) w) (fun w => by kernel_rfl) (fun w => by kernel_rfl) (fun w => by kernel_rfl) (fun w => by kernel_rfl) (fun w => by kernel_rfl) (fun w => by kernel_rfl) (fun w => by kernel_rfl) (fun w => by kernel_rfl) (fun w => by kernel_rfl) (fun w => by kernel_rfl) (fun w => by kernel_rfl) (fun w => by kernel_rfl) (fun w => by kernel_rfl)
theorem size179 : (Tryz.prog.info? 179).map (·.size) = some signsC.length := by kernel_rfl
theorem keptCell {b p : Nat} {t : TypeId} {cs : Array Value} {w w' : World} (h : Lib.OthersKept 5 (some b) w w') (hp : w.heap[p]? = some (.cells cs t (0, 0))) (hb : p ≠ b) (ht : t ≠ 5) : w'.heap[p]? = some (.cells cs t (0, 0)) :=
  h p _ hp (fun e => hb (Option.some.inj e)) (fun c fz e => by injection e with _ e2 _; exact ht e2)
set_option maxHeartbeats 8000000 in
set_option maxRecDepth 100000 in
theorem roman_any (n : Int) (w : World) (hg : Gl w) (h0 : 0 ≤ n) (h1 : n ≤ 1000000) : Calls Tryz.prog 88 #[.int .i64 n] w fun e w' => e = .returned (.string (romB n)) ∧ Below w.heap.size w w' := by
  have HR := Lib.hid (romF_ok n h0 h1)
  have HS := Lib.hid sign_ok
  have HX := Lib.hid sign_index
  have hi9 := size179
  have rg := hg.signs
  have hA := (Below.refl w.heap.size w).alloc (Nat.le_refl _) (.cells #[.pointer none, .slice none 0 0] 134)
  have rg2 := (hg.below hA).signs
  have B0 : Lib.IsBuilderF 134 5 w.heap.size w.heap.size (Lib.byteCells []) (w.alloc (.cells #[.pointer none, .slice none 0 0] 134)) := Lib.IsBuilderF.of (Lib.fresh_isBuilder 134 5 w)
  go_enter Tryz.func88, Tryz.ntmps88
  go_wp2_with (refine wpList_load_mid rfl 179 _ rfl 0 0 rfl signsC _ rg2 Tryz.underlying179 rfl hi9 ?_)
  go_loopw [0, 7] (fun vn vi wr => ∃ i : Nat, vi = .int .i64 i ∧ i ≤ 13 ∧ vn = .int .i64 (romF n i).1 ∧ Lib.IsBuilderF 134 5 w.heap.size w.heap.size (Lib.byteCells (romF n i).2) wr ∧ Below w.heap.size w wr) (fun _ vi _ => 13 - (intOf vi).toNat)
  case atStart => exact ⟨0, rfl, by omega, rfl, B0, hA⟩
  case round =>
    obtain ⟨i, rfl, hi, rfl, hB, hbw⟩ := hrel
    clear rg rg2 hA B0
    have ro := HR.out i hi
    by_cases hlt : i < 13
    · have hlt' : (i : Int) < 13 := by omega
      have so := HS.out i hlt
      have hix := HX.out i hlt
      have HT := Lib.hid (romF_succ n hlt)
      unfold romStep at HT
      generalize signsP.getD i (1, ⟨#[]⟩) = p at *
      generalize romF n i = st at *
      obtain ⟨pv, ps⟩ := p
      obtain ⟨x, l⟩ := st
      simp only at so hix hB ro HT
      go_upto_region 4 with fail
      go_cut [5] (fun v5 wx => ∃ p5, v5 = .pointer (some ⟨p5, 0, none⟩) ∧ Blk wx p5 178 #[.int .i64 pv, .string ps] ∧ wr.heap.size ≤ p5 ∧ Below wr.heap.size wr wx)
      case first =>
        go_wp2_with fail
        go_meet
        case rel => exact ⟨_, rfl, Blk.new _ _ _, Nat.le_refl _, (Below.refl _ _).alloc (Nat.le_refl _) _⟩
      case rest =>
      obtain ⟨p5, rfl, B5, hp5, hb4⟩ := hcut
      have hB2 := ibBelow hB hb4
      have hbc := below_trans' hbw hbw.size hb4
      have np : p5 ≠ w.heap.size := by
        have : w.heap.size < wr.heap.size := by
          rcases hB with ⟨_, v, hv, _⟩ | ⟨_, v, hv, _⟩
          · rcases Nat.lt_or_ge w.heap.size wr.heap.size with h' | h'
            · exact h'
            · simp [Array.getElem?_eq_none h'] at hv
          · rcases Nat.lt_or_ge w.heap.size wr.heap.size with h' | h'
            · exact h'
            · simp [Array.getElem?_eq_none h'] at hv
        omega
      clear hB hbw hb4 hix
      have q0 : wc.cell? ⟨p5, 0, none⟩ = some (.int .i64 pv) := B5.cell 0 rfl
      have q1 : wc.cell? ⟨p5, 1, none⟩ = some (.string ps) := B5.cell 1 rfl
      have d0 : 0 ≤ x / pv := Int.ediv_nonneg ro.1 (by omega)
      have d1 : x / pv ≤ x := Int.ediv_le_self _ ro.1
      obtain ⟨c, hc⟩ : ∃ c : Nat, (c : Int) = x / pv := ⟨(x / pv).toNat, by omega⟩
      have hc2 : (x / pv).toNat = c := by omega
      rw [hc2] at HT
      have t1 : x.tdiv pv = (c : Int) := by rw [Int.tdiv_eq_ediv_of_nonneg ro.1]; omega
      have t2 : x.tmod pv = x % pv := Int.tmod_eq_emod_of_nonneg ro.1
      have m0 := Int.emod_nonneg x (show pv ≠ 0 by omega)
      have m1 := Int.emod_lt_of_pos x (show 0 < pv by omega)
      have w0 : IntKind.i64.wrap (c : Int) = (c : Int) := IntWalk.i64_in _ (by omega)
      have w1 : IntKind.i64.wrap (x % pv) = x % pv := IntWalk.i64_in _ (by omega)
      have hz : (pv == 0) = false := beq_eq_false_iff_ne.2 (by omega)
      have hz2 : ¬ pv = 0 := by omega
      have hlen : ps.size * c ≤ 2 * 1000000 := Nat.mul_le_mul so.2.2.1 (by omega)
      have hl2 := ro.2.2.1
      have hrep := fun W => Tryz.strings_Repeat ps c W (by omega) (by omega)
      have hsz : (⟨(Lib.repeatL ps.data.toList c).toArray⟩ : ByteArray).size = ps.size * c := by
        show (Lib.repeatL ps.data.toList c).toArray.size = _
        rw [List.size_toArray, repeatL_len]
        rfl
      have hwr := fun W (hW : Lib.IsBuilderF 134 5 w.heap.size w.heap.size (Lib.byteCells l) W) (hW2 : w.heap.size ≤ W.heap.size) => bWrite w.heap.size w.heap.size l ⟨(Lib.repeatL ps.data.toList c).toArray⟩ W hW (by rw [hsz]; omega) hW2
      have HC := Lib.hid hc
      clear hc hc2 hsz
      go_upto_region 5 with fail
      go_region_held3 (fun w' => w'.cell? ⟨p5, 0, none⟩ = some (.int .i64 pv) ∧ w'.cell? ⟨p5, 1, none⟩ = some (.string ps))
        (first | (with_reducible exact ⟨s0, s1⟩) | (with_reducible exact ⟨r0, r1⟩) | go_keep)
        (first
          | (go_at_call 98; refine (hrep _).mono ?_; rintro er w5 ⟨rfl, hb5⟩; have r0 := (hb5.cell (p := ⟨p5, 0, none⟩) (World.block_lt_of_cell? _ _ (q0 : (wc.drewN 1).cell? _ = _))).trans q0; have r1 := (hb5.cell (p := ⟨p5, 1, none⟩) (World.block_lt_of_cell? _ _ (q1 : (wc.drewN 1).cell? _ = _))).trans q1; have hB3 := ibBelow hB2 (nbDrew (q := 1) hb5); have B6 := B5.below (nbDrew (q := 1) hb5); have hbd := below_trans' hbc hbc.size (nbDrew (q := 1) hb5))
          | (go_at_call 56; refine (hwr w5 hB3 hbd.size).mono ?_; rintro er w6 ⟨rfl, hB4, hb6, hk6⟩; have B7 : Blk w6 p5 178 #[.int .i64 pv, .string ps] := keptCell hk6 B6 np (by decide); have s0 := B7.cell 0 rfl; have s1 := B7.cell 1 rfl))
      all_goals
        go_wp2_with fail
        go_roundw
        case measure => rw [intOf, intOf]; omega
        case rel => exact ⟨i + 1, by simp, by omega, by rw [HT.out], by rw [HT.out]; exact hB4, hbd.trans hb6⟩
    · have : i = 13 := by omega
      subst this
      go_wp2_with (first | (go_at_call 58; refine (Tryz.Builder_String_any_f w.heap.size w.heap.size (romF n 13).2 wr hB hbw.size).mono ?_; rintro er w7 ⟨rfl, _, hb7⟩))
      go_ret
      exact ⟨rfl, hbw.trans hb7⟩
end Go.Proofs.YtbpodnhebjjkaaaGreatDoor
