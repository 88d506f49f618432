/- renumber: (*Seq).Replace. From a walk to a law's row: arguments opened by their types, read again behind the call. What the row's condition gives: the two tables that are read. Lists, levels and marks, opened. Lists, levels, marks: opened. The settings' lists. Operations, opened. The law RenumberReplaces, the walk. -/
import Derived.Test.YtbpodnhebjjkaaaGreatDoorS18m
import Derived.Test.YtbpodnhebjjkaaaGreatDoorRows
import Derived.Test.YtbpodnhebjjkaaaGreatDoorm1
import Derived.WalkKit
import Derived.ProofKit
import Derived.OpenShut
import Derived.ShutString
import Derived.Deep.Slices
import Derived.ChangeSame
import Derived.Carry
import Derived.Test.YtbpodnhebjjkaaaGreatDoorm2
import Derived.Test.YtbpodnhebjjkaaaGreatDoorm9
import Derived.Lib.LaidTab
import Derived.LaidMore
import Derived.MakeChecks
import Derived.Test.YtbpodnhebjjkaaaGreatDoorm6
import Derived.Test.YtbpodnhebjjkaaaGreatDoorm13
import Derived.Test.YtbpodnhebjjkaaaGreatDoorm16
import Derived.Test.YtbpodnhebjjkaaaGreatDoorm17
namespace Go.Proofs.YtbpodnhebjjkaaaGreatDoor
open Go.RowKit

/-- what Replace answers. -/
def repE (es : List LsE) (n to_ : Nat) (xs : List Mk) : Int := if n < to_ then 2 else chkE es xs
def RepP (p : Nat) (A : Option Addr) (n c : Nat) (es : List LsE) (vs : List (List Lv)) (ms : List Mk) (from_ to_ : Nat) (xs : List Mk) (w : World) (e : Ending) (w' : World) : Prop :=
  e = .returned (.int .i64 (repE es ms.length to_ xs)) ∧ w.grownBy w' (some p) ∧ (repE es ms.length to_ xs ≠ 0 → Below w.heap.size w w') ∧ (repE es ms.length to_ xs = 0 → ∃ Bv k ck, Blk w' p 59 #[.slice A n c, .slice Bv k ck] ∧ Bks w' w.heap.size Bv k ck es vs n (ms.take from_ ++ xs ++ ms.drop to_))
set_option maxHeartbeats 8000000 in
set_option maxRecDepth 100000 in
theorem replaceSeq_any (p : Nat) (A : Option Addr) (n c : Nat) (es : List LsE) (vs : List (List Lv)) (Bv : Option Addr) (k ck : Nat) (ms : List Mk) (from_ to_ : Nat) (AM : Option Addr) (m cm : Nat) (xs : List Mk) (w : World) (h : SqR w p A n c es vs Bv k ck ms) (hft : from_ ≤ to_) (hto1 : to_ ≤ 1000) (hbig : n ≤ 1000000) (hu : Up (idsL es)) (h0 : (0 : Int) ∉ idsL es) (hC : LvsOk es vs n) (hk : ∀ x ∈ ms, MkIn es x) (hm : Sl w 3 mkC AM m xs) (hmc : m ≤ cm) (hnone : AM = none → cm = 0) (hml : ms.length + m ≤ 64) :
    Calls Tryz.prog 12 #[.pointer (some ⟨p, 0, none⟩), .int .i64 from_, .int .i64 to_, .slice AM m cm] w (RepP p A n c es vs ms from_ to_ xs w) := by
  have hxl := hm.len
  have cN := len_any p A n c es vs Bv k ck ms w h (by omega)
  have cK := Lib.hid (fun W (hb : Below w.heap.size w W) => check_seq_any p A n c es (.slice Bv k ck) AM m cm xs W (h.hp.below hb) (h.ha.l.below hb) hbig hu (hm.below hb) (by omega))
  have HR := Lib.hid (show repE es ms.length to_ xs = if ms.length < to_ then 2 else chkE es xs from rfl)
  have HP := Lib.hid (show ∀ e w', RepP p A n c es vs ms from_ to_ xs w e w' ↔ e = .returned (.int .i64 (repE es ms.length to_ xs)) ∧ w.grownBy w' (some p) ∧ (repE es ms.length to_ xs ≠ 0 → Below w.heap.size w w') ∧ (repE es ms.length to_ xs = 0 → ∃ Bv k ck, Blk w' p 59 #[.slice A n c, .slice Bv k ck] ∧ Bks w' w.heap.size Bv k ck es vs n (ms.take from_ ++ xs ++ ms.drop to_)) from fun _ _ => Iff.rfl)
  have f0 : ¬ (from_ : Int) < 0 := by omega
  have f1 : ¬ (to_ : Int) < from_ := by omega
  by_cases hto : ms.length < to_
  · have hti : (ms.length : Int) < to_ := by omega
    have HR2 := Lib.hid (HR.out.trans (if_pos hto))
    go_enter Tryz.func12, Tryz.ntmps12
    go_wp2_with (first | (go_at_call 19; refine cN.mono ?_; rintro e w3 ⟨rfl, hb3⟩))
    go_ret
    exact (HP.out _ _).2 ⟨by rw [HR2.out]; rfl, grown_below hb3, fun _ => hb3, fun hz => by rw [HR2.out] at hz; omega⟩
  · have hti : ¬ (ms.length : Int) < to_ := by omega
    have HR2 := Lib.hid (HR.out.trans (if_neg hto))
    have e1 : IntKind.i64.wrap ((to_ : Int) - from_) = to_ - from_ := IntWalk.i64_in _ (by omega)
    have e2 : IntKind.i64.wrap ((ms.length : Int) - (to_ - from_)) = ms.length - (to_ - from_) := IntWalk.i64_in _ (by omega)
    have e3 : IntKind.i64.wrap ((ms.length : Int) - (to_ - from_) + m) = ms.length - (to_ - from_) + m := IntWalk.i64_in _ (by omega)
    have e4 : ¬ (16384 : Int) < ms.length - (to_ - from_) + m := by omega
    by_cases hce : chkE es xs = 0
    · have cR := Lib.hid (fun W (hb : Below w.heap.size w W) => replace_any p A n c es vs Bv k ck ms from_ to_ AM m cm xs W (h.below hb) hft (by omega) hbig hu hC hk (mkIn_of h0 hce) (hm.below hb) hmc hnone (by omega) (by simp only [List.length_append, List.length_take, List.length_drop]; omega))
      have HB := Lib.hid (show ∀ W, Below w.heap.size w W → w.heap.size ≤ W.heap.size from fun W hb => hb.size)
      rw [hce] at cK HR2
      go_enter Tryz.func12, Tryz.ntmps12
      go_upto_region 6 with (first | (go_at_call 19; refine cN.mono ?_; rintro e w3 ⟨rfl, hb3⟩))
      go_upto_region 9 with (first | (go_at_call 17; refine (cK.out w3 hb3).mono ?_; rintro e w4 ⟨rfl, hb4⟩; have hb4w := below_trans' hb3 hb3.size hb4))
      go_wp2_with (first | (go_at_call 29; refine (cR.out w4 hb4w).mono ?_; rintro e w5 ⟨rfl, hq, hg⟩))
      go_ret
      refine (HP.out _ _).2 ⟨by rw [HR2.out]; rfl, (grown_below hb4w).trans hg, fun hz => absurd HR2.out hz, fun _ => ?_⟩
      obtain ⟨B', k', ck', q1, q2⟩ := hq
      exact ⟨B', k', ck', q1, q2.base hb4w.size⟩
    · have bce : (chkE es xs != 0) = true := bne_iff_ne.2 hce
      generalize chkE es xs = ce at *
      go_enter Tryz.func12, Tryz.ntmps12
      go_upto_region 6 with (first | (go_at_call 19; refine cN.mono ?_; rintro e w3 ⟨rfl, hb3⟩))
      go_upto_region 9 with (first | (go_at_call 17; refine (cK.out w3 hb3).mono ?_; rintro e w4 ⟨rfl, hb4⟩; have hb4w := below_trans' hb3 hb3.size hb4))
      go_wp2_with fail
      go_ret
      exact (HP.out _ _).2 ⟨by rw [HR2.out]; rfl, grown_below hb4w, fun _ => hb4w, fun hz => by rw [HR2.out] at hz; exact absurd hz hce⟩
end Go.Proofs.YtbpodnhebjjkaaaGreatDoor

namespace Go.Proofs.YtbpodnhebjjkaaaGreatDoor
open Go.ChangeShapes Go.WideShapes Go.ChangeAt Go.RowKit Go.Deep
open Go.ChangeMaps (open_string shut_string)

theorem own_knob : ownKnob Tryz.prog.godebug = none := by kernel_rfl
theorem laid_out : laidOutB Tryz.prog = true := by kernel_rfl

section
variable {H : Type} {enc : TypeId × Value → H} {P : Program}
theorem trodAll_stays {W W' : World} (hl : laidOutB P = true) (hb : Below W.heap.size W W') : ∀ (ts : List TypeId) (vs : List Value) (ds : List (DataW H)) (ps : List MemPlace), (∀ t ∈ ts, P.readableRec t = true ∧ t < P.types.size) →
    DataW.TrodAll enc P W 0 (fun _ => true) true ts vs ds ps → (∀ p ∈ ps, p.block < W.heap.size) → ∀ sp : Nat → Bool, (∀ p ∈ ps, sp p.block = true) → DataW.TrodAll enc P W' 0 sp true ts vs ds ps
  | [], vs, ds, ps, _, h, _, sp, _ => by
    obtain ⟨rfl, rfl, rfl⟩ := trodAll_nil h
    exact trodAll_mk0
  | t :: ts, vs, ds, ps, hr, h, hlt, sp, hsp => by
    obtain ⟨v, vs', d, ds', p, q, rfl, rfl, rfl, h0, r0⟩ := trodAll_cons h
    have ht := hr t (List.mem_cons_self ..)
    refine trodAll_cons_mk (WideElems.Trod_stays hl ht.1 ht.2 h0 (fun x hx => hb.same (hlt x (List.mem_append_left _ hx))) (fun x hx => hsp x (List.mem_append_left _ hx))) ?_
    exact trodAll_stays hl hb ts vs' ds' q (fun t ht => hr t (List.mem_cons_of_mem _ ht)) r0 (fun x hx => hlt x (List.mem_append_right _ hx)) sp (fun x hx => hsp x (List.mem_append_right _ hx))

/-- The row's last step of a law: it returned true, and below the old heap nothing has turned. -/
theorem post_law {f : Func} {s : ChangeSpec} {apart fresh handsOn again : Bool} {W W' : World} {args : Array Value} {ds gs : List (DataW H)} {before : List MemPlace}
    (hl : laidOutB P = true) (hread : ∀ t ∈ f.params.toList, P.readableRec t = true ∧ t < P.types.size)
    (hW : DataW.Whole enc P f.params.toList s.vars apart W args.toList ds gs before)
    (hvars : s.vars = []) (hres : (s.fn H (ds ++ gs)).results = [.lit (.bool true)]) (hargs : (s.fn H (ds ++ gs)).args = ds) (hvs : (s.fn H (ds ++ gs)).vars = [])
    {tb : TypeId} (htb : P.underlying tb = some .bool) (hrt : f.resultTypes = #[tb]) (hb : Below W.heap.size W W') :
    s.post enc P f apart fresh handsOn again W args (.bool true) W' := by
  have hlt : ∀ p ∈ before, p.block < W.heap.size := fun p hp => hW.lt p hp
  have hold : ∀ p ∈ before, (fun b => decide (b < W.heap.size)) p.block = true := fun p hp => by simpa using hlt p hp
  have hW0 := hW
  obtain ⟨p, q, hA, hV, rfl, hz, hn⟩ := hW
  rw [hvars] at hV
  obtain ⟨rfl, rfl⟩ := trodVars_none hV
  simp only [List.append_nil] at hlt hold hz hn hres hargs hvs hW0
  have ha : ∀ sp : Nat → Bool, (∀ x ∈ p, sp x.block = true) → DataW.TrodAll enc P W' 0 sp true f.params.toList args.toList (s.fn H ds).args p := fun sp hsp => by
    rw [hargs]; exact trodAll_stays hl hb _ _ _ _ hread hA hlt sp hsp
  have hr : ∀ (b : Nat) (sp : Nat → Bool) (hd : Bool), DataW.TrodAll enc P W' b sp hd f.resultTypes.toList ((Value.bool true).resultList f.resultTypes.size) (s.fn H ds).results [] := fun b sp hd => by
    rw [hrt, hres]; exact trodAll_cons_mk (shut_bool htb _) trodAll_mk0
  have hv : ∀ sp : Nat → Bool, DataW.TrodVars enc P W' sp s.vars (s.fn H ds).vars [] := fun sp => by rw [hvars, hvs]; rfl
  have hok := ok_one (P := P) (W' := W') (f := f) (v := .bool true) hrt rfl (okWide_bool_mk htb true)
  refine ⟨ds, [], p, [], p, [], by simpa using hW0, by simpa using hr _ _ _, by simpa using ha _ hold, by simpa using hv _, World.keptBut_mono (fun x hx => ⟨hx, .inr (by simpa using hx)⟩) (hb.frame (· ∈ p)), fun _ => ?_⟩
  refine ⟨hok, _, _, ([] ++ p) ++ [], ⟨[] ++ p, [], trodAll_append (by simpa using ha _ (fun _ _ => rfl)) (by simpa using hr _ _ _), by simpa using hv _, rfl, ?_, ?_⟩, ?_⟩
  · intro b off hp
    have hin : MemPlace.cell b off ∈ p := by simpa using hp
    rw [hb.frozen (hlt _ hin)]
    exact hz b off hin
  · intro h
    have := hn h
    simpa using this
  · intro x hx _
    simpa using hx

/-- Whatever reads as data of type t are the cells of some y. -/
def Opens {α : Type} (enc : TypeId × Value → H) (P : Program) (w : World) (t : TypeId) (ev : α → List Value) (ok : α → Prop) : Prop :=
  ∀ (fuel : Nat) (cs : List Value) (x : DataW H × List MemPlace), DataW.trod enc P w 0 (fun _ => true) true fuel t cs = some x → ∃ y, cs = ev y ∧ ok y
theorem opens_int {k : IntKind} {w : World} {t : TypeId} (ht : P.underlying t = some (.int k)) : Opens enc P w t (fun n => [Value.int k n]) (fun n => (Lit.int k n).wf = true) := fun fuel cs x h => by
  obtain ⟨n, h1, _, h2⟩ := DataW.trod_int ht h
  exact ⟨n, h1, h2⟩
theorem open_sl {α : Type} {w : World} {t e : TypeId} {s : Nat} {ev : α → List Value} {ok : α → Prop} (ht : P.underlying t = some (.slice e)) (hC : P.cellsOf e = s) (hs0 : 0 < s) (ho : Opens enc P w e ev ok) {r : Reach} {b0 : Nat} {v : Value} {d : DataW H} {p : List MemPlace}
    (hval : Value.okWide P w r b0 t v) (h : DataW.Trod enc P w 0 (fun _ => true) true t v d p) :
    ∃ (A : Option Addr) (n c : Nat) (xs : List α), v = .slice A n c ∧ n ≤ c ∧ c ≤ maxLen ∧ Sl w s ev A n xs ∧ ∀ x ∈ xs, ok x := by
  obtain ⟨A0, n0, c0, rfl⟩ := okWide_slice ht hval
  obtain ⟨fuel, hf⟩ := h
  rcases open_slice ht hf with ⟨h0, _⟩ | ⟨a, n, c, m, k, D, Pl, hcs, _, hl, hm, hmm, _, hi⟩
  · simp only [Value.cells, List.cons.injEq, and_true] at h0
    injection h0 with h1 h2 h3
    subst h1; subst h2; subst h3
    exact ⟨none, 0, 0, [], rfl, Nat.le_refl _, Nat.zero_le _, Sl.nil, by simp⟩
  · simp only [Value.cells, List.cons.injEq, and_true] at hcs
    rw [hcs]
    simp only [if_true] at hmm
    have hc1 : ∀ i, i < n → ∃ y, (ok y ∧ ∀ j u, (ev y)[j]? = some u → w.cell? (a.add (i * s + j)) = some u ∧ a.block < w.heap.size) := fun i hin => by
      obtain ⟨cs', hc, ht'⟩ := hi i (by omega)
      obtain ⟨y, hy, hok⟩ := ho _ _ _ ht'
      rw [hC] at hc
      obtain ⟨_, hcl, hat⟩ := World.cells?_some hc
      refine ⟨y, hok, fun j u hu => ?_⟩
      rw [← hy] at hu
      have hj : j < s := by have := (List.getElem?_eq_some_iff.1 hu).1; omega
      have hcell := hat j hj
      rw [hu] at hcell
      have e : w.cell? (a.add (i * s + j)) = some u := by rw [← hcell, Go.Deep.add_add]
      exact ⟨e, by have := World.block_lt_of_cell? w _ e; rw [block_add] at this; exact this⟩
    by_cases hn : n = 0
    · subst hn
      exact ⟨some a, 0, c, [], rfl, Nat.zero_le _, hm, ⟨rfl, fun h => absurd h (by omega)⟩, by simp⟩
    · have hne : Nonempty α := ⟨(hc1 0 (by omega)).choose⟩
      have hc2 : ∀ i, ∃ y, i < n → (ok y ∧ ∀ j u, (ev y)[j]? = some u → w.cell? (a.add (i * s + j)) = some u ∧ a.block < w.heap.size) := fun i => by
        by_cases hin : i < n
        · obtain ⟨y, hy⟩ := hc1 i hin
          exact ⟨y, fun _ => hy⟩
        · exact ⟨Classical.choice hne, fun h => absurd h hin⟩
      obtain ⟨f, hf'⟩ := Classical.axiomOfChoice hc2
      have hz : a.block < w.heap.size := by
        obtain ⟨cs', hc, ht'⟩ := hi 0 (by omega)
        obtain ⟨_, hcl, hat⟩ := World.cells?_some hc
        have hp : 0 < P.cellsOf e := by omega
        have hcell := hat 0 hp
        have hlen : cs'[0]? = some (cs'[0]'(by omega)) := List.getElem?_eq_getElem _
        rw [hlen] at hcell
        have := World.block_lt_of_cell? w _ hcell
        rw [block_add, block_add] at this
        exact this
      refine ⟨some a, n, c, (List.range n).map f, rfl, hl, hm, ⟨by simp, fun _ => ⟨a, rfl, hz, fun i x hx j u hu => ?_⟩⟩, ?_⟩
      · have hin : i < n := by have := (List.getElem?_eq_some_iff.1 hx).1; simpa using this
        rw [List.getElem?_map, List.getElem?_range hin] at hx
        injection hx with hx
        subst hx
        exact ((hf' i hin).2 j u hu).1
      · intro x hx
        obtain ⟨i, hi, rfl⟩ := List.mem_map.1 hx
        exact (hf' i (List.mem_range.1 hi)).1
end
end Go.Proofs.YtbpodnhebjjkaaaGreatDoor

namespace Go.Proofs.YtbpodnhebjjkaaaGreatDoor
open Go.ChangeShapes Go.WideShapes Go.ChangeAt Go.RowKit Go.Deep

theorem bytes_ext {a b : ByteArray} (h : a.data.toList = b.data.toList) : a = b := by
  cases a; cases b
  simp at h
  rw [h]
theorem flat_of {α : Type} {s : Nat} {enc : α → List Value} (henc : ∀ x : α, (enc x).length = s) (hs : 0 < s) {cs : List Value} {xs : List α} (hl : cs.length = xs.length * s) (h : ∀ i x, xs[i]? = some x → (cs.drop (i * s)).take s = enc x) : cs = xs.flatMap enc := by
  apply List.ext_getElem?
  intro j
  by_cases hj : j < xs.length * s
  · have h1 : j / s < xs.length := Nat.div_lt_of_lt_mul (by rw [Nat.mul_comm]; exact hj)
    have h2 : j % s < s := Nat.mod_lt _ hs
    have hx : xs[j / s]? = some xs[j / s] := List.getElem?_eq_getElem h1
    have h3 : j % s < (enc xs[j / s]).length := by rw [henc]; exact h2
    have f := getElem?_flat henc xs (j / s) _ hx (j % s) _ (List.getElem?_eq_getElem h3)
    rw [Nat.div_add_mod' j s] at f
    rw [f, ← List.getElem?_eq_getElem h3, ← h _ _ hx, List.getElem?_take, if_pos h2, List.getElem?_drop, Nat.div_add_mod' j s]
  · rw [List.getElem?_eq_none (by omega), List.getElem?_eq_none (by rw [flat_len henc]; omega)]
section
variable {H : Type} {enc : TypeId × Value → H}
set_option maxRecDepth 100000 in
theorem sign_at {W : World} {fuel : Nat} {cs : List Value} {x : DataW H × List MemPlace} {sp : Nat → Bool} {held : Bool} {b : Nat} (h : DataW.trod enc Tryz.prog W b sp held fuel 178 cs = some x) : ∃ (n : Int) (s : ByteArray), cs = [.int .i64 n, .string s] ∧ x.1 = .agg [.lit (.int .i64 n), .lit (.string s.data.toList)] := by
  obtain ⟨xs, n, _, e, hcl, hxl, hf⟩ := DataW.trod_struct Tryz.underlying178 h
  have hc2 : cs.length = 2 := hcl
  have f0 := hf 0 _ rfl
  have f1 := hf 1 _ rfl
  match cs, hc2 with
  | [a, c], _ =>
    match xs, hxl with
    | [y0, y1], _ =>
      obtain ⟨n0, e0, x0, _⟩ := DataW.trod_int Tryz.underlying3 (show DataW.trod enc Tryz.prog W b sp held n 3 [a] = some y0 from f0)
      obtain ⟨s1, e1, x1, _⟩ := DataW.trod_string Tryz.underlying9 (show DataW.trod enc Tryz.prog W b sp held n 9 [c] = some y1 from f1)
      simp only [List.cons.injEq, and_true] at e0 e1
      subst e0; subst e1
      refine ⟨n0, s1, rfl, ?_⟩
      rw [e, x0, x1]
      rfl
end
def signD {H : Type} (p : Int × ByteArray) : DataW H := .agg [.lit (.int .i64 p.1), .lit (.string p.2.data.toList)]
set_option maxRecDepth 100000 in
theorem signs_of {W : World} {fuel : Nat} {cs : List Value} {p : List MemPlace} {sp : Nat → Bool} {held : Bool} {b : Nat} (h : DataW.trod (fun _ => ()) Tryz.prog W b sp held fuel 179 cs = some (.agg (signsP.map signD), p)) : cs = signsC := by
  obtain ⟨xs, m, _, e, hcl, hxl, hel⟩ := DataW.trod_array Tryz.underlying179 h
  have ce : Tryz.prog.cellsOf 178 = 2 := by kernel_rfl
  have ct : Tryz.prog.cellsOf 179 = 26 := by kernel_rfl
  rw [ct] at hcl
  have hm : xs.map (·.1) = signsP.map signD := by
    have := congrArg Prod.fst e
    simpa using this.symm
  have hsl : signsP.length = 13 := rfl
  refine flat_of (enc := fun p : Int × ByteArray => [Value.int .i64 p.1, Value.string p.2]) (s := 2) (fun _ => rfl) (by omega) (by rw [hcl, hsl]) (fun i x hx => ?_)
  have hi : i < 13 := by rw [← hsl]; exact (List.getElem?_eq_some_iff.1 hx).1
  have hE := hel i hi
  rw [ce, List.getElem?_eq_getElem (by omega : i < xs.length)] at hE
  obtain ⟨n, s, e1, e2⟩ := sign_at hE
  have e3 : (xs.map (·.1))[i]? = (signsP.map (signD (H := Unit)))[i]? := by rw [hm]
  rw [List.getElem?_map, List.getElem?_map, List.getElem?_eq_getElem (by omega : i < xs.length), hx] at e3
  simp only [Option.map_some, Option.some.injEq] at e3
  rw [e2] at e3
  unfold signD at e3
  simp only [DataW.agg.injEq, List.cons.injEq, DataW.lit.injEq, Lit.int.injEq, Lit.string.injEq, and_true, true_and] at e3
  obtain ⟨e4, e5⟩ := e3
  rw [e1, e4, bytes_ext e5]
set_option maxRecDepth 100000 in
theorem laid_gl {W : World} (h : laidMetH Tryz.prog Rows.renumberNewRow.laid W) : Gl W := by
  rw [MakeChecks.laidMetH_plain _ _ _ (by kernel_rfl)] at h
  obtain ⟨ps, ⟨_, _, _, _, _, _, _, _, _, _, ⟨_, _, _, _, _, _, _, _, _, _, ⟨g2, t2, cs2, f2, p2, q2, hg2, ht2, hv2, hd2, ⟨_, _, _, _, _, _, _, _, _, _, ⟨g4, t4, cs4, f4, p4, q4, hg4, ht4, hv4, hd4, _, _⟩, _⟩, _⟩, _⟩, _⟩, _, _⟩ := h
  obtain rfl := Option.some.inj ((show Tryz.prog.globalNamed "internal/strconv.uint64pow10" = some 2 by kernel_rfl).symm.trans hg2)
  obtain rfl := Option.some.inj ((show Tryz.prog.globalNamed "obelus/numeral.signs" = some 0 by kernel_rfl).symm.trans hg4)
  obtain rfl := Option.some.inj ((show (Tryz.prog.globals[2]?).map (·.type) = some 207 by kernel_rfl).symm.trans ht2)
  obtain rfl := Option.some.inj ((show (Tryz.prog.globals[0]?).map (·.type) = some 179 by kernel_rfl).symm.trans ht4)
  refine ⟨?_, fun j v hv => ?_⟩
  · have e : cs2.toList = Lib.pow10Tab.map fun z => Value.int .u64 z := Lib.cells_of_tab Tryz.underlying207 Tryz.underlying190 (by kernel_rfl) (by kernel_rfl) hd2
    unfold Lib.TabIs
    rw [hv2, ← e]
  · have e : cs4.toList = signsC := signs_of hd4
    have := World.var?_cell hg4 hv4 j
    rw [Nat.zero_add, this, ← Array.getElem?_toList, e, hv]
end Go.Proofs.YtbpodnhebjjkaaaGreatDoor

namespace Go.Proofs.YtbpodnhebjjkaaaGreatDoor
open Go.ChangeShapes Go.WideShapes Go.ChangeAt Go.RowKit Go.Deep

section
variable {H : Type} {enc : TypeId × Value → H} {P : Program}
/-- a slice among the cells of something greater. -/
theorem opens_slc {α : Type} {w : World} {t e : TypeId} {s : Nat} {ev : α → List Value} {ok : α → Prop} (ht : P.underlying t = some (.slice e)) (hC : P.cellsOf e = s) (hs0 : 0 < s) (ho : Opens enc P w e ev ok) :
    Opens enc P w t (fun q : Option Addr × Nat × Nat => [Value.slice q.1 q.2.1 q.2.2]) (fun q => q.2.1 ≤ q.2.2 ∧ q.2.2 ≤ maxLen ∧ (q.1 = none → q.2.2 = 0) ∧ ∃ xs, Sl w s ev q.1 q.2.1 xs ∧ ∀ x ∈ xs, ok x) := fun fuel cs x hf => by
  obtain ⟨d, p⟩ := x
  rcases open_slice ht hf with ⟨h0, _⟩ | ⟨a, n, c, m, k, D, Pl, hcs, _, hl, hm, hmm, _, hi⟩
  · exact ⟨(none, 0, 0), h0, Nat.le_refl _, Nat.zero_le _, fun _ => rfl, [], Sl.nil, by simp⟩
  · simp only [if_true] at hmm
    have hc1 : ∀ i, i < n → ∃ y, (ok y ∧ ∀ j u, (ev y)[j]? = some u → w.cell? (a.add (i * s + j)) = some u ∧ a.block < w.heap.size) := fun i hin => by
      obtain ⟨cs', hc, ht'⟩ := hi i (by omega)
      obtain ⟨y, hy, hok⟩ := ho _ _ _ ht'
      rw [hC] at hc
      obtain ⟨_, hcl, hat⟩ := World.cells?_some hc
      refine ⟨y, hok, fun j u hu => ?_⟩
      rw [← hy] at hu
      have hj : j < s := by have := (List.getElem?_eq_some_iff.1 hu).1; omega
      have hcell := hat j hj
      rw [hu] at hcell
      have e : w.cell? (a.add (i * s + j)) = some u := by rw [← hcell, Go.Deep.add_add]
      exact ⟨e, by have := World.block_lt_of_cell? w _ e; rw [block_add] at this; exact this⟩
    refine ⟨(some a, n, c), hcs, hl, hm, (fun h => by cases h), ?_⟩
    by_cases hn : n = 0
    · subst hn
      exact ⟨[], ⟨rfl, fun h => absurd h (Nat.lt_irrefl 0)⟩, by simp⟩
    · have hne : Nonempty α := ⟨(hc1 0 (by omega)).choose⟩
      have hc2 : ∀ i, ∃ y, i < n → (ok y ∧ ∀ j u, (ev y)[j]? = some u → w.cell? (a.add (i * s + j)) = some u ∧ a.block < w.heap.size) := fun i => by
        by_cases hin : i < n
        · obtain ⟨y, hy⟩ := hc1 i hin
          exact ⟨y, fun _ => hy⟩
        · exact ⟨Classical.choice hne, fun h => absurd h hin⟩
      obtain ⟨f, hf'⟩ := Classical.axiomOfChoice hc2
      have hz : a.block < w.heap.size := by
        obtain ⟨cs', hc, ht'⟩ := hi 0 (by omega)
        obtain ⟨_, hcl, hat⟩ := World.cells?_some hc
        have hp : 0 < P.cellsOf e := by omega
        have hcell := hat 0 hp
        have hlen : cs'[0]? = some (cs'[0]'(by omega)) := List.getElem?_eq_getElem _
        rw [hlen] at hcell
        have := World.block_lt_of_cell? w _ hcell
        rw [block_add, block_add] at this
        exact this
      refine ⟨(List.range n).map f, ⟨by simp, fun _ => ⟨a, rfl, hz, fun i x hx j u hu => ?_⟩⟩, ?_⟩
      · have hin : i < n := by have := (List.getElem?_eq_some_iff.1 hx).1; simpa using this
        rw [List.getElem?_map, List.getElem?_range hin] at hx
        injection hx with hx
        subst hx
        exact ((hf' i hin).2 j u hu).1
      · intro x hx
        obtain ⟨i, hi, rfl⟩ := List.mem_map.1 hx
        exact (hf' i (List.mem_range.1 hi)).1
end
section
variable {H : Type} {enc : TypeId × Value → H}
set_option maxRecDepth 100000 in
theorem opens_lv (w : World) : Opens enc Tryz.prog w 74 lvC (fun _ => True) := fun fuel cs x h => by
  obtain ⟨xs, n, _, _, hcl, hxl, hf⟩ := DataW.trod_struct Tryz.underlying74 h
  have hc2 : cs.length = 4 := hcl
  have f0 := hf 0 _ rfl
  have f1 := hf 1 _ rfl
  have f2 := hf 2 _ rfl
  have f3 := hf 3 _ rfl
  match cs, hc2 with
  | [a, b, c, d], _ =>
    match xs, hxl with
    | [y0, y1, y2, y3], _ =>
      obtain ⟨n0, e0, _, _⟩ := DataW.trod_int Tryz.underlying3 (show DataW.trod enc Tryz.prog w 0 (fun _ => true) true n 3 [a] = some y0 from f0)
      obtain ⟨n1, e1, _, _⟩ := DataW.trod_int Tryz.underlying3 (show DataW.trod enc Tryz.prog w 0 (fun _ => true) true n 3 [b] = some y1 from f1)
      obtain ⟨s2, e2, _, _⟩ := DataW.trod_string Tryz.underlying9 (show DataW.trod enc Tryz.prog w 0 (fun _ => true) true n 9 [c] = some y2 from f2)
      obtain ⟨n3, e3, _, _⟩ := DataW.trod_int Tryz.underlying3 (show DataW.trod enc Tryz.prog w 0 (fun _ => true) true n 3 [d] = some y3 from f3)
      simp only [List.cons.injEq, and_true] at e0 e1 e2 e3
      subst e0; subst e1; subst e2; subst e3
      exact ⟨⟨n0, n1, s2, n3⟩, rfl, trivial⟩
set_option maxRecDepth 100000 in
theorem opens_mk (w : World) : Opens enc Tryz.prog w 81 mkC (fun _ => True) := fun fuel cs x h => by
  obtain ⟨xs, n, _, _, hcl, hxl, hf⟩ := DataW.trod_struct Tryz.underlying81 h
  have hc2 : cs.length = 3 := hcl
  have f0 := hf 0 _ rfl
  have f1 := hf 1 _ rfl
  have f2 := hf 2 _ rfl
  match cs, hc2 with
  | [a, b, c], _ =>
    match xs, hxl with
    | [y0, y1, y2], _ =>
      obtain ⟨n0, e0, _, _⟩ := DataW.trod_int Tryz.underlying3 (show DataW.trod enc Tryz.prog w 0 (fun _ => true) true n 3 [a] = some y0 from f0)
      obtain ⟨n1, e1, _, _⟩ := DataW.trod_int Tryz.underlying3 (show DataW.trod enc Tryz.prog w 0 (fun _ => true) true n 3 [b] = some y1 from f1)
      obtain ⟨n2, e2, _, _⟩ := DataW.trod_int Tryz.underlying3 (show DataW.trod enc Tryz.prog w 0 (fun _ => true) true n 3 [c] = some y2 from f2)
      simp only [List.cons.injEq, and_true] at e0 e1 e2
      subst e0; subst e1; subst e2
      exact ⟨⟨n0, n1, n2⟩, rfl, trivial⟩
/-- what a list holds: its levels lie in memory. -/
def LsOk (w : World) (e : LsE) : Prop := e.n ≤ e.c ∧ ∃ ls, Sl w 4 lvC e.A e.n ls
set_option maxRecDepth 100000 in
theorem opens_ls (w : World) : Opens enc Tryz.prog w 27 lsC (LsOk w) := fun fuel cs x h => by
  obtain ⟨xs, n, _, _, hcl, hxl, hf⟩ := DataW.trod_struct Tryz.underlying27 h
  have hc2 : cs.length = 2 := hcl
  have f0 := hf 0 _ rfl
  have f1 := hf 1 _ rfl
  match cs, hc2 with
  | [a, b], _ =>
    match xs, hxl with
    | [y0, y1], _ =>
      obtain ⟨n0, e0, _, _⟩ := DataW.trod_int Tryz.underlying3 (show DataW.trod enc Tryz.prog w 0 (fun _ => true) true n 3 [a] = some y0 from f0)
      obtain ⟨q, e1, h1, _, _, ls, h2, _⟩ := opens_slc Tryz.underlying25 (s := 4) (by kernel_rfl) (by omega) (opens_lv w) n [b] y1 (show DataW.trod enc Tryz.prog w 0 (fun _ => true) true n 25 [b] = some y1 from f1)
      simp only [List.cons.injEq, and_true] at e0 e1
      subst e0; subst e1
      exact ⟨⟨n0, q.1, q.2.1, q.2.2⟩, rfl, h1, ls, h2⟩
end
/-- the levels of lists that lie in memory. -/
theorem lst_of {w : World} {A : Option Addr} {n : Nat} {es : List LsE} (h : Sl w 2 lsC A n es) (hok : ∀ e ∈ es, LsOk w e) : ∃ vs, LsT w A n es vs := by
  have hl := h.len
  have hch : ∀ k, ∃ ls, k < n → (gE es k).n ≤ (gE es k).c ∧ Sl w 4 lvC (gE es k).A (gE es k).n ls := fun k => by
    by_cases hk : k < n
    · have hm : gE es k ∈ es := by
        unfold gE
        rw [List.getD_eq_getElem?_getD, List.getElem?_eq_getElem (by omega)]
        exact List.getElem_mem _
      obtain ⟨h1, ls, h2⟩ := hok _ hm
      exact ⟨ls, fun _ => ⟨h1, h2⟩⟩
    · exact ⟨[], fun h => absurd h hk⟩
  obtain ⟨f, hf⟩ := Classical.axiomOfChoice hch
  have hg : ∀ k, k < n → ((List.range n).map f).getD k [] = f k := fun k hk => by
    rw [List.getD_eq_getElem?_getD, List.getElem?_map, List.getElem?_range hk]; rfl
  exact ⟨(List.range n).map f, h, fun k hk => by rw [hg k hk]; exact (hf k hk).2, fun k hk => (hf k hk).1, by simp⟩
end Go.Proofs.YtbpodnhebjjkaaaGreatDoor

namespace Go.Proofs.YtbpodnhebjjkaaaGreatDoor
open Go.ChangeShapes Go.WideShapes Go.ChangeAt Go.RowKit Go.Deep

theorem Blk.slr {α : Type} {w : World} {g s : Nat} {t : TypeId} {enc : α → List Value} {xs : List α} (h : Blk w g t (xs.flatMap enc).toArray) (henc : ∀ x : α, (enc x).length = s) : Sl w s enc (some ⟨g, 0, none⟩) xs.length xs :=
  ⟨rfl, fun _ => ⟨_, rfl, h.lt, fun i x hx j u hu => by
    rw [Addr.add_mid, Nat.zero_add]
    have := getElem?_flat henc xs i x hx j u hu
    exact h.cell (i * s + j) (by simpa using this)⟩⟩
def lv2 : List Lv := [⟨5, 1, ⟨#[37, 49]⟩, 0⟩]
theorem lv2_right : clE lv2 = 0 := by decide +kernel
def SetPost2 (w : World) (e : Ending) (w' : World) : Prop :=
  ∃ v0 v2 v3 g gl g2, e = .returned (.agg #[v0, .slice (some ⟨g, 0, none⟩) 2 2, v2, v3]) ∧ Blk w' g 27 #[.int .i64 1, .slice (some ⟨gl, 0, none⟩) 2 2, .int .i64 2, .slice (some ⟨g2, 0, none⟩) 1 1] ∧ Blk w' gl 74 (knL.flatMap lvC).toArray ∧ Blk w' g2 74 (lv2.flatMap lvC).toArray ∧ Below w.heap.size w w'
theorem lv2_flat : (lv2.flatMap lvC).toArray = #[.int .i64 5, .int .i64 1, .string ⟨#[37, 49]⟩, .int .i64 0] := rfl
set_option maxHeartbeats 4000000 in
set_option maxRecDepth 100000 in
theorem settings2_any (w : World) : Calls Tryz.prog 9 #[] w (SetPost2 w) := by
  go_enter Tryz.func9, Tryz.ntmps9
  go_wp2_with fail
  refine bodyPost_ret (results_cell_row rfl _ _ w.heap.size 40 (setA w.heap.size) (0, 0) _ rfl ?hg Tryz.underlying40 rfl (by kernel_rfl)) rfl ?hq
  case hg =>
    unfold setA
    repeat (first | exact Blk.new' (by simp) | refine Blk.alloc ?_ _)
  case hq =>
    refine ⟨_, _, _, w.heap.size + 1 + 1 + 1 + 1 + 1 + 1 + 1 + 1, w.heap.size + 1 + 1 + 1 + 1 + 1 + 1, w.heap.size + 1 + 1 + 1 + 1 + 1 + 1 + 1, rfl, ?_, ?_, ?_, ?_⟩
    · repeat (first | exact Blk.new' (by simp) | refine Blk.alloc ?_ _)
    · rw [knL_flat]
      repeat (first | exact Blk.new' (by simp) | refine Blk.alloc ?_ _)
    · rw [lv2_flat]
      repeat (first | exact Blk.new' (by simp) | refine Blk.alloc ?_ _)
    · repeat (refine Below.alloc ?_ (by simp <;> omega) _)
      exact Below.refl _ _
/-- the settings' lists, as lists in memory. -/
theorem settings_lists (w : World) : Calls Tryz.prog 9 #[] w fun e w' => ∃ v0 v2 v3 A es, e = .returned (.agg #[v0, .slice A 2 2, v2, v3]) ∧ LsT w' A 2 es [knL, lv2] ∧ allE es [knL, lv2] [] = 0 ∧ Below w.heap.size w w' := by
  refine (settings2_any w).mono ?_
  rintro e w' ⟨v0, v2, v3, g, gl, g2, rfl, b1, b2, b3, hb⟩
  refine ⟨v0, v2, v3, some ⟨g, 0, none⟩, [⟨1, some ⟨gl, 0, none⟩, 2, 2⟩, ⟨2, some ⟨g2, 0, none⟩, 1, 1⟩], rfl, ⟨Blk.slr (xs := [⟨1, some ⟨gl, 0, none⟩, 2, 2⟩, ⟨2, some ⟨g2, 0, none⟩, 1, 1⟩]) b1 lsC_len, fun k hk => ?_, fun k hk => ?_, rfl⟩, ?_, hb⟩
  · rcases (by omega : k = 0 ∨ k = 1) with rfl | rfl
    · exact b2.slr lvC_len
    · exact b3.slr lvC_len
  · rcases (by omega : k = 0 ∨ k = 1) with rfl | rfl <;> exact Nat.le_refl _
  · unfold allE prL idsL
    have : lstE 0 [((1 : Int), knL), (2, lv2)] = 0 := by
      unfold lstE
      rw [if_neg (by decide), if_neg (by rw [knL_right]; decide)]
      unfold lstE
      rw [if_neg (by decide), if_neg (by rw [lv2_right]; decide)]
      rfl
    rw [if_neg (fun h => h this)]
    rfl
structure OpE where
  f : Int
  k : Int
  A : Option Addr
  n : Nat
  c : Nat
def opC (o : OpE) : List Value := [.int .u8 o.f, .int .u8 o.k, .slice o.A o.n o.c]
theorem opC_len (o : OpE) : (opC o).length = 3 := rfl
def OpOk (w : World) (o : OpE) : Prop := 0 ≤ o.f ∧ o.f ≤ 255 ∧ 0 ≤ o.k ∧ o.k ≤ 255 ∧ o.n ≤ o.c ∧ (o.A = none → o.c = 0) ∧ ∃ xs, Sl w 3 mkC o.A o.n xs
def gO (os : List OpE) (i : Nat) : OpE := os.getD i ⟨0, 0, none, 0, 0⟩
theorem Sl.op {w : World} {A : Option Addr} {n : Nat} {os : List OpE} (h : Sl w 3 opC A n os) {k : Nat} (hk : k < n) :
    ∃ ad, A = some ad ∧ w.cell? (ad.add (k * 3)) = some (.int .u8 (gO os k).f) ∧ w.cell? ⟨(ad.add (k * 3)).block, (ad.add (k * 3)).off + 1, none⟩ = some (.int .u8 (gO os k).k) ∧ w.cell? ⟨(ad.add (k * 3)).block, (ad.add (k * 3)).off + 2, none⟩ = some (.slice (gO os k).A (gO os k).n (gO os k).c) ∧ gO os k ∈ os := by
  obtain ⟨ad, e, hl, x, hx, hc⟩ := h.at_ hk
  have hg : gO os k = x := by unfold gO; rw [List.getD_eq_getElem?_getD, hx]; rfl
  rw [hg]
  have f : ∀ j u, 0 < j → (opC x)[j]? = some u → w.cell? ⟨(ad.add (k * 3)).block, (ad.add (k * 3)).off + j, none⟩ = some u := fun j u hj hu => by
    have : w.cell? ((ad.add (k * 3)).add j) = w.cell? ⟨(ad.add (k * 3)).block, (ad.add (k * 3)).off + j, none⟩ := by
      unfold Addr.add; simp [Nat.ne_of_gt hj]
    rw [← this, add_add_]; exact hc j u hu
  exact ⟨ad, e, hc 0 _ rfl, f 1 _ (by omega) rfl, f 2 _ (by omega) rfl, List.mem_of_getElem? hx⟩
section
variable {H : Type} {enc : TypeId × Value → H}
set_option maxRecDepth 100000 in
theorem opens_op (w : World) : Opens enc Tryz.prog w 43 opC (OpOk w) := fun fuel cs x h => by
  obtain ⟨xs, n, _, _, hcl, hxl, hf⟩ := DataW.trod_struct Tryz.underlying43 h
  have hc2 : cs.length = 3 := hcl
  have f0 := hf 0 _ rfl
  have f1 := hf 1 _ rfl
  have f2 := hf 2 _ rfl
  match cs, hc2 with
  | [a, b, d], _ =>
    match xs, hxl with
    | [y0, y1, y2], _ =>
      obtain ⟨n0, e0, _, w0⟩ := DataW.trod_int Tryz.underlying5 (show DataW.trod enc Tryz.prog w 0 (fun _ => true) true n 5 [a] = some y0 from f0)
      obtain ⟨n1, e1, _, w1⟩ := DataW.trod_int Tryz.underlying5 (show DataW.trod enc Tryz.prog w 0 (fun _ => true) true n 5 [b] = some y1 from f1)
      obtain ⟨q, e2, h1, _, h3, ls, h2, _⟩ := opens_slc Tryz.underlying23 (s := 3) (by kernel_rfl) (by omega) (opens_mk w) n [d] y2 (show DataW.trod enc Tryz.prog w 0 (fun _ => true) true n 23 [d] = some y2 from f2)
      simp only [List.cons.injEq, and_true] at e0 e1 e2
      subst e0; subst e1; subst e2
      have k0 : 0 ≤ n0 ∧ n0 ≤ 255 := by simpa [Lit.wf, IntKind.min, IntKind.max, IntKind.signed, IntKind.bits] using w0
      have k1 : 0 ≤ n1 ∧ n1 ≤ 255 := by simpa [Lit.wf, IntKind.min, IntKind.max, IntKind.signed, IntKind.bits] using w1
      exact ⟨⟨n0, n1, q.1, q.2.1, q.2.2⟩, rfl, k0.1, k0.2, k1.1, k1.2, h1, h3, ls, h2⟩
end
end Go.Proofs.YtbpodnhebjjkaaaGreatDoor

namespace Go.Proofs.YtbpodnhebjjkaaaGreatDoor
open Go.RowKit

section
variable {P : Program} {ops : Array Oper} {Q : Exit → Act → World → Prop} {md : Region.Mode} {S : World → Prop} {fuel : Nat} {listed : Array Bool} {a : Act} {w : World} {o : Oper} {α : Type} {s : Nat} {enc : α → List Value} {A : Option Addr} {n c : Nat} {xs : List α} {B : Nat} {e : TypeId} {t : TypeId} {b : Nat}
/-- append(s, x...) in a region that draws its order: x reads, or is nil. -/
theorem hx_pushAny (i : Nat) (d : Option Tmp) (T : Elem P t e s b) (henc : ∀ x : α, (enc x).length = s) (hone : ∀ x : α, ∀ u ∈ enc x, u.oneCell' = true) (sx ox : Operand) (hi : ops[i]? = some o) (hwt : Region.wanted o (yielded ops a.tmps) = true) (hd : o.dst = d)
    (ho : o.op = .call { callee := .builtin .append, args := #[sx, ox], argTypes := #[t, t] })
    (hs : a.eval sx = .slice A n c) (A2 : Option Addr) (m cm : Nat) (hx : a.eval ox = .slice A2 m cm) (hc0 : A2 = none → cm = 0) (hown : Own w B e s enc A n c xs) (ys : List α) (hy : Sl w s enc A2 m ys)
    (hn : (n + m) * b ≤ 140737488355328 ∧ n + m ≤ maxLen) (hB : B ≤ w.heap.size)
    (h : ∀ A' c' w', Own w' B e s enc A' (n + m) c' (xs ++ ys) → w.grownBy w' (blk A) → S w' ∧ wpAnyH P md ops Q S fuel (listed.setIfInBounds i true) (a.put d (.slice A' (n + m) c')) w') : StepH P md ops Q S fuel listed a w i := by
  refine hx_wp i hi hwt ?_
  obtain ⟨ht, ti, z, hti, hz, hsz, hb, hzs, hs0⟩ := T
  subst hd
  cases A2 with
  | none =>
    obtain ⟨rfl, rfl⟩ := hy.none_zero
    have := hc0 rfl
    subst this
    unfold Oper.wp execOp
    simp only [ho, resolve, invoke, builtin, Sem.run_bind, Sem.run_pure, Result.andThen_ok, List.map_toArray, List.map_cons, List.map_nil, hs, hx, run_append_owned_none w B t o.type e ti s ht hti (.slice A n c) n (xs.flatMap enc) hown.row]
    exact h A c w (by simpa using hown) ⟨rfl, rfl, rfl, Nat.le_refl _, fun _ _ _ => rfl⟩
  | some ad =>
    obtain ⟨v', w', hr, h2, h3, _, _⟩ := run_append_own_at (P := P) w B t o.type e ti z s b ht hti hz hsz hb hzs hs0 (.slice A n c) n (xs.flatMap enc) hown.row ad m cm (ys.flatMap enc) (by rw [flat_len henc, hy.len]) (fun j u hu => (hy.flat henc j u hu).2) (fun u hu => by
      obtain ⟨y, _, hy⟩ := List.mem_flatMap.1 hu
      exact hone y u hy) hn.2 hn.1 hB
    unfold Oper.wp execOp
    simp only [ho, resolve, invoke, builtin, Sem.run_bind, Sem.run_pure, Result.andThen_ok, List.map_toArray, List.map_cons, List.map_nil, hs, hx, hr]
    have hlen : (xs ++ ys).length = n + m := by rw [List.length_append, hown.len, hy.len]
    have hO : (xs ++ ys).flatMap enc = xs.flatMap enc ++ ys.flatMap enc := List.flatMap_append
    rw [blk_own] at h3
    rcases h2.2 with ⟨hv, h0⟩ | ⟨g', cap, cur, hv, _⟩
    · subst hv
      have e0 : n + m = 0 := h0
      have := h none 0 w' ⟨hlen, by rw [hO, e0]; rw [e0] at h2; exact h2⟩ h3
      rw [e0] at this
      exact this
    · subst hv
      exact h (some ⟨g', 0, none⟩) cap w' ⟨hlen, by rw [hO]; exact h2⟩ h3
end
theorem labM_prefix (es : List LsE) (vs : List (List Lv)) {ms xs : List Mk} {fr to_ k : Nat} (hfr : fr ≤ ms.length) (hk : k < fr) : labM es vs (ms.take fr ++ xs ++ ms.drop to_) k = labM es vs ms k := by
  have h1 : (ms.take fr ++ xs ++ ms.drop to_).take (k + 1) = ms.take (k + 1) := by
    rw [List.append_assoc, List.take_append_of_le_length (by rw [List.length_take]; omega), List.take_take, Nat.min_eq_left (by omega)]
  have h2 : gM (ms.take fr ++ xs ++ ms.drop to_) k = gM ms k := by
    unfold gM
    rw [List.getD_eq_getElem?_getD, List.getD_eq_getElem?_getD, List.append_assoc, List.getElem?_append_left (by rw [List.length_take]; omega), List.getElem?_take, if_pos hk]
  unfold labM
  rw [h1, h2]
theorem chkE_append (es : List LsE) (xs ys : List Mk) (h1 : chkE es xs = 0) (h2 : chkE es ys = 0) : chkE es (xs ++ ys) = 0 := by
  induction xs with
  | nil => exact h2
  | cons x t ih =>
    unfold chkE at h1
    by_cases hx : chkM es x = 0
    · rw [if_pos hx] at h1
      show (if chkM es x = 0 then chkE es (t ++ ys) else chkM es x) = 0
      rw [if_pos hx]
      exact ih h1
    · rw [if_neg hx] at h1
      exact absurd h1 hx
theorem chkE_sub (es : List LsE) {xs ys : List Mk} (h : chkE es xs = 0) (hs : ∀ y ∈ ys, y ∈ xs) : chkE es ys = 0 := by
  have ho := chkE_ok h
  clear h
  induction ys with
  | nil => rfl
  | cons y t ih =>
    show (if chkM es y = 0 then chkE es t else chkM es y) = 0
    rw [if_pos (ho y (hs y (List.mem_cons_self ..)))]
    exact ih (fun z hz => hs z (List.mem_cons_of_mem _ hz))
theorem allE_of {es : List LsE} {vs : List (List Lv)} {ms : List Mk} (h1 : allE es vs [] = 0) (h2 : chkE es ms = 0) : allE es vs ms = 0 := by
  obtain ⟨hz, _⟩ := allE_zero h1
  unfold allE
  rw [if_neg (fun h => h hz)]
  exact h2
/-- the state of the law's loop. -/
structure RS (w w1 : World) (B p : Nat) (es : List LsE) (vs : List (List Lv)) (A : Option Addr) (n c : Nat) (ms : List Mk) (lim : Nat) (wr : World) : Prop where
  o : Own wr B 81 3 mkC A n c ms
  len : n ≤ lim
  ch : chkE es ms = 0
  sq : SeqM wr p es vs 2 ms
  b1 : Below w1.heap.size w1 wr
  b : Below w.heap.size w wr
theorem RS.below {w w1 : World} {B p : Nat} {es : List LsE} {vs : List (List Lv)} {A : Option Addr} {n c : Nat} {ms : List Mk} {lim : Nat} {wr wx : World} (h : RS w w1 B p es vs A n c ms lim wr) (hb : Below wr.heap.size wr wx) : RS w w1 B p es vs A n c ms lim wx :=
  ⟨h.o.below hb, h.len, h.ch, h.sq.below hb, below_trans' h.b1 h.b1.size hb, below_trans' h.b h.b.size hb⟩
end Go.Proofs.YtbpodnhebjjkaaaGreatDoor
