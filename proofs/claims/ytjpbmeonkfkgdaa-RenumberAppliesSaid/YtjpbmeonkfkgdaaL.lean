/- From a walk to a law's row: arguments opened by their types, read again behind the call. -/
import Derived.Test.YtjpbmeonkfkgdaaRows
import Derived.Test.YtjpbmeonkfkgdaaW1
import Derived.WalkKit
import Derived.ProofKit
import Derived.OpenShut
import Derived.ShutString
import Derived.Deep.Slices
import Derived.ChangeSame
import Derived.Carry
namespace Go.Proofs.Ytjpbmeonkfkgdaa
open Go.ChangeShapes Go.WideShapes Go.ChangeAt Go.RowKit Go.Deep
open Go.ChangeMaps (open_string shut_string)

theorem own_knob : ownKnob Try.prog.godebug = none := by kernel_rfl
theorem laid_out : laidOutB Try.prog = true := by kernel_rfl

section
variable {H : Type} {enc : TypeId × Value → H} {P : Program}
theorem trodAll_stays {W W' : World} (hl : laidOutB P = true) (hb : Below W.heap.size W W') : ∀ (ts : List TypeId) (vs : List Value) (ds : List (DataW H)) (ps : List MemPlace), (∀ t ∈ ts, P.readableRec t = true ∧ t < P.types.size) →
    DataW.TrodAll enc P W 0 (fun _ => true) true ts vs ds ps → (∀ p ∈ ps, p.block < W.heap.size) → ∀ sp : Nat → Bool, (∀ p ∈ ps, sp p.block = true) → DataW.TrodAll enc P W' 0 sp true ts vs ds ps
  | [], vs, ds, ps, _, h, _, sp, _ => by
    obtain ⟨rfl, rfl, rfl⟩ := trodAll_nil h
    exact trodAll_mk0
  | t :: ts, vs, ds, ps, hr, h, hlt, sp, hsp => by
    obtain ⟨v, vs', d, ds', p, q, rfl, rfl, rfl, h0, r0⟩ := trodAll_cons h
    have ht := hr t (List.mem_cons_self ..)
    refine trodAll_cons_mk (WideElems.Trod_stays hl ht.1 ht.2 h0 (fun x hx => hb.same (hlt x (List.mem_append_left _ hx))) (fun x hx => hsp x (List.mem_append_left _ hx))) ?_
    exact trodAll_stays hl hb ts vs' ds' q (fun t ht => hr t (List.mem_cons_of_mem _ ht)) r0 (fun x hx => hlt x (List.mem_append_right _ hx)) sp (fun x hx => hsp x (List.mem_append_right _ hx))

/-- The row's last step of a law: it returned true, and below the old heap nothing has turned. -/
theorem post_law {f : Func} {s : ChangeSpec} {apart fresh handsOn again : Bool} {W W' : World} {args : Array Value} {ds gs : List (DataW H)} {before : List MemPlace}
    (hl : laidOutB P = true) (hread : ∀ t ∈ f.params.toList, P.readableRec t = true ∧ t < P.types.size)
    (hW : DataW.Whole enc P f.params.toList s.vars apart W args.toList ds gs before)
    (hvars : s.vars = []) (hres : (s.fn H (ds ++ gs)).results = [.lit (.bool true)]) (hargs : (s.fn H (ds ++ gs)).args = ds) (hvs : (s.fn H (ds ++ gs)).vars = [])
    {tb : TypeId} (htb : P.underlying tb = some .bool) (hrt : f.resultTypes = #[tb]) (hb : Below W.heap.size W W') :
    s.post enc P f apart fresh handsOn again W args (.bool true) W' := by
  have hlt : ∀ p ∈ before, p.block < W.heap.size := fun p hp => hW.lt p hp
  have hold : ∀ p ∈ before, (fun b => decide (b < W.heap.size)) p.block = true := fun p hp => by simpa using hlt p hp
  have hW0 := hW
  obtain ⟨p, q, hA, hV, rfl, hz, hn⟩ := hW
  rw [hvars] at hV
  obtain ⟨rfl, rfl⟩ := trodVars_none hV
  simp only [List.append_nil] at hlt hold hz hn hres hargs hvs hW0
  have ha : ∀ sp : Nat → Bool, (∀ x ∈ p, sp x.block = true) → DataW.TrodAll enc P W' 0 sp true f.params.toList args.toList (s.fn H ds).args p := fun sp hsp => by
    rw [hargs]; exact trodAll_stays hl hb _ _ _ _ hread hA hlt sp hsp
  have hr : ∀ (b : Nat) (sp : Nat → Bool) (hd : Bool), DataW.TrodAll enc P W' b sp hd f.resultTypes.toList ((Value.bool true).resultList f.resultTypes.size) (s.fn H ds).results [] := fun b sp hd => by
    rw [hrt, hres]; exact trodAll_cons_mk (shut_bool htb _) trodAll_mk0
  have hv : ∀ sp : Nat → Bool, DataW.TrodVars enc P W' sp s.vars (s.fn H ds).vars [] := fun sp => by rw [hvars, hvs]; rfl
  have hok := ok_one (P := P) (W' := W') (f := f) (v := .bool true) hrt rfl (okWide_bool_mk htb true)
  refine ⟨ds, [], p, [], p, [], by simpa using hW0, by simpa using hr _ _ _, by simpa using ha _ hold, by simpa using hv _, World.keptBut_mono (fun x hx => ⟨hx, .inr (by simpa using hx)⟩) (hb.frame (· ∈ p)), fun _ => ?_⟩
  refine ⟨hok, _, _, ([] ++ p) ++ [], ⟨[] ++ p, [], trodAll_append (by simpa using ha _ (fun _ _ => rfl)) (by simpa using hr _ _ _), by simpa using hv _, rfl, ?_, ?_⟩, ?_⟩
  · intro b off hp
    have hin : MemPlace.cell b off ∈ p := by simpa using hp
    rw [hb.frozen (hlt _ hin)]
    exact hz b off hin
  · intro h
    have := hn h
    simpa using this
  · intro x hx _
    simpa using hx

/-- Whatever reads as data of type t are the cells of some y. -/
def Opens {α : Type} (enc : TypeId × Value → H) (P : Program) (w : World) (t : TypeId) (ev : α → List Value) (ok : α → Prop) : Prop :=
  ∀ (fuel : Nat) (cs : List Value) (x : DataW H × List MemPlace), DataW.trod enc P w 0 (fun _ => true) true fuel t cs = some x → ∃ y, cs = ev y ∧ ok y
theorem opens_int {k : IntKind} {w : World} {t : TypeId} (ht : P.underlying t = some (.int k)) : Opens enc P w t (fun n => [Value.int k n]) (fun n => (Lit.int k n).wf = true) := fun fuel cs x h => by
  obtain ⟨n, h1, _, h2⟩ := DataW.trod_int ht h
  exact ⟨n, h1, h2⟩
theorem open_sl {α : Type} {w : World} {t e : TypeId} {s : Nat} {ev : α → List Value} {ok : α → Prop} (ht : P.underlying t = some (.slice e)) (hC : P.cellsOf e = s) (hs0 : 0 < s) (ho : Opens enc P w e ev ok) {r : Reach} {b0 : Nat} {v : Value} {d : DataW H} {p : List MemPlace}
    (hval : Value.okWide P w r b0 t v) (h : DataW.Trod enc P w 0 (fun _ => true) true t v d p) :
    ∃ (A : Option Addr) (n c : Nat) (xs : List α), v = .slice A n c ∧ n ≤ c ∧ c ≤ maxLen ∧ Sl w s ev A n xs ∧ ∀ x ∈ xs, ok x := by
  obtain ⟨A0, n0, c0, rfl⟩ := okWide_slice ht hval
  obtain ⟨fuel, hf⟩ := h
  rcases open_slice ht hf with ⟨h0, _⟩ | ⟨a, n, c, m, k, D, Pl, hcs, _, hl, hm, hmm, _, hi⟩
  · simp only [Value.cells, List.cons.injEq, and_true] at h0
    injection h0 with h1 h2 h3
    subst h1; subst h2; subst h3
    exact ⟨none, 0, 0, [], rfl, Nat.le_refl _, Nat.zero_le _, Sl.nil, by simp⟩
  · simp only [Value.cells, List.cons.injEq, and_true] at hcs
    rw [hcs]
    simp only [if_true] at hmm
    have hc1 : ∀ i, i < n → ∃ y, (ok y ∧ ∀ j u, (ev y)[j]? = some u → w.cell? (a.add (i * s + j)) = some u ∧ a.block < w.heap.size) := fun i hin => by
      obtain ⟨cs', hc, ht'⟩ := hi i (by omega)
      obtain ⟨y, hy, hok⟩ := ho _ _ _ ht'
      rw [hC] at hc
      obtain ⟨_, hcl, hat⟩ := World.cells?_some hc
      refine ⟨y, hok, fun j u hu => ?_⟩
      rw [← hy] at hu
      have hj : j < s := by have := (List.getElem?_eq_some_iff.1 hu).1; omega
      have hcell := hat j hj
      rw [hu] at hcell
      have e : w.cell? (a.add (i * s + j)) = some u := by rw [← hcell, Go.Deep.add_add]
      exact ⟨e, by have := World.block_lt_of_cell? w _ e; rw [block_add] at this; exact this⟩
    by_cases hn : n = 0
    · subst hn
      exact ⟨some a, 0, c, [], rfl, Nat.zero_le _, hm, ⟨rfl, fun h => absurd h (by omega)⟩, by simp⟩
    · have hne : Nonempty α := ⟨(hc1 0 (by omega)).choose⟩
      have hc2 : ∀ i, ∃ y, i < n → (ok y ∧ ∀ j u, (ev y)[j]? = some u → w.cell? (a.add (i * s + j)) = some u ∧ a.block < w.heap.size) := fun i => by
        by_cases hin : i < n
        · obtain ⟨y, hy⟩ := hc1 i hin
          exact ⟨y, fun _ => hy⟩
        · exact ⟨Classical.choice hne, fun h => absurd h hin⟩
      obtain ⟨f, hf'⟩ := Classical.axiomOfChoice hc2
      have hz : a.block < w.heap.size := by
        obtain ⟨cs', hc, ht'⟩ := hi 0 (by omega)
        obtain ⟨_, hcl, hat⟩ := World.cells?_some hc
        have hp : 0 < P.cellsOf e := by omega
        have hcell := hat 0 hp
        have hlen : cs'[0]? = some (cs'[0]'(by omega)) := List.getElem?_eq_getElem _
        rw [hlen] at hcell
        have := World.block_lt_of_cell? w _ hcell
        rw [block_add, block_add] at this
        exact this
      refine ⟨some a, n, c, (List.range n).map f, rfl, hl, hm, ⟨by simp, fun _ => ⟨a, rfl, hz, fun i x hx j u hu => ?_⟩⟩, ?_⟩
      · have hin : i < n := by have := (List.getElem?_eq_some_iff.1 hx).1; simpa using this
        rw [List.getElem?_map, List.getElem?_range hin] at hx
        injection hx with hx
        subst hx
        exact ((hf' i hin).2 j u hu).1
      · intro x hx
        obtain ⟨i, hi, rfl⟩ := List.mem_map.1 hx
        exact (hf' i (List.mem_range.1 hi)).1
end
end Go.Proofs.Ytjpbmeonkfkgdaa
