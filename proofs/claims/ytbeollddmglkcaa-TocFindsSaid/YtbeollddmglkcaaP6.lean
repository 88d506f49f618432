/- The plain law of titles. -/
import Derived.Test.YtbeollddmglkcaaP5
import Derived.Lib.Builder
import Derived.Laws.Strings
namespace Go.Proofs.Ytbeollddmglkcaa
open Go
def isSkip (r : Int) : Bool := r == 65532 || r == 65533
def isBlank (r : Int) : Bool := decide (r ≤ 32) || (r == 127 || r == 160)
/-- one step of a title over code points: what is shown, and whether a space is due. -/
def stepT (s : List Int × Bool) (r : Int) : List Int × Bool :=
  if isSkip r then s else if isBlank r then (s.1, !s.1.isEmpty) else (s.1 ++ (if s.2 then [32, r] else [r]), false)
def titleQ (ps : List Int) : List Int := (ps.foldl stepT ([], false)).1
def titleB (l : List Int) : List Int := match ptsO l with
  | none => []
  | some ps => (titleQ ps).flatMap encU
theorem six_ways (r : Int) : ((r == 65532) = true ∧ isSkip r = true) ∨ ((r == 65532) = false ∧ (r == 65533) = true ∧ isSkip r = true) ∨
    ((r == 65532) = false ∧ (r == 65533) = false ∧ r ≤ 32 ∧ isSkip r = false ∧ isBlank r = true) ∨ ((r == 65532) = false ∧ (r == 65533) = false ∧ 32 < r ∧ (r == 127) = true ∧ isSkip r = false ∧ isBlank r = true) ∨
    ((r == 65532) = false ∧ (r == 65533) = false ∧ 32 < r ∧ (r == 127) = false ∧ (r == 160) = true ∧ isSkip r = false ∧ isBlank r = true) ∨
    ((r == 65532) = false ∧ (r == 65533) = false ∧ 32 < r ∧ (r == 127) = false ∧ (r == 160) = false ∧ isSkip r = false ∧ isBlank r = false) := by
  unfold isSkip isBlank
  simp only [beq_iff_eq, beq_eq_false_iff_ne, Bool.or_eq_true, Bool.or_eq_false_iff, decide_eq_true_eq, decide_eq_false_iff_not, ne_eq]
  omega
theorem step_skip {q : List Int} {p : Bool} {r : Int} (h : isSkip r = true) : stepT (q, p) r = (q, p) := by unfold stepT; rw [if_pos h]
theorem step_blank {q : List Int} {p : Bool} {r : Int} (h : isSkip r = false) (h2 : isBlank r = true) : stepT (q, p) r = (q, !q.isEmpty) := by
  unfold stepT; rw [if_neg (by rw [h]; exact Bool.false_ne_true), if_pos h2]
theorem step_plain {q : List Int} {p : Bool} {r : Int} (h : isSkip r = false) (h2 : isBlank r = false) : stepT (q, p) r = (q ++ (if p then [32, r] else [r]), false) := by
  unfold stepT; rw [if_neg (by rw [h]; exact Bool.false_ne_true), if_neg (by rw [h2]; exact Bool.false_ne_true)]
theorem flat_pos (q : List Int) : decide ((0 : Int) < ((q.flatMap encU).length : Int)) = !q.isEmpty := by
  cases q with
  | nil => rfl
  | cons a q =>
    have := encU_len a
    rw [List.flatMap_cons, List.length_append]
    simp only [List.isEmpty_cons, Bool.not_false, decide_eq_true_eq]
    omega
inductive Norm : List Int → Prop
  | nil : Norm []
  | one {q : List Int} {r : Int} : Norm q → isSkip r = false → isBlank r = false → isPoint r = true → Norm (q ++ [r])
  | two {q : List Int} {r : Int} : Norm q → q ≠ [] → isSkip r = false → isBlank r = false → isPoint r = true → Norm (q ++ [32, r])
theorem Norm.step {q : List Int} {p : Bool} {r : Int} (h : Norm q) (hp : p = true → q ≠ []) (hr : isPoint r = true) : Norm (stepT (q, p) r).1 ∧ ((stepT (q, p) r).2 = true → (stepT (q, p) r).1 ≠ []) := by
  unfold stepT
  by_cases h1 : isSkip r = true
  · rw [if_pos h1]; exact ⟨h, hp⟩
  · rw [if_neg h1]
    by_cases h2 : isBlank r = true
    · rw [if_pos h2]; exact ⟨h, fun e => by simpa using e⟩
    · rw [if_neg h2]
      have h1 : isSkip r = false := by simpa using h1
      have h2 : isBlank r = false := by simpa using h2
      cases p
      · exact ⟨.one h h1 h2 hr, fun e => by simp at e⟩
      · exact ⟨.two h (hp rfl) h1 h2 hr, fun e => by simp at e⟩
theorem Norm.fold : ∀ (ps q : List Int) (p : Bool), Norm q → (p = true → q ≠ []) → ps.all isPoint = true → Norm (ps.foldl stepT (q, p)).1
  | [], _, _, h, _, _ => h
  | r :: ps, q, p, h, hp, hr => by
    rw [List.all_cons, Bool.and_eq_true] at hr
    rw [List.foldl_cons]
    obtain ⟨a, b⟩ := h.step hp hr.1
    exact Norm.fold ps _ _ a b hr.2
theorem titleQ_norm (ps : List Int) (h : ps.all isPoint = true) : Norm (titleQ ps) := Norm.fold ps [] false .nil (fun e => by cases e) h
theorem Norm.points {q : List Int} (h : Norm q) : q.all isPoint = true := by
  induction h with
  | nil => rfl
  | one _ _ _ h2 ih => rw [List.all_append, ih]; simp [h2]
  | two _ _ _ _ h2 ih =>
    rw [List.all_append, ih]
    have : isPoint 32 = true := by decide
    simp [h2, this]
theorem Norm.again {q : List Int} (h : Norm q) : q.foldl stepT ([], false) = (q, false) := by
  induction h with
  | nil => rfl
  | one _ h1 h2 _ ih => rw [List.foldl_append, ih]; simp [stepT, h1, h2]
  | two hq hne h1 h2 _ ih =>
    rw [List.foldl_append, ih]
    have e1 : isSkip 32 = false := by decide
    have e2 : isBlank 32 = true := by decide
    simp [stepT, h1, h2, e1, e2, hne]
theorem byts_bd (s : ByteArray) : ∀ c ∈ byts s, 0 ≤ c ∧ c ≤ 255 := by
  intro c hc
  unfold byts at hc
  obtain ⟨u, _, rfl⟩ := List.mem_map.1 hc
  have := u.toNat_lt
  omega
theorem titleB_idem (s : ByteArray) : titleB (titleB (byts s)) = titleB (byts s) := by
  unfold titleB
  cases h : ptsO (byts s) with
  | none => rfl
  | some ps =>
    have hn := titleQ_norm ps (ptsO_all _ (byts_bd s) ps h)
    simp only
    rw [ptsO_encs _ hn.points]
    simp only
    have e : titleQ (titleQ ps) = titleQ ps := by
      show ((titleQ ps).foldl stepT ([], false)).1 = _
      rw [hn.again]
    rw [e]
theorem flat_bytes {q : List Int} (h : q.all isPoint = true) : ∀ n ∈ q.flatMap encU, 0 ≤ n ∧ n ≤ 255 := by
  intro n hn
  obtain ⟨p, hp, hn⟩ := List.mem_flatMap.1 hn
  have := (isPoint_iff p).1 (List.all_eq_true.1 h p hp)
  exact encU_bytes p this.1 this.2.1 n hn
theorem titleB_bytes (s : ByteArray) : ∀ n ∈ titleB (byts s), 0 ≤ n ∧ n ≤ 255 := by
  unfold titleB
  cases h : ptsO (byts s) with
  | none => intro n hn; simp at hn
  | some ps => exact flat_bytes (titleQ_norm ps (ptsO_all _ (byts_bd s) ps h)).points
theorem mkS_eq (ns : List Int) : mkS ns = ⟨(ns.map (fun n => UInt8.ofNat n.toNat)).toArray⟩ := by
  have h := mkS_data ns ByteArray.empty
  unfold mkS
  generalize (ns.foldl (fun r n => r.push (UInt8.ofNat n.toNat)) ByteArray.empty) = b at h ⊢
  cases b with
  | mk d =>
    congr 1
    apply Array.toList_inj.1
    rw [h]
    show [] ++ _ = _
    simp
theorem mkS_append (a b : List Int) : mkS a ++ mkS b = mkS (a ++ b) := by
  have h : ∀ x y : ByteArray, x.data.toList = y.data.toList → x = y := fun x y e => by
    cases x; cases y; congr 1; exact Array.toList_inj.1 e
  refine h _ _ ?_
  rw [mkS_eq, mkS_eq, mkS_eq, List.map_append]
  simp
theorem mkS_size (l : List Int) : (mkS l).size = l.length := by
  rw [mkS_eq]; show (List.toArray _).size = _; simp
theorem mkS_blank (a b : List Int) : mkS a ++ ⟨#[32]⟩ ++ mkS b = mkS (a ++ (32 :: b)) := by
  rw [show (⟨#[32]⟩ : ByteArray) = mkS [32] from rfl, mkS_append, mkS_append, List.append_assoc]; rfl
theorem mkS_empty (q : List Int) : (!(mkS (q.flatMap encU)).toList.isEmpty) = !q.isEmpty := by
  have e : (mkS (q.flatMap encU)).toList.isEmpty = q.isEmpty := by
    rw [ByteArray.toList_eq, mkS_eq]
    simp only [List.isEmpty_map]
    cases q with
    | nil => rfl
    | cons a q =>
      have hl := encU_len a
      cases hc : encU a with
      | nil => rw [hc] at hl; simp at hl
      | cons x xs => rw [List.flatMap_cons, hc]; rfl
  rw [e]
theorem ptsO_len (l : List Int) (ps : List Int) (h : ptsO l = some ps) : ps.length ≤ l.length := by
  generalize hn : l.length = n
  induction n using Nat.strongRecOn generalizing l ps with
  | _ n ih =>
    cases l with
    | nil => simp [ptsO, ptsF] at h; subst h; simp
    | cons c cs =>
      rw [ptsO_cons] at h
      by_cases hd : (decF (c :: cs)).2.2 = true
      · rw [if_pos hd] at h
        obtain ⟨qs, hq, rfl⟩ := Option.map_eq_some_iff.1 h
        have hz := decF_sz _ hd
        have hl2 : ((c :: cs).drop (decF (c :: cs)).2.1).length < n := by rw [List.length_drop, hn]; simp only [List.length_cons] at hn; omega
        have h2 := ih _ hl2 _ qs hq rfl
        rw [List.length_cons]; omega
      · rw [if_neg hd] at h; cases h
theorem fold_len : ∀ (ps q : List Int) (p : Bool), ((ps.foldl stepT (q, p)).1).length ≤ q.length + 2 * ps.length
  | [], _, _ => by simp
  | r :: ps, q, p => by
    rw [List.foldl_cons]
    have h : (stepT (q, p) r).1.length ≤ q.length + 2 := by
      unfold stepT
      split
      · simp
      · split
        · simp
        · cases p <;> simp
    have := fold_len ps (stepT (q, p) r).1 (stepT (q, p) r).2
    rw [show ((stepT (q, p) r).1, (stepT (q, p) r).2) = stepT (q, p) r from rfl] at this
    rw [List.length_cons]
    omega
theorem flat4_len (q : List Int) : (q.flatMap encU).length ≤ 4 * q.length := by
  induction q with
  | nil => simp
  | cons a q ih => rw [List.flatMap_cons, List.length_append, List.length_cons]; have := encU_len a; omega
theorem titleB_len (l : List Int) : (titleB l).length ≤ 8 * l.length := by
  unfold titleB
  cases h : ptsO l with
  | none => simp
  | some ps =>
    have h1 := ptsO_len l ps h
    have h2 := fold_len ps [] false
    have h3 := flat4_len (titleQ ps)
    unfold titleQ at h3 ⊢
    simp only at h3 ⊢
    simp only [List.length_nil] at h2
    omega
theorem byteCells_ints (ns : List Int) (h : ∀ n ∈ ns, 0 ≤ n ∧ n ≤ 255) : Lib.byteCells (ns.map (fun n => UInt8.ofNat n.toNat)) = ns.map (Value.int .u8) := by
  unfold Lib.byteCells
  rw [List.map_map]
  refine List.map_congr_left fun n hn => ?_
  have := h n hn
  simp only [Function.comp_def]
  rw [UInt8.toNat_ofNat_of_lt' (by show n.toNat < 256; omega), Int.toNat_of_nonneg this.1]
theorem encZ_U (p : Int) (h : isPoint p = true) : Lib.encodeRuneZ p = encU p := by
  rw [isPoint_iff] at h
  unfold encU
  by_cases c1 : p < 128
  · rw [if_pos c1, Lib.encodeRuneZ_one h.1 (by omega)]
  · rw [if_neg c1]
    by_cases c2 : p < 2048
    · rw [if_pos c2, Lib.encodeRuneZ_two (by omega) (by omega)]
    · rw [if_neg c2]
      by_cases c3 : p < 65536
      · rw [if_pos c3, Lib.encodeRuneZ_three (by omega)]
      · rw [if_neg c3, Lib.encodeRuneZ_four (by omega) (by omega)]
end Go.Proofs.Ytbeollddmglkcaa
