/- The plain laws of headings: scopes, children, paths. -/
import Derived.Test.YtbeollddmglkcaaP1
namespace Go.Proofs.Ytbeollddmglkcaa
theorem down_spec (g : Nat → Int) (x : Int) : ∀ i, (down g x i = -1 ∧ ∀ m, m < i → x ≤ g m) ∨ ∃ q : Nat, q < i ∧ down g x i = q ∧ g q < x ∧ ∀ m, q < m → m < i → x ≤ g m
  | 0 => .inl ⟨rfl, fun m h => absurd h (by omega)⟩
  | i + 1 => by
    unfold down
    by_cases h : g i < x
    · rw [if_pos h]; exact .inr ⟨i, by omega, rfl, h, fun m h1 h2 => by omega⟩
    · rw [if_neg h]
      rcases down_spec g x i with ⟨e, h1⟩ | ⟨q, h1, e, h2, h3⟩
      · exact .inl ⟨e, fun m hm => by
          rcases Nat.lt_or_ge m i with hl | hl
          · exact h1 m hl
          · obtain rfl : m = i := by omega
            omega⟩
      · exact .inr ⟨q, by omega, e, h2, fun m hm hm2 => by
          rcases Nat.lt_or_ge m i with hl | hl
          · exact h3 m hm hl
          · obtain rfl : m = i := by omega
            omega⟩
theorem par_spec (g : Nat → Int) (i : Nat) : (par g i = -1 ∧ ∀ m, m < i → g i ≤ g m) ∨ ∃ q : Nat, q < i ∧ par g i = q ∧ g q < g i ∧ ∀ m, q < m → m < i → g i ≤ g m := down_spec g (g i) i
theorem par_of (g : Nat → Int) {i q : Nat} (h1 : q < i) (h2 : g q < g i) (h3 : ∀ m, q < m → m < i → g i ≤ g m) : par g i = q := by
  rcases par_spec g i with ⟨_, h⟩ | ⟨q', hq, e, h4, h5⟩
  · have := h q h1; omega
  · rcases Nat.lt_trichotomy q q' with h | h | h
    · have := h3 q' h hq; omega
    · rw [e, h]
    · have := h5 q h h1; omega
theorem par_none (g : Nat → Int) {i : Nat} (h : ∀ m, m < i → g i ≤ g m) : par g i = -1 := by
  rcases par_spec g i with ⟨e, _⟩ | ⟨q, hq, e, h4, _⟩
  · exact e
  · have := h q hq; omega

theorem upTo_spec (g : Nat → Int) (x : Int) : ∀ f e, e ≤ upTo g x f e ∧ upTo g x f e ≤ e + f ∧ (∀ m, e ≤ m → m < upTo g x f e → x < g m) ∧ (upTo g x f e = e + f ∨ g (upTo g x f e) ≤ x)
  | 0, e => ⟨Nat.le_refl _, Nat.le_refl _, fun m h1 h2 => by unfold upTo at h2; omega, .inl rfl⟩
  | f + 1, e => by
    unfold upTo
    by_cases h : x < g e
    · rw [if_pos h]
      obtain ⟨h1, h2, h3, h4⟩ := upTo_spec g x f (e + 1)
      refine ⟨by omega, by omega, fun m hm hm2 => ?_, ?_⟩
      · rcases Nat.lt_or_ge e m with hl | hl
        · exact h3 m hl hm2
        · obtain rfl : m = e := by omega
          exact h
      · rcases h4 with h4 | h4
        · exact .inl (by omega)
        · exact .inr h4
    · rw [if_neg h]; exact ⟨Nat.le_refl _, by omega, fun m h1 h2 => by omega, .inr (by omega)⟩
/-- the end of what belongs to a heading, or to none (-1). -/
def send (g : Nat → Int) (n : Nat) (i : Int) : Nat := if i < 0 then n else scopeEnd g n i.toNat
theorem scope_spec (g : Nat → Int) {n k : Nat} (h : k < n) : k < scopeEnd g n k ∧ scopeEnd g n k ≤ n ∧ (∀ m, k < m → m < scopeEnd g n k → g k < g m) ∧ (scopeEnd g n k = n ∨ g (scopeEnd g n k) ≤ g k) := by
  obtain ⟨h1, h2, h3, h4⟩ := upTo_spec g (g k) (n - (k + 1)) (k + 1)
  refine ⟨by unfold scopeEnd; omega, by unfold scopeEnd; omega, fun m hm hm2 => h3 m hm hm2, ?_⟩
  rcases h4 with h4 | h4
  · exact .inl (by unfold scopeEnd; omega)
  · exact .inr h4

theorem belF_spec (g : Nat → Int) {n t : Nat} (ht : t < n) : ∀ (f : Nat) (i : Int), i < n → i + 2 ≤ f → -1 ≤ i → (belF g f i t = true ↔ (t : Int) ≤ i ∧ i < scopeEnd g n t)
  | 0, i, _, h, h2 => by omega
  | f + 1, i, hi, hf, h0 => by
    obtain ⟨s1, s2, s3, s4⟩ := scope_spec g ht
    unfold belF
    by_cases he : i = t
    · subst he; simp; omega
    · have hb : (i == (t : Int)) = false := by simpa using he
      rw [hb]
      by_cases hn : 0 ≤ i
      · obtain ⟨j, rfl⟩ := Int.eq_ofNat_of_zero_le hn
        have hp := par_lt g j
        rw [decide_eq_true hn, Int.toNat_natCast, Bool.false_or, Bool.true_and, belF_spec g ht f (par g j) (by omega) (by omega) hp.1]
        rcases par_spec g j with ⟨e, h1⟩ | ⟨q, hq, e, h1, h2⟩
        · rw [e]
          constructor
          · intro h; omega
          · rintro ⟨h3, h4⟩
            have h5 := h1 t (by omega)
            have h6 := s3 j (by omega) (by omega)
            omega
        · rw [e]
          constructor
          · rintro ⟨h3, h4⟩
            refine ⟨by omega, ?_⟩
            rcases Nat.lt_or_ge j (scopeEnd g n t) with hl | hl
            · omega
            · exfalso
              rcases s4 with s4 | s4
              · omega
              · have h5 : g j ≤ g (scopeEnd g n t) := by
                  rcases Nat.lt_or_ge (scopeEnd g n t) j with h | h
                  · exact h2 _ (by omega) h
                  · obtain rfl : scopeEnd g n t = j := by omega
                    exact Int.le_refl _
                have h6 : g t ≤ g q := by
                  rcases Nat.lt_or_ge t q with h | h
                  · have := s3 q h (by omega); omega
                  · obtain rfl : t = q := by omega
                    exact Int.le_refl _
                omega
          · rintro ⟨h3, h4⟩
            have h5 : t ≤ q := by
              rcases Nat.lt_or_ge q t with h | h
              · have := h2 t h (by omega)
                have := s3 j (by omega) (by omega)
                omega
              · exact h
            exact ⟨by omega, by omega⟩
      · rw [decide_eq_false hn]
        constructor
        · intro h; simp at h
        · rintro ⟨h3, h4⟩; omega

/- children -/
theorem send_spec (g : Nat → Int) {n : Nat} {i : Int} (h0 : -1 ≤ i) (h : i < n) : i < send g n i ∧ send g n i ≤ n ∧ (∀ m : Nat, i < m → m < send g n i → 0 ≤ i → g i.toNat < g m) ∧ (send g n i = n ∨ (0 ≤ i ∧ g (send g n i) ≤ g i.toNat)) := by
  unfold send
  by_cases hn : i < 0
  · rw [if_pos hn]; exact ⟨by omega, by omega, fun m _ _ h => by omega, .inl rfl⟩
  · rw [if_neg hn]
    obtain ⟨j, rfl⟩ := Int.eq_ofNat_of_zero_le (by omega : 0 ≤ i)
    rw [Int.toNat_natCast]
    obtain ⟨s1, s2, s3, s4⟩ := scope_spec g (k := j) (n := n) (by omega)
    refine ⟨by omega, s2, fun m h1 h2 _ => s3 m (by omega) h2, ?_⟩
    rcases s4 with s4 | s4
    · exact .inl s4
    · exact .inr ⟨by omega, s4⟩
/-- a child lies in the scope. -/
theorem kid_in (g : Nat → Int) {n j : Nat} {i : Int} (h0 : -1 ≤ i) (hj : j < n) (hi : i < n) (hp : par g j = i) : i < j ∧ j < send g n i := by
  obtain ⟨s1, s2, s3, s4⟩ := send_spec g h0 hi
  have hl := par_lt g j
  refine ⟨by omega, ?_⟩
  rcases Nat.lt_or_ge j (send g n i) with h | h
  · exact h
  · exfalso
    rcases s4 with s4 | ⟨s4, s5⟩
    · omega
    · rcases par_spec g j with ⟨e, _⟩ | ⟨q, hq, e, h1, h2⟩
      · omega
      · have hqi : i = q := by omega
        subst hqi
        rw [Int.toNat_natCast] at s5
        have h5 : g j ≤ g (send g n q) := by
          rcases Nat.lt_or_ge (send g n q) j with h' | h'
          · exact h2 _ (by omega) h'
          · obtain rfl : send g n q = j := by omega
            exact Int.le_refl _
        omega
/-- what stands first behind a heading, or behind what belongs to one of its children, is its child, or its scope ends. -/
theorem next_kid (g : Nat → Int) {n e : Nat} {i : Int} (h0 : -1 ≤ i) (hi : i < n) (he : e < send g n i) (hie : i < e) (hmin : ∀ m : Nat, i < m → m < e → g e ≤ g m) : par g e = i := by
  obtain ⟨s1, s2, s3, s4⟩ := send_spec g h0 hi
  by_cases hn : 0 ≤ i
  · obtain ⟨j, rfl⟩ := Int.eq_ofNat_of_zero_le hn
    have := s3 e hie he hn
    rw [Int.toNat_natCast] at this
    exact par_of g (by omega) this (fun m h1 h2 => hmin m (by omega) h2)
  · have : i = -1 := by omega
    subst this
    exact par_none g (fun m h => hmin m (by omega) h)
theorem first_kid (g : Nat → Int) {n : Nat} {i : Int} (h0 : -1 ≤ i) (hi : i < n) (he : (i + 1).toNat < send g n i) : par g (i + 1).toNat = i :=
  next_kid g h0 hi he (by omega) (fun m h1 h2 => by omega)
/-- behind a child's scope comes the next child, or the end. -/
theorem after_kid (g : Nat → Int) {n c : Nat} {i : Int} (h0 : -1 ≤ i) (hi : i < n) (hc : c < n) (hp : par g c = i) : scopeEnd g n c ≤ send g n i ∧ (scopeEnd g n c < send g n i → par g (scopeEnd g n c) = i) := by
  obtain ⟨k1, k2⟩ := kid_in g h0 hc hi hp
  obtain ⟨s1, s2, s3, s4⟩ := send_spec g h0 hi
  obtain ⟨t1, t2, t3, t4⟩ := scope_spec g hc
  have hlow : ∀ m : Nat, i < m → m < c → g c ≤ g m := by
    intro m h1 h2
    rcases par_spec g c with ⟨e, h3⟩ | ⟨q, _, e, _, h3⟩
    · exact h3 m h2
    · exact h3 m (by omega) h2
  constructor
  · rcases Nat.lt_or_ge (send g n i) (scopeEnd g n c) with h | h
    · exfalso
      rcases s4 with s4 | ⟨s4, s5⟩
      · omega
      · obtain ⟨j, rfl⟩ := Int.eq_ofNat_of_zero_le s4
        rw [Int.toNat_natCast] at s5
        have := t3 _ k2 h
        rcases par_spec g c with ⟨e, _⟩ | ⟨q, _, e, h4, _⟩
        · omega
        · have : q = j := by omega
          subst this; omega
    · exact h
  · intro h
    refine next_kid g h0 hi h (by omega) (fun m h1 h2 => ?_)
    have t5 : g (scopeEnd g n c) ≤ g c := by rcases t4 with t4 | t4 <;> omega
    rcases Nat.lt_trichotomy m c with hm | hm | hm
    · have := hlow m h1 hm; omega
    · subst hm; exact t5
    · have := t3 m hm h2; omega
/-- within a child's scope there is no other child. -/
theorem no_kid (g : Nat → Int) {n c j : Nat} {i : Int} (hc : c < n) (hp : par g c = i) (h1 : c < j) (h2 : j < scopeEnd g n c) : par g j ≠ i := by
  obtain ⟨t1, t2, t3, t4⟩ := scope_spec g hc
  have hl := par_lt g c
  intro hj
  rcases par_spec g j with ⟨e, h3⟩ | ⟨q, hq, e, h4, h3⟩
  · have := h3 c h1; have := t3 j h1 h2; omega
  · have : q < c := by omega
    have := h3 c this h1
    have := t3 j h1 h2
    omega
def kF (g : Nat → Int) (n : Nat) (i : Int) (e : Nat) : List Int := ((List.range' e (n - e)).filter (fun j => par g j == i)).map (fun j : Nat => (j : Int))
theorem kF_skip (g : Nat → Int) (n : Nat) (i : Int) {e e' : Nat} (h1 : e ≤ e') (h2 : e' ≤ n) (h : ∀ j, e ≤ j → j < e' → par g j ≠ i) : kF g n i e = kF g n i e' := by
  unfold kF
  have hr : List.range' e (n - e) = List.range' e (e' - e) ++ List.range' e' (n - e') := by
    have := List.range'_append (s := e) (m := e' - e) (n := n - e') (step := 1)
    rw [show e + 1 * (e' - e) = e' by omega, show e' - e + (n - e') = n - e by omega] at this
    exact this.symm
  rw [hr, List.filter_append, List.map_append]
  have : (List.range' e (e' - e)).filter (fun j => par g j == i) = [] := by
    rw [List.filter_eq_nil_iff]
    intro j hj
    have := List.mem_range'_1.1 hj
    simpa using h j this.1 (by omega)
  rw [this]; rfl
theorem kF_cons (g : Nat → Int) (n : Nat) (i : Int) {e : Nat} (h : e < n) (hp : par g e = i) : kF g n i e = (e : Int) :: kF g n i (e + 1) := by
  unfold kF
  rw [show n - e = (n - (e + 1)) + 1 by omega, List.range'_succ, List.filter_cons_of_pos (by simpa using hp)]
  rfl
theorem kids_kF (g : Nat → Int) (n : Nat) (i : Int) : kids g n i = kF g n i 0 := by unfold kids kF; rw [List.range_eq_range']; rfl
theorem kids_first (g : Nat → Int) {n : Nat} {i : Int} (h0 : -1 ≤ i) (hi : i < n) : kids g n i = kF g n i (i + 1).toNat := by
  rw [kids_kF]
  refine kF_skip g n i (Nat.zero_le _) (by omega) (fun j _ h2 hp => ?_)
  have := par_lt g j
  omega
theorem kF_end (g : Nat → Int) {n : Nat} {i : Int} (h0 : -1 ≤ i) (hi : i < n) : kF g n i (send g n i) = [] := by
  obtain ⟨s1, s2, _, _⟩ := send_spec g h0 hi
  rw [kF_skip g n i s2 (Nat.le_refl n) (fun j h1 h2 hp => by have := (kid_in g h0 h2 hi hp).2; omega)]
  unfold kF; simp
/-- one step of the way through the children. -/
theorem kF_step (g : Nat → Int) {n e : Nat} {i : Int} (h0 : -1 ≤ i) (hi : i < n) (he : e < send g n i) (hp : par g e = i) : kF g n i e = (e : Int) :: kF g n i (scopeEnd g n e) := by
  obtain ⟨s1, s2, _, _⟩ := send_spec g h0 hi
  have hen : e < n := by omega
  obtain ⟨t1, t2, _, _⟩ := scope_spec g hen
  rw [kF_cons g n i hen hp, kF_skip g n i (e := e + 1) (e' := scopeEnd g n e) t1 t2 (fun j h1 h2 => no_kid g hen hp (by omega) h2)]
end Go.Proofs.Ytbeollddmglkcaa
