/- Layer 37 (glob): the program's functions and the document's, as plain functions, agree. -/
import Derived.Test.YtlbkfnofnlioaaaDoorPGlobx4
namespace Go.Proofs.YtlbkfnofnlioaaaDoor.PGlob
open Go.RowKit Go.Proofs.YtlbkfnofnlioaaaDoorW.PrintWords Go.Proofs.YtlbkfnofnlioaaaDoorW.PrintLast Go.Proofs.YtlbkfnofnlioaaaDoorW.PrintMore
/-! ### A. The two ways of fitting -/
/-- The first i tokens may fit the first k things. -/
def RF (star : Nat → Bool) (hit : Nat → Nat → Bool) : Nat → Nat → Prop
  | 0, k => k = 0
  | i + 1, k => if star i = true then ∃ j, j ≤ k ∧ RF star hit i j else ∃ j, k = j + 1 ∧ hit i j = true ∧ RF star hit i j
theorem setR_getD (xs : List Bool) (a : Nat) : ∀ c, a + c ≤ xs.length → ∀ k, (setR xs a c).getD k false = (xs.getD k false || decide (a ≤ k ∧ k < a + c))
  | 0, _, k => by
    have h1 : ¬ (a ≤ k ∧ k < a + 0) := by omega
    rw [setR, decide_eq_false h1, Bool.or_false]
  | c + 1, h, k => by
    have ih := setR_getD xs a c (by omega) k
    rw [setR]
    by_cases e : k = a + c
    · subst e
      rw [List.getD_eq_getElem?_getD, List.getElem?_set_self (by rw [setR_length]; omega)]
      have h1 : (a ≤ a + c ∧ a + c < a + (c + 1)) := by omega
      simp [h1]
    · rw [List.getD_eq_getElem?_getD, List.getElem?_set_ne (fun h => e h.symm), ← List.getD_eq_getElem?_getD, ih]
      congr 1
      by_cases h1 : a ≤ k ∧ k < a + c
      · rw [decide_eq_true h1, decide_eq_true (by omega)]
      · rw [decide_eq_false h1, decide_eq_false (by omega)]
theorem set_getD (xs : List Bool) (a : Nat) (ha : a < xs.length) (k : Nat) : (xs.set a true).getD k false = (xs.getD k false || decide (k = a)) := by
  by_cases e : k = a
  · subst e
    rw [List.getD_eq_getElem?_getD, List.getElem?_set_self ha]
    simp
  · rw [List.getD_eq_getElem?_getD, List.getElem?_set_ne (fun h => e h.symm), ← List.getD_eq_getElem?_getD]
    simp [e]
theorem dpRow_iff (m : Nat) (st : Bool) (ht : Nat → Bool) (can : List Bool) : ∀ K, K ≤ m + 1 → ∀ k, k ≤ m →
    ((dpRow m st ht can K).getD k false = true ↔ ∃ j, j < K ∧ can.getD j false = true ∧ (if st = true then j ≤ k else k = j + 1 ∧ ht j = true))
  | 0, _, k, hk => by
    rw [dpRow, List.getD_eq_getElem?_getD, List.getElem?_replicate]
    have : ¬ ∃ j, j < 0 ∧ can.getD j false = true ∧ (if st = true then j ≤ k else k = j + 1 ∧ ht j = true) := fun ⟨j, hj, _⟩ => by omega
    simp only [this, iff_false]
    split <;> simp
  | K + 1, hK, k, hk => by
    have ih := dpRow_iff m st ht can K (by omega) k hk
    have hl := dpRow_length m st ht can K
    have step : (∃ j, j < K + 1 ∧ can.getD j false = true ∧ (if st = true then j ≤ k else k = j + 1 ∧ ht j = true)) ↔
        (∃ j, j < K ∧ can.getD j false = true ∧ (if st = true then j ≤ k else k = j + 1 ∧ ht j = true)) ∨ (can.getD K false = true ∧ (if st = true then K ≤ k else k = K + 1 ∧ ht K = true)) := by
      constructor
      · rintro ⟨j, hj, h1, h2⟩
        by_cases e : j = K
        · subst e; exact .inr ⟨h1, h2⟩
        · exact .inl ⟨j, by omega, h1, h2⟩
      · rintro (⟨j, hj, h⟩ | h)
        · exact ⟨j, by omega, h⟩
        · exact ⟨K, by omega, h⟩
    rw [step, ← ih, dpRow]
    by_cases hc : can.getD K false = true
    · rw [if_pos hc]
      cases st with
      | true =>
        simp only [if_true]
        rw [setR_getD _ _ _ (by rw [hl]; omega)]
        simp only [Bool.or_eq_true, decide_eq_true_eq]
        constructor
        · rintro (h | h)
          · exact .inl h
          · exact .inr ⟨hc, h.1⟩
        · rintro (h | h)
          · exact .inl h
          · exact .inr ⟨h.2, by omega⟩
      | false =>
        simp only [Bool.false_eq_true, if_false]
        by_cases hm : K < m
        · rw [if_pos hm]
          by_cases hh : ht K = true
          · rw [if_pos hh, set_getD _ _ (by rw [hl]; omega)]
            simp only [Bool.or_eq_true, decide_eq_true_eq]
            constructor
            · rintro (h | h)
              · exact .inl h
              · exact .inr ⟨hc, h, hh⟩
            · rintro (h | h)
              · exact .inl h
              · exact .inr h.2.1
          · rw [if_neg hh]
            constructor
            · exact .inl
            · rintro (h | h)
              · exact h
              · exact absurd h.2.2 hh
        · rw [if_neg hm]
          constructor
          · exact .inl
          · rintro (h | h)
            · exact h
            · omega
    · rw [if_neg hc]
      constructor
      · exact .inl
      · rintro (h | h)
        · exact h
        · exact absurd h.1 hc
theorem dpTab_iff (m : Nat) (star : Nat → Bool) (hit : Nat → Nat → Bool) : ∀ i k, k ≤ m → ((dpTab m star hit i).getD k false = true ↔ RF star hit i k)
  | 0, k, hk => by
    rw [dpTab, set_getD _ _ (by simp), RF, List.getD_eq_getElem?_getD, List.getElem?_replicate]
    split <;> simp
  | i + 1, k, hk => by
    rw [dpTab, dpRow_iff m _ _ _ (m + 1) (Nat.le_refl _) k hk, RF]
    by_cases hs : star i = true
    · rw [if_pos hs]
      simp only [hs, if_true]
      constructor
      · rintro ⟨j, _, h1, h2⟩
        exact ⟨j, h2, (dpTab_iff m star hit i j (by omega)).1 h1⟩
      · rintro ⟨j, h1, h2⟩
        exact ⟨j, by omega, (dpTab_iff m star hit i j (by omega)).2 h2, h1⟩
    · rw [if_neg hs]
      simp only [hs]
      constructor
      · rintro ⟨j, _, h1, h2, h3⟩
        exact ⟨j, h2, h3, (dpTab_iff m star hit i j (by omega)).1 h1⟩
      · rintro ⟨j, h1, h2, h3⟩
        exact ⟨j, by omega, (dpTab_iff m star hit i j (by omega)).2 h3, h1, h2⟩
/-- What is left: the tokens from i on fit the things from k on. -/
inductive SF (n m : Nat) (star : Nat → Bool) (hit : Nat → Nat → Bool) : Nat → Nat → Prop
  | done : SF n m star hit n m
  | skip {i k : Nat} : i < n → star i = true → SF n m star hit (i + 1) k → SF n m star hit i k
  | eat {i k : Nat} : i < n → star i = true → k < m → SF n m star hit i (k + 1) → SF n m star hit i k
  | one {i k : Nat} : i < n → star i = false → k < m → hit i k = true → SF n m star hit (i + 1) (k + 1) → SF n m star hit i k
section
variable {n m : Nat} {star : Nat → Bool} {hit : Nat → Nat → Bool}
theorem SF.le {i k : Nat} (h : SF n m star hit i k) : k ≤ m := by
  induction h with
  | done => exact Nat.le_refl _
  | skip _ _ _ ih => exact ih
  | eat _ _ _ _ ih => omega
  | one _ _ _ _ _ ih => omega
theorem SF.back {i j k : Nat} (hi : i < n) (hs : star i = true) (h : SF n m star hit i k) : j ≤ k → SF n m star hit i j := by
  intro hj
  have hm := h.le
  obtain ⟨d, rfl⟩ : ∃ d, k = j + d := ⟨k - j, by omega⟩
  clear hj
  induction d generalizing j with
  | zero => exact h
  | succ d ih => exact SF.eat hi hs (by omega) (ih (j := j + 1) (by rw [show j + 1 + d = j + (d + 1) from by omega]; exact h) (by omega))
theorem SF.star_inv {i k : Nat} (hi : i < n) (hs : star i = true) (h : SF n m star hit i k) : ∃ j, k ≤ j ∧ SF n m star hit (i + 1) j := by
  generalize he : i = i' at h
  induction h with
  | done => omega
  | skip _ _ h _ => exact ⟨_, Nat.le_refl _, he ▸ h⟩
  | eat _ _ _ _ ih => obtain ⟨j, hj, h2⟩ := ih he; exact ⟨j, by omega, h2⟩
  | one _ h2 _ _ _ _ => subst he; rw [hs] at h2; cases h2
theorem SF.one_inv {i k : Nat} (hi : i < n) (hs : star i = false) (h : SF n m star hit i k) : k < m ∧ hit i k = true ∧ SF n m star hit (i + 1) (k + 1) := by
  cases h with
  | done => omega
  | skip _ h2 _ => rw [hs] at h2; cases h2
  | eat _ h2 _ _ => rw [hs] at h2; cases h2
  | one _ _ h3 h4 h5 => exact ⟨h3, h4, h5⟩
/-- Tokens without a star from a on, d of them: each takes one thing. -/
theorem SF.run (a d : Nat) : ∀ k, (∀ t, t < d → star (a + t) = false) → a + d ≤ n → SF n m star hit a k → SF n m star hit (a + d) (k + d) := by
  induction d with
  | zero => intro k _ _ h; exact h
  | succ d ih =>
    intro k hs hn h
    have h1 := ih k (fun t ht => hs t (by omega)) (by omega) h
    exact (h1.one_inv (by omega) (hs d (by omega))).2.2
theorem SF.unrun (a d : Nat) : ∀ k, (∀ t, t < d → star (a + t) = false ∧ hit (a + t) (k + t) = true) → a + d ≤ n → SF n m star hit (a + d) (k + d) → SF n m star hit a k := by
  induction d with
  | zero => intro k _ _ h; exact h
  | succ d ih =>
    intro k hs hn h
    have h1 := hs d (by omega)
    exact ih k (fun t ht => hs t (by omega)) (by omega) (SF.one (by omega) h1.1 (by have := h.le; omega) h1.2 h)
theorem SF.all_iff {i : Nat} (hi : i ≤ n) : SF n m star hit i m ↔ (List.range' i (n - i)).all star = true := by
  obtain ⟨d, rfl⟩ : ∃ d, n = i + d := ⟨n - i, by omega⟩
  rw [show i + d - i = d from by omega]
  clear hi
  induction d generalizing i with
  | zero => exact ⟨fun _ => rfl, fun _ => SF.done⟩
  | succ d ih =>
    rw [List.range'_succ, List.all_cons, Bool.and_eq_true]
    have ih2 := ih (i := i + 1)
    rw [show i + 1 + d = i + (d + 1) from by omega] at ih2
    constructor
    · intro h
      cases hs : star i with
      | true =>
        obtain ⟨j, hj, h2⟩ := h.star_inv (by omega) hs
        have h3 := h2.le
        obtain rfl : j = m := by omega
        exact ⟨rfl, ih2.1 h2⟩
      | false =>
        have h2 := (h.one_inv (by omega) hs).1
        omega
    · rintro ⟨hs, h⟩
      exact SF.skip (by omega) hs (ih2.2 h)
/-- What holds while walk goes. -/
def WI (n m : Nat) (star : Nat → Bool) (hit : Nat → Nat → Bool) (i k : Nat) : Option (Nat × Nat) → Prop
  | none => SF n m star hit 0 0 ↔ SF n m star hit i k
  | some (s, f) => s < n ∧ star s = true ∧ s + 1 ≤ i ∧ i - (s + 1) = k - f ∧ f ≤ k ∧ (∀ t, t < i - (s + 1) → star (s + 1 + t) = false ∧ hit (s + 1 + t) (f + t) = true) ∧ (SF n m star hit 0 0 ↔ SF n m star hit s f)
def WF : Option (Nat × Nat) → Nat
  | none => 0
  | some (_, f) => f
theorem WI.ahead {i k s f : Nat} (hi : i ≤ n) (h : WI n m star hit i k (some (s, f))) (hS : SF n m star hit s f) : ∃ j, k ≤ j ∧ SF n m star hit i j := by
  obtain ⟨h1, h2, h3, h4, h5, h6, h7⟩ := h
  obtain ⟨j, hj, h8⟩ := hS.star_inv h1 h2
  have h9 := SF.run (s + 1) (i - (s + 1)) j (fun t ht => (h6 t ht).1) (by omega) h8
  rw [show s + 1 + (i - (s + 1)) = i from by omega] at h9
  exact ⟨_, by omega, h9⟩
theorem WI.behind {i k s f : Nat} (hi : i ≤ n) (h : WI n m star hit i k (some (s, f))) (hS : SF n m star hit i k) : SF n m star hit s f := by
  obtain ⟨h1, h2, h3, h4, h5, h6, h7⟩ := h
  refine SF.skip h1 h2 (SF.unrun (s + 1) (i - (s + 1)) f h6 (by omega) ?_)
  rw [show s + 1 + (i - (s + 1)) = i from by omega, show f + (i - (s + 1)) = k from by omega]
  exact hS
theorem walk_tells : ∀ (g i k : Nat) (st : Option (Nat × Nat)), i ≤ n → k ≤ m → WF st ≤ k → WI n m star hit i k st → (m + 1 - WF st) * (n + 2) + (n - i) < g →
    ∃ r, glob_walk.g n m star hit g i k st = some r ∧ (r = true ↔ SF n m star hit 0 0)
  | 0, _, _, _, _, _, _, _, hg => by omega
  | g + 1, i, k, st, hi, hk, hf, hI, hg => by
    unfold glob_walk.g
    have reset : k < m → ¬ SF n m star hit i k → ∃ r, (match st with | some (s, f) => glob_walk.g n m star hit g (s + 1) (f + 1) (some (s, f + 1)) | none => some false) = some r ∧ (r = true ↔ SF n m star hit 0 0) := by
      intro hkm hno
      cases st with
      | none =>
        refine ⟨false, rfl, ?_⟩
        have h2 : SF n m star hit 0 0 ↔ SF n m star hit i k := hI
        rw [h2]
        exact ⟨fun h => absurd h (by decide), fun h => absurd h hno⟩
      | some p =>
        obtain ⟨s, f⟩ := p
        obtain ⟨h1, h2, h3, h4, h5, h6, h7⟩ := hI
        have hA : SF n m star hit s f ↔ SF n m star hit s (f + 1) := by
          constructor
          · intro h
            obtain ⟨j, hj, h8⟩ := h.star_inv h1 h2
            by_cases e : j = f
            · subst e
              have h9 := SF.run (s + 1) (i - (s + 1)) j (fun t ht => (h6 t ht).1) (by omega) h8
              rw [show s + 1 + (i - (s + 1)) = i from by omega, show j + (i - (s + 1)) = k from by omega] at h9
              exact absurd h9 hno
            · exact (SF.skip h1 h2 h8).back h1 h2 (by omega)
          · intro h
            exact h.back h1 h2 (by omega)
        have hff : f ≤ k := hf
        refine walk_tells g (s + 1) (f + 1) (some (s, f + 1)) (by omega) (by omega) (Nat.le_refl _) ⟨h1, h2, Nat.le_refl _, by omega, Nat.le_refl _, fun t ht => by omega, h7.trans hA⟩ ?_
        have e1 : m + 1 - WF (some (s, f)) = (m + 1 - (f + 1)) + 1 := by show m + 1 - f = _; omega
        rw [e1, Nat.add_mul, Nat.one_mul] at hg
        show (m + 1 - (f + 1)) * (n + 2) + (n - (s + 1)) < g
        omega
    by_cases hkm : k < m
    · rw [if_pos hkm]
      by_cases hin : i < n
      · rw [if_pos hin]
        by_cases hs : star i = true
        · rw [if_pos hs]
          have hmu : (m + 1 - k) * (n + 2) ≤ (m + 1 - WF st) * (n + 2) := Nat.mul_le_mul_right _ (by omega)
          refine walk_tells g (i + 1) k (some (i, k)) (by omega) hk (Nat.le_refl _) ⟨hin, hs, Nat.le_refl _, by omega, Nat.le_refl _, fun t ht => by omega, ?_⟩ (by show (m + 1 - k) * (n + 2) + (n - (i + 1)) < g; omega)
          cases st with
          | none => exact hI
          | some p =>
            obtain ⟨s, f⟩ := p
            have h7 : SF n m star hit 0 0 ↔ SF n m star hit s f := hI.2.2.2.2.2.2
            rw [h7]
            constructor
            · intro h
              obtain ⟨j, hj, h8⟩ := WI.ahead hi hI h
              exact h8.back hin hs hj
            · exact WI.behind hi hI
        · rw [if_neg hs]
          have hs' : star i = false := Bool.eq_false_iff.2 hs
          by_cases hh : hit i k = true
          · rw [if_pos hh]
            have hone : SF n m star hit i k ↔ SF n m star hit (i + 1) (k + 1) := ⟨fun h => (h.one_inv hin hs').2.2, fun h => SF.one hin hs' hkm hh h⟩
            refine walk_tells g (i + 1) (k + 1) st (by omega) (by omega) (by omega) ?_ (by omega)
            cases st with
            | none => exact Iff.trans hI hone
            | some p =>
              obtain ⟨s, f⟩ := p
              obtain ⟨h1, h2, h3, h4, h5, h6, h7⟩ := hI
              refine ⟨h1, h2, by omega, by omega, by omega, fun t ht => ?_, h7⟩
              by_cases e : t < i - (s + 1)
              · exact h6 t e
              · obtain rfl : t = i - (s + 1) := by omega
                rw [show s + 1 + (i - (s + 1)) = i from by omega, show f + (i - (s + 1)) = k from by omega]
                exact ⟨hs', hh⟩
          · rw [if_neg hh]
            exact reset hkm (fun h => hh (h.one_inv hin hs').2.1)
      · rw [if_neg hin]
        refine reset hkm (fun h => ?_)
        obtain rfl : i = n := by omega
        cases h with
        | done => omega
        | skip h _ _ => omega
        | eat h _ _ _ => omega
        | one h _ _ _ _ => omega
    · rw [if_neg hkm]
      obtain rfl : k = m := by omega
      refine ⟨_, rfl, ?_⟩
      rw [← SF.all_iff hi]
      cases st with
      | none => exact hI.symm
      | some p =>
        obtain ⟨s, f⟩ := p
        have h7 : SF n k star hit 0 0 ↔ SF n k star hit s f := hI.2.2.2.2.2.2
        rw [h7]
        constructor
        · exact WI.behind hi hI
        · intro h
          obtain ⟨j, hj, h8⟩ := WI.ahead hi hI h
          have h9 := h8.le
          obtain rfl : j = k := by omega
          exact h8
theorem SF_of_RF : ∀ i k, i ≤ n → RF star hit i k → SF n m star hit i k → SF n m star hit 0 0
  | 0, k, _, h, hS => by obtain rfl : k = 0 := h; exact hS
  | i + 1, k, hi, h, hS => by
    rw [RF] at h
    by_cases hs : star i = true
    · rw [if_pos hs] at h
      obtain ⟨j, hj, h1⟩ := h
      exact SF_of_RF i j (by omega) h1 ((SF.skip (by omega) hs hS).back (by omega) hs hj)
    · rw [if_neg hs] at h
      obtain ⟨j, rfl, hh, h1⟩ := h
      exact SF_of_RF i j (by omega) h1 (SF.one (by omega) (Bool.eq_false_iff.2 hs) (by have := hS.le; omega) hh hS)
theorem RF_of_SF {i k : Nat} (hS : SF n m star hit i k) : ∀ k0, RF star hit i k0 → (k0 = k ∨ (i < n ∧ star i = true ∧ k0 ≤ k)) → RF star hit n m := by
  induction hS with
  | done => rintro k0 h (rfl | ⟨h1, _⟩); exact h; omega
  | skip _ hs _ ih =>
    rintro k0 h h1
    refine ih _ ?_ (.inl rfl)
    rw [RF, if_pos hs]
    exact ⟨k0, by rcases h1 with h1 | h1 <;> omega, h⟩
  | eat hi hs hk hS ih =>
    rintro k0 h h1
    exact ih k0 h (.inr ⟨hi, hs, by rcases h1 with h1 | h1 <;> omega⟩)
  | one _ hs _ hh _ ih =>
    rintro k0 h (rfl | ⟨_, h2, _⟩)
    · exact ih _ (by rw [RF, if_neg (by rw [hs]; decide)]; exact ⟨_, rfl, hh, h⟩) (.inl rfl)
    · rw [hs] at h2; cases h2
end
/-- Both ways of fitting agree. -/
theorem walk_dp (n m : Nat) (star : Nat → Bool) (hit : Nat → Nat → Bool) : glob_walk.g n m star hit ((m + 2) * (n + m + 4)) 0 0 none = some ((dpTab m star hit n).getD m false) := by
  obtain ⟨r, hr, hrr⟩ := walk_tells (n := n) (m := m) (star := star) (hit := hit) ((m + 2) * (n + m + 4)) 0 0 none (Nat.zero_le _) (Nat.zero_le _) (Nat.le_refl _) Iff.rfl (by
    show (m + 1 - 0) * (n + 2) + (n - 0) < (m + 2) * (n + m + 4)
    have h1 : (m + 2) * (n + m + 4) = (m + 2) * (n + 2) + (m + 2) * (m + 2) := by rw [← Nat.mul_add]; congr 1; omega
    have h2 : (m + 2) * (n + 2) = (m + 1) * (n + 2) + (n + 2) := by rw [show m + 2 = (m + 1) + 1 from rfl, Nat.add_mul, Nat.one_mul]
    rw [h1, h2, Nat.sub_zero]
    omega)
  rw [hr]
  congr 1
  rw [Bool.eq_iff_iff, hrr, dpTab_iff m star hit n m (Nat.le_refl _)]
  exact ⟨fun h => RF_of_SF h 0 rfl (.inl rfl), fun h => SF_of_RF n m (Nat.le_refl _) h SF.done⟩
theorem RF_congr (star1 star2 : Nat → Bool) (hit1 hit2 : Nat → Nat → Bool) (m : Nat) : ∀ i k, k ≤ m → (∀ t, t < i → star1 t = star2 t) → (∀ t j, t < i → j < m → star1 t = false → hit1 t j = hit2 t j) → (RF star1 hit1 i k ↔ RF star2 hit2 i k)
  | 0, k, _, _, _ => Iff.rfl
  | i + 1, k, hk, hs, hh => by
    rw [RF, RF, ← hs i (by omega)]
    have ih := fun j (hj : j ≤ m) => RF_congr star1 star2 hit1 hit2 m i j hj (fun t ht => hs t (by omega)) (fun t j ht hj => hh t j (by omega) hj)
    cases h1 : star1 i with
    | true =>
      simp only [if_true]
      exact ⟨fun ⟨j, hj, h⟩ => ⟨j, hj, (ih j (by omega)).1 h⟩, fun ⟨j, hj, h⟩ => ⟨j, hj, (ih j (by omega)).2 h⟩⟩
    | false =>
      simp only [Bool.false_eq_true, if_false]
      exact ⟨fun ⟨j, hj, h2, h⟩ => ⟨j, hj, by rw [← hh i j (by omega) (by omega) h1]; exact h2, (ih j (by omega)).1 h⟩, fun ⟨j, hj, h2, h⟩ => ⟨j, hj, by rw [hh i j (by omega) (by omega) h1]; exact h2, (ih j (by omega)).2 h⟩⟩
theorem dp_congr (star1 star2 : Nat → Bool) (hit1 hit2 : Nat → Nat → Bool) (n m : Nat) (hs : ∀ t, t < n → star1 t = star2 t) (hh : ∀ t j, t < n → j < m → star1 t = false → hit1 t j = hit2 t j) : (dpTab m star1 hit1 n).getD m false = (dpTab m star2 hit2 n).getD m false := by
  rw [Bool.eq_iff_iff, dpTab_iff m _ _ n m (Nat.le_refl _), dpTab_iff m _ _ n m (Nat.le_refl _)]
  exact RF_congr _ _ _ _ m n m (Nat.le_refl _) hs hh
/-! ### B. A part's tokens: a byte, or 256 for any one, 257 for any number -/
def scan : List UInt8 → Bool → Option (List Nat)
  | [], _ => some []
  | c :: l, b => if c = 92 then (match l with | [] => none | d :: r => (scan r false).map (d.toNat :: ·)) else if c = 63 then (scan l false).map (256 :: ·) else if c = 42 then (if b = true then none else (scan l true).map (257 :: ·)) else (scan l false).map (c.toNat :: ·)
theorem bt_nat (a : ByteArray) (i : Nat) (h : i < a.size) : bt a (i : Int) = ((a.data.toList[i]'(by simpa using h)).toNat : Int) := (bt_at a i h).symm
theorem wrap_nat (i : Nat) (h : i ≤ 1000000) : wrap64 ((i : Int) + 1) = ((i + 1 : Nat) : Int) := by unfold wrap64; omega
theorem drop_nat (a : ByteArray) (i : Nat) (h : i < a.size) : a.data.toList.drop i = a.data.toList[i]'(by simpa using h) :: a.data.toList.drop (i + 1) := List.drop_eq_getElem_cons (by simpa using h)
theorem byte_eq (c : UInt8) (n : Nat) (hn : n < 256) : (c.toNat : Int) = (n : Int) ↔ c = UInt8.ofNat n := by
  constructor
  · intro h
    apply UInt8.toNat_inj.1
    rw [UInt8.toNat_ofNat']
    omega
  · rintro rfl
    rw [UInt8.toNat_ofNat']
    omega
theorem byte257 (d : UInt8) : ((d.toNat : Int) == 257) = false := beq_eq_false_iff_ne.2 (by have := d.toNat_lt; omega)
theorem wrap_pred (n : Nat) (h : 0 < n) (h2 : n ≤ 1000000) : wrap64 ((n : Int) - 1) = (n : Int) - 1 := by unfold wrap64; omega
theorem wrap_byte (d : UInt8) : wrap64 (d.toNat : Int) = (d.toNat : Int) := by have := d.toNat_lt; unfold wrap64; omega
def lastIs (acc : List Int) : Bool := acc.getLast? == some 257
theorem lastIs_snoc (acc : List Int) (v : Int) : lastIs (acc ++ [v]) = (v == 257) := by
  unfold lastIs
  rw [List.getLast?_append]
  simp
theorem lastIs_rd (acc : List Int) (h : (acc.length : Int) > 0) : (rd acc ((acc.length : Int) - 1) = 257) ↔ lastIs acc = true := by
  unfold lastIs rd
  have e : ((acc.length : Int) - 1).toNat = acc.length - 1 := by omega
  rw [e, List.getLast?_eq_getElem?, List.getD_eq_getElem?_getD]
  have h2 : acc.length - 1 < acc.length := by omega
  rw [List.getElem?_eq_getElem h2]
  simp
theorem tokens_l0 (a : ByteArray) (ha : a.size ≤ 100000) : ∀ (K i : Nat) (acc : List Int), i ≤ a.size → acc.length ≤ i → a.size - i < K →
    montageref37_tokens.l0 K a acc i = some (match scan (a.data.toList.drop i) (lastIs acc) with | some t => (acc ++ t.map (fun n : Nat => (n : Int)), decide (1 ≤ a.size ∧ a.size ≤ 255)) | none => ([], false))
  | 0, _, _, _, _, h => by omega
  | K + 1, i, acc, hi, hacc, hK => by
    rw [montageref37_tokens.l0]
    by_cases hlt : i < a.size
    · have w1 := wrap_nat i (by omega)
      have hbt := bt_nat a i hlt
      have hdr := drop_nat a i hlt
      obtain ⟨c, hc⟩ : ∃ c, c = a.data.toList[i]'(by simpa using hlt) := ⟨_, rfl⟩
      rw [← hc] at hbt hdr
      rw [if_pos (by omega), if_pos (by omega), hbt, w1, hdr, scan.eq_def]
      have hc8 := c.toNat_lt
      have room : acc.length < 17592186044416 := by omega
      simp only
      by_cases h92 : c = 92
      · rw [if_pos (by rw [h92]; rfl), if_pos h92]
        by_cases h1 : i + 1 = a.size
        · rw [if_pos (by omega), h1]
          have : a.data.toList.drop a.size = [] := List.drop_eq_nil_iff.2 (by simp)
          rw [this]
        · have hlt1 : i + 1 < a.size := by omega
          have w2 := wrap_nat (i + 1) (by omega)
          have hbt1 := bt_nat a (i + 1) hlt1
          have hdr1 := drop_nat a (i + 1) hlt1
          obtain ⟨d, hd⟩ : ∃ d, d = a.data.toList[i + 1]'(by simpa using hlt1) := ⟨_, rfl⟩
          rw [← hd] at hbt1 hdr1
          have hd8 := d.toNat_lt
          rw [if_neg (by omega), if_pos (by omega), if_pos (by omega), if_pos room, hbt1, w2, hdr1]
          rw [tokens_l0 a ha K (i + 1 + 1) _ (by omega) (by simp; omega) (by omega)]
          have e := wrap_byte d
          rw [e, lastIs_snoc]
          have e2 := byte257 d
          rw [e2]
          simp only
          cases scan (a.data.toList.drop (i + 1 + 1)) false <;> simp
      · have n92 : ¬ (c.toNat : Int) = 92 := fun h => h92 ((byte_eq c 92 (by decide)).1 h)
        rw [if_neg n92, if_neg h92]
        by_cases h63 : c = 63
        · rw [if_pos (by rw [h63]; rfl), if_pos h63, if_pos room]
          rw [tokens_l0 a ha K (i + 1) _ (by omega) (by simp; omega) (by omega), lastIs_snoc]
          have e2 : ((256 : Int) == 257) = false := rfl
          rw [e2]
          cases scan (a.data.toList.drop (i + 1)) false <;> simp
        · have n63 : ¬ (c.toNat : Int) = 63 := fun h => h63 ((byte_eq c 63 (by decide)).1 h)
          rw [if_neg n63, if_neg h63]
          by_cases h42 : c = 42
          · rw [if_pos (by rw [h42]; rfl), if_pos h42]
            have fin : ∀ x, lastIs acc = false → x = montageref37_tokens.l0 K a (acc ++ [257]) ((i + 1 : Nat) : Int) → x = some (match (if lastIs acc = true then none else (scan (a.data.toList.drop (i + 1)) true).map (257 :: ·)) with | some t => (acc ++ t.map (fun n : Nat => (n : Int)), decide (1 ≤ a.size ∧ a.size ≤ 255)) | none => ([], false)) := by
              rintro x hf rfl
              rw [tokens_l0 a ha K (i + 1) _ (by omega) (by simp; omega) (by omega), lastIs_snoc, hf]
              have e2 : ((257 : Int) == 257) = true := rfl
              rw [e2]
              cases scan (a.data.toList.drop (i + 1)) true <;> simp
            by_cases hpos : (acc.length : Int) > 0
            · have e1 := wrap_pred acc.length (by omega) (by omega)
              rw [if_pos hpos, e1, if_pos (by omega), if_pos (by omega)]
              by_cases hl : lastIs acc = true
              · rw [if_pos ((lastIs_rd acc hpos).2 hl), if_pos hl]
              · rw [if_neg (fun h => hl ((lastIs_rd acc hpos).1 h)), if_pos room]
                exact fin _ (Bool.eq_false_iff.2 hl) rfl
            · rw [if_neg hpos, if_pos room]
              refine fin _ ?_ rfl
              obtain rfl : acc = [] := List.length_eq_zero_iff.1 (by omega)
              rfl
          · have n42 : ¬ (c.toNat : Int) = 42 := fun h => h42 ((byte_eq c 42 (by decide)).1 h)
            rw [if_neg n42, if_neg h42, if_pos room]
            have e := wrap_byte c
            rw [e, tokens_l0 a ha K (i + 1) _ (by omega) (by simp; omega) (by omega), lastIs_snoc]
            have e2 := byte257 c
            rw [e2]
            cases scan (a.data.toList.drop (i + 1)) false <;> simp
    · rw [if_neg (by omega)]
      obtain rfl : i = a.size := by omega
      have : a.data.toList.drop a.size = [] := List.drop_eq_nil_iff.2 (by simp)
      rw [this, scan.eq_def]
      simp only [List.map_nil, List.append_nil]
      by_cases h1 : (a.size : Int) ≥ 1
      · rw [if_pos h1]
        congr 2
        rw [Bool.eq_iff_iff, decide_eq_true_eq, decide_eq_true_eq]
        omega
      · rw [if_neg h1]
        congr 2
        exact (decide_eq_false (by omega)).symm
def toP (n : Nat) : S54 := if n = 256 then ⟨1, 0⟩ else if n = 257 then ⟨2, 0⟩ else ⟨0, n⟩
theorem toP_byte (c : UInt8) : toP c.toNat = ⟨0, (c.toNat : Int)⟩ := by
  have := c.toNat_lt
  unfold toP
  rw [if_neg (by omega), if_neg (by omega)]
def lastS (acc : List S54) : Bool := match acc.getLast? with | some p => p.f0 == 2 | none => false
theorem lastS_snoc (acc : List S54) (v : S54) : lastS (acc ++ [v]) = (v.f0 == 2) := by
  unfold lastS
  rw [List.getLast?_append]
  simp
theorem lastS_rd (acc : List S54) (h : (acc.length : Int) > 0) : ((rd_T54 acc ((acc.length : Int) - 1)).f0 = 2) ↔ lastS acc = true := by
  unfold lastS rd_T54
  have e : ((acc.length : Int) - 1).toNat = acc.length - 1 := by omega
  rw [e, List.getLast?_eq_getElem?, List.getD_eq_getElem?_getD]
  have h2 : acc.length - 1 < acc.length := by omega
  rw [List.getElem?_eq_getElem h2]
  simp
theorem pieces_l0 (a : ByteArray) (ha : a.size ≤ 100000) : ∀ (K i : Nat) (acc : List S54), i ≤ a.size → acc.length ≤ i → a.size - i < K →
    glob_pieces.l0 K a acc i = some (match scan (a.data.toList.drop i) (lastS acc) with | some t => (acc ++ t.map toP, true) | none => ([], false))
  | 0, _, _, _, _, h => by omega
  | K + 1, i, acc, hi, hacc, hK => by
    rw [glob_pieces.l0]
    by_cases hlt : i < a.size
    · have w1 := wrap_nat i (by omega)
      have hbt := bt_nat a i hlt
      have hdr := drop_nat a i hlt
      obtain ⟨c, hc⟩ : ∃ c, c = a.data.toList[i]'(by simpa using hlt) := ⟨_, rfl⟩
      rw [← hc] at hbt hdr
      rw [if_pos (by omega), if_pos (by omega), hbt, w1, hdr, scan.eq_def]
      have hc8 := c.toNat_lt
      have room : acc.length < 8796093022208 := by omega
      simp only
      by_cases h92 : c = 92
      · rw [if_pos (by rw [h92]; rfl), if_pos h92]
        by_cases h1 : i + 1 = a.size
        · rw [if_pos (by omega), h1]
          have : a.data.toList.drop a.size = [] := List.drop_eq_nil_iff.2 (by simp)
          rw [this]
        · have hlt1 : i + 1 < a.size := by omega
          have w2 := wrap_nat (i + 1) (by omega)
          have hbt1 := bt_nat a (i + 1) hlt1
          have hdr1 := drop_nat a (i + 1) hlt1
          obtain ⟨d, hd⟩ : ∃ d, d = a.data.toList[i + 1]'(by simpa using hlt1) := ⟨_, rfl⟩
          rw [← hd] at hbt1 hdr1
          have hd8 := d.toNat_lt
          rw [if_neg (by omega), if_pos (by omega), if_pos (by omega), if_pos room, hbt1, w2, hdr1]
          rw [pieces_l0 a ha K (i + 1 + 1) _ (by omega) (by simp; omega) (by omega)]
          rw [lastS_snoc]
          rw [show ((0 : Int) == 2) = false from rfl]
          simp only
          cases scan (a.data.toList.drop (i + 1 + 1)) false <;> simp [toP_byte]
      · have n92 : ¬ (c.toNat : Int) = 92 := fun h => h92 ((byte_eq c 92 (by decide)).1 h)
        rw [if_neg n92, if_neg h92]
        by_cases h63 : c = 63
        · rw [if_pos (by rw [h63]; rfl), if_pos h63, if_pos room]
          rw [pieces_l0 a ha K (i + 1) _ (by omega) (by simp; omega) (by omega), lastS_snoc]
          have e2 : ((1 : Int) == 2) = false := rfl
          rw [e2]
          cases scan (a.data.toList.drop (i + 1)) false <;> simp [toP]
        · have n63 : ¬ (c.toNat : Int) = 63 := fun h => h63 ((byte_eq c 63 (by decide)).1 h)
          rw [if_neg n63, if_neg h63]
          by_cases h42 : c = 42
          · rw [if_pos (by rw [h42]; rfl), if_pos h42]
            have fin : ∀ x, lastS acc = false → x = glob_pieces.l0 K a (acc ++ [(⟨2, 0⟩ : S54)]) ((i + 1 : Nat) : Int) → x = some (match (if lastS acc = true then none else (scan (a.data.toList.drop (i + 1)) true).map (257 :: ·)) with | some t => (acc ++ t.map toP, true) | none => ([], false)) := by
              rintro x hf rfl
              rw [pieces_l0 a ha K (i + 1) _ (by omega) (by simp; omega) (by omega), lastS_snoc, hf]
              have e2 : ((2 : Int) == 2) = true := rfl
              rw [e2]
              cases scan (a.data.toList.drop (i + 1)) true <;> simp [toP]
            by_cases hpos : (acc.length : Int) > 0
            · have e1 := wrap_pred acc.length (by omega) (by omega)
              rw [if_pos hpos, e1, if_pos (by omega), if_pos (by omega)]
              by_cases hl : lastS acc = true
              · rw [if_pos ((lastS_rd acc hpos).2 hl), if_pos hl]
              · rw [if_neg (fun h => hl ((lastS_rd acc hpos).1 h)), if_pos room]
                exact fin _ (Bool.eq_false_iff.2 hl) rfl
            · rw [if_neg hpos, if_pos room]
              refine fin _ ?_ rfl
              obtain rfl : acc = [] := List.length_eq_zero_iff.1 (by omega)
              rfl
          · have n42 : ¬ (c.toNat : Int) = 42 := fun h => h42 ((byte_eq c 42 (by decide)).1 h)
            rw [if_neg n42, if_neg h42, if_pos room]
            rw [pieces_l0 a ha K (i + 1) _ (by omega) (by simp; omega) (by omega), lastS_snoc]
            rw [show ((0 : Int) == 2) = false from rfl]
            cases scan (a.data.toList.drop (i + 1)) false <;> simp [toP_byte]
    · rw [if_neg (by omega)]
      obtain rfl : i = a.size := by omega
      have : a.data.toList.drop a.size = [] := List.drop_eq_nil_iff.2 (by simp)
      rw [this, scan.eq_def]
      simp only [List.map_nil, List.append_nil]

/-- A part's tokens, if it may be one. -/
def tks (l : List UInt8) : Option (List Nat) := if 1 ≤ l.length ∧ l.length ≤ 255 then scan l false else none
theorem tokens_f (a : ByteArray) (ha : a.size ≤ 100000) (K : Nat) (hK : a.size < K) : ∃ t b, montageref37_tokens.f K a = some (t, b) ∧ (match tks a.data.toList with | some s => t = s.map (fun n : Nat => (n : Int)) ∧ b = true | none => b = false) := by
  unfold montageref37_tokens.f
  have h := tokens_l0 a ha K 0 [] (Nat.zero_le _) (Nat.le_refl _) (by omega)
  rw [show ((0 : Nat) : Int) = 0 from rfl] at h
  rw [h, List.drop_zero]
  have e : lastIs [] = false := rfl
  rw [e]
  have hl : a.data.toList.length = a.size := by simp
  unfold tks
  rw [hl]
  cases hs : scan a.data.toList false with
  | none =>
    refine ⟨_, _, rfl, ?_⟩
    split <;> simp_all
  | some s =>
    refine ⟨_, _, rfl, ?_⟩
    by_cases h1 : 1 ≤ a.size ∧ a.size ≤ 255
    · rw [if_pos h1]
      exact ⟨by simp, decide_eq_true h1⟩
    · rw [if_neg h1]
      exact decide_eq_false h1
theorem pieces_f (a : ByteArray) (ha : a.size ≤ 100000) (K : Nat) (hK : a.size + 1 < K) : ∃ t b, glob_pieces.f K a = some (t, b) ∧ (match tks a.data.toList with | some s => t = s.map toP ∧ b = true | none => t = [] ∧ b = false) := by
  have hl : a.data.toList.length = a.size := by simp
  have tol : a.toList = a.data.toList := Lib.toList_data a
  obtain ⟨K, rfl⟩ : ∃ k, K = k + 1 := ⟨K - 1, by omega⟩
  unfold glob_pieces.f tks
  rw [hl, tol]
  by_cases h0 : a.data.toList = []
  · rw [if_pos h0, glob_pieces.j0, if_pos rfl]
    have h1 : ¬ (1 ≤ a.size ∧ a.size ≤ 255) := by rw [h0] at hl; simp at hl; omega
    rw [if_neg h1]
    exact ⟨_, _, rfl, rfl, rfl⟩
  · rw [if_neg h0, glob_pieces.j0]
    have h1 : 1 ≤ a.size := by
      have := List.length_pos_iff.2 h0
      omega
    by_cases h2 : (a.size : Int) > 255
    · rw [if_pos (decide_eq_true h2), if_neg (by omega)]
      exact ⟨_, _, rfl, rfl, rfl⟩
    · rw [if_neg (by rw [decide_eq_false h2]; decide), if_pos (by omega)]
      have h := pieces_l0 a ha K 0 [] (Nat.zero_le _) (Nat.le_refl _) (by omega)
      rw [show ((0 : Nat) : Int) = 0 from rfl] at h
      rw [h, List.drop_zero]
      have e : lastS [] = false := rfl
      rw [e]
      cases hs : scan a.data.toList false with
      | none => exact ⟨_, _, rfl, rfl, rfl⟩
      | some s => exact ⟨_, _, rfl, by simp, rfl⟩
/-- What tokens fit. -/
def fitN (t : List Nat) (s : List UInt8) : Bool := (dpTab s.length (fun i => t.getD i 0 == 257) (fun i k => t.getD i 0 == 256 || t.getD i 0 == (s.getD k 0).toNat) t.length).getD s.length false
theorem bt_getD (a : ByteArray) (k : Nat) (h : k < a.size) : bt a (k : Int) = (((a.data.toList.getD k 0).toNat : Nat) : Int) := by
  rw [bt_nat a k h, List.getD_eq_getElem?_getD, List.getElem?_eq_getElem (by simpa using h)]
  rfl
theorem reffit_f (t : List Nat) (a : ByteArray) (ht : t.length ≤ 100000) (ha : a.size ≤ 100000) : montageref37_fit.f (t.map (fun n : Nat => (n : Int))) a = some (fitN t a.data.toList) := by
  unfold montageref37_fit.f fitN
  rw [List.length_map, if_pos ⟨by omega, by omega⟩]
  have hl : a.data.toList.length = a.size := by simp
  rw [hl]
  congr 1
  have hr : ∀ i : Nat, i < t.length → rd (t.map (fun n : Nat => (n : Int))) (i : Int) = ((t.getD i 0 : Nat) : Int) := by
    intro i hi
    unfold rd
    rw [Int.toNat_natCast, List.getD_eq_getElem?_getD, List.getElem?_map, List.getElem?_eq_getElem hi, List.getD_eq_getElem?_getD, List.getElem?_eq_getElem hi]
    rfl
  refine dp_congr _ _ _ _ _ _ (fun i hi => ?_) (fun i k hi hk _ => ?_)
  · rw [hr i hi, Bool.eq_iff_iff, beq_iff_eq, beq_iff_eq]; omega
  · rw [hr i hi, bt_getD a k hk, Bool.eq_iff_iff, Bool.or_eq_true, Bool.or_eq_true, beq_iff_eq, beq_iff_eq, beq_iff_eq, beq_iff_eq]; omega
theorem fit_f (t : List Nat) (a : ByteArray) (ht : t.length ≤ 100000) (ha : a.size ≤ 100000) : glob_fit.f (t.map toP) a = some (fitN t a.data.toList) := by
  unfold glob_fit.f fitN
  rw [List.length_map, if_pos ⟨by omega, by omega⟩, walk_dp]
  have hl : a.data.toList.length = a.size := by simp
  rw [hl]
  congr 1
  have hr : ∀ i : Nat, i < t.length → rd_T54 (t.map toP) (i : Int) = toP (t.getD i 0) := by
    intro i hi
    unfold rd_T54
    rw [Int.toNat_natCast, List.getD_eq_getElem?_getD, List.getElem?_map, List.getElem?_eq_getElem hi, List.getD_eq_getElem?_getD, List.getElem?_eq_getElem hi]
    rfl
  have key : ∀ n : Nat, (toP n).f0 = 2 ↔ n = 257 := by
    intro n; unfold toP
    split
    · simp; omega
    · split <;> simp_all
  refine dp_congr _ _ _ _ _ _ (fun i hi => ?_) (fun i k hi hk hs => ?_)
  · rw [hr i hi, Bool.eq_iff_iff, beq_iff_eq, beq_iff_eq]; exact key _
  · rw [hr i hi, bt_getD a k hk]
    rw [hr i hi] at hs
    have hs2 : ¬ t.getD i 0 = 257 := fun h => by rw [(key _).2 h] at hs; cases hs
    generalize t.getD i 0 = n at hs2
    have h8 := (a.data.toList.getD k 0).toNat_lt
    unfold toP
    by_cases h1 : n = 256
    · rw [if_pos h1, h1]; rfl
    · rw [if_neg h1, if_neg hs2, Bool.eq_iff_iff, Bool.or_eq_true, Bool.or_eq_true, beq_iff_eq, beq_iff_eq, beq_iff_eq, beq_iff_eq]
      simp only
      omega
/-! ### C. Parts -/
def ofL (l : List UInt8) : ByteArray := ⟨l.toArray⟩
theorem ofL_data (l : List UInt8) : (ofL l).data.toList = l := rfl
theorem ofL_size (l : List UInt8) : (ofL l).size = l.length := rfl
theorem ba_eq {b : ByteArray} {l : List UInt8} (h : b.data.toList = l) : b = ofL l := by
  subst h
  cases b
  simp [ofL]
def partsL (l : List UInt8) : List (List UInt8) := if l = [] then [] else splitL 47 l
theorem splitL_ne (c : UInt8) : ∀ l, splitL c l ≠ []
  | [] => by simp [splitL]
  | x :: xs => by
    rw [splitL]
    split
    · simp
    · split <;> simp
theorem splitL_len (c : UInt8) : ∀ l, ∀ s ∈ splitL c l, s.length ≤ l.length
  | [], s, h => by
    rw [splitL] at h
    rcases List.mem_singleton.1 h with rfl
    simp
  | x :: xs, s, h => by
    have ih := splitL_len c xs
    rw [splitL] at h
    rw [List.length_cons]
    split at h
    · rcases List.mem_cons.1 h with rfl | h
      · simp
      · have := ih s h; omega
    · split at h
      · rcases List.mem_singleton.1 h with rfl; simp
      · rename_i h1 t he
        rw [he] at ih
        rcases List.mem_cons.1 h with rfl | h
        · have := ih h1 List.mem_cons_self
          rw [List.length_cons]; omega
        · have := ih s (List.mem_cons_of_mem _ h); omega
theorem splitL_many (c : UInt8) : ∀ l, (splitL c l).length ≤ l.length + 1
  | [] => by simp [splitL]
  | x :: xs => by
    have ih := splitL_many c xs
    rw [splitL]
    split
    · simp only [List.length_cons]; omega
    · split
      · simp
      · rename_i h1 t he
        rw [he] at ih
        simp only [List.length_cons] at ih ⊢; omega
theorem route_f (a : ByteArray) (ha : a.size ≤ 100000) : route_Parts.f a = some ((partsL a.data.toList).map ofL) := by
  unfold route_Parts.f partsL
  rw [Lib.toList_data]
  by_cases h : a.data.toList = []
  · rw [if_pos h, if_pos h]; rfl
  · rw [if_neg h, if_neg h]
    unfold strings_Split.f
    rw [if_pos ⟨rfl, by omega⟩]
    rfl
/-- The pieces, the first of which has begun. -/
def splitA (pre : List UInt8) (l : List UInt8) : List (List UInt8) := match splitL 47 l with | [] => [pre] | h :: t => (pre ++ h) :: t
theorem splitA_nil (pre : List UInt8) : splitA pre [] = [pre] := by simp [splitA, splitL]
theorem splitA_new (l : List UInt8) : splitA [] l = splitL 47 l := by
  unfold splitA
  split
  · rename_i h; exact absurd h (splitL_ne 47 l)
  · rename_i h t he; rw [he]; rfl
theorem splitA_cut (pre l : List UInt8) : splitA pre (47 :: l) = pre :: splitA [] l := by
  rw [splitA_new, splitA, splitL, if_pos rfl]
  simp
theorem splitA_on (pre l : List UInt8) (c : UInt8) (h : c ≠ 47) : splitA pre (c :: l) = splitA (pre ++ [c]) l := by
  unfold splitA
  rw [splitL, if_neg h]
  split
  · rename_i h1
    split at h1 <;> cases h1
  · rename_i h1 t he
    split at he
    · rename_i h2; exact absurd h2 (splitL_ne 47 l)
    · rename_i h3 t3 he3
      rw [he3]
      simp only [List.cons.injEq] at he
      obtain ⟨rfl, rfl⟩ := he
      simp
theorem extract_ofL (a : ByteArray) (f i : Nat) : a.extract f i = ofL ((a.data.toList.drop f).take (i - f)) := ba_eq (Lib.extract_data a f i)
theorem wrap_nat' (i : Nat) (h : i ≤ 1000000) : wrap64 ((i : Int) + 1) = ((i + 1 : Nat) : Int) := wrap_nat i h
theorem parts_l0 (a : ByteArray) (ha : a.size ≤ 100000) : ∀ (K f i : Nat) (acc : List ByteArray), f ≤ i → i ≤ a.size → acc.length ≤ i → a.size + 1 - i < K →
    montageref13_Parts.l0 K a acc f i = some (acc ++ (splitA ((a.data.toList.drop f).take (i - f)) (a.data.toList.drop i)).map ofL)
  | 0, _, _, _, _, _, _, h => by omega
  | K + 1, f, i, acc, hf, hi, hacc, hK => by
    rw [montageref13_Parts.l0, if_pos (by omega)]
    have w1 := wrap_nat i (by omega)
    have room : acc.length < 8796093022208 := by omega
    by_cases he : i = a.size
    · subst he
      rw [if_pos rfl, if_pos (by omega), if_pos (by omega), if_pos room, w1]
      have hd : a.data.toList.drop a.size = [] := List.drop_eq_nil_iff.2 (by simp)
      rw [hd, splitA_nil]
      obtain ⟨K, rfl⟩ : ∃ k, K = k + 1 := ⟨K - 1, by omega⟩
      rw [montageref13_Parts.l0, if_neg (by omega), Int.toNat_natCast, Int.toNat_natCast, extract_ofL]
      rfl
    · have hlt : i < a.size := by omega
      have hbt := bt_nat a i hlt
      have hdr := drop_nat a i hlt
      obtain ⟨c, hc⟩ : ∃ c, c = a.data.toList[i]'(by simpa using hlt) := ⟨_, rfl⟩
      rw [← hc] at hbt hdr
      rw [if_neg (by omega), if_pos (by omega), if_pos (by omega), hbt, hdr]
      by_cases h47 : c = 47
      · rw [if_pos (by rw [h47]; rfl), if_pos (by omega), if_pos (by omega), if_pos room, w1]
        rw [parts_l0 a ha K (i + 1) (i + 1) _ (Nat.le_refl _) (by omega) (by simp; omega) (by omega)]
        rw [h47, splitA_cut, Nat.sub_self, List.take_zero, Int.toNat_natCast, Int.toNat_natCast, extract_ofL]
        simp
      · have n47 : ¬ (c.toNat : Int) = 47 := fun h => h47 ((byte_eq c 47 (by decide)).1 h)
        rw [if_neg n47, w1, parts_l0 a ha K f (i + 1) acc (by omega) (by omega) (by omega) (by omega), splitA_on _ _ _ h47]
        congr 3
        rw [show i + 1 - f = (i - f) + 1 from by omega, List.take_add_one, List.getElem?_drop, show f + (i - f) = i from by omega, List.getElem?_eq_getElem (by simpa using hlt), ← hc]
        rfl
theorem parts13_f (a : ByteArray) (ha : a.size ≤ 100000) (K : Nat) (hK : a.size + 1 < K) : montageref13_Parts.f K a = some ((partsL a.data.toList).map ofL) := by
  unfold montageref13_Parts.f partsL
  rw [Lib.toList_data]
  by_cases h : a.data.toList = []
  · rw [if_pos h, if_pos h]; rfl
  · rw [if_neg h, if_neg h]
    have h1 := parts_l0 a ha K 0 0 [] (Nat.le_refl _) (Nat.zero_le _) (Nat.le_refl _) (by omega)
    rw [show ((0 : Nat) : Int) = 0 from rfl] at h1
    rw [h1, Nat.sub_self, List.take_zero, List.drop_zero, splitA_new]
    rfl
/-! ### D. Patterns -/
def okPart (s : List UInt8) : Bool := s == [42, 42] || (tks s).isSome
def rightL (l : List UInt8) : Bool := decide (1 ≤ (partsL l).length ∧ (partsL l).length ≤ 32) && (partsL l).all okPart
def partL (p s : List UInt8) : Bool := match tks p with | some t => fitN t s | none => false
def fitsQ (l q : List (List UInt8)) : Bool := (dpTab q.length (fun i => l.getD i [] == [42, 42]) (fun i k => partL (l.getD i []) (q.getD k [])) l.length).getD q.length false
def fitsL (a b : List UInt8) : Bool := rightL a && fitsQ (partsL a) (partsL b)
theorem rdOf_ofL (l : List (List UInt8)) (i : Nat) (h : i < l.length) : rdOf ByteArray.empty (l.map ofL) (i : Int) = ofL l[i] := by
  unfold rdOf
  rw [Int.toNat_natCast, List.getD_eq_getElem?_getD, List.getElem?_map, List.getElem?_eq_getElem h]
  rfl
theorem getD_ofL (l : List (List UInt8)) (i : Nat) (h : i < l.length) : (l.map ofL).getD i ByteArray.empty = ofL (l.getD i []) := by
  rw [List.getD_eq_getElem?_getD, List.getElem?_map, List.getElem?_eq_getElem h, List.getD_eq_getElem?_getD, List.getElem?_eq_getElem h]
  rfl
theorem partsL_len (l : List UInt8) : ∀ s ∈ partsL l, s.length ≤ l.length := by
  intro s hs
  unfold partsL at hs
  split at hs
  · cases hs
  · exact splitL_len 47 l s hs
theorem check_l0 (l : List (List UInt8)) (N : Nat) (hN : N ≤ 100000) (hl : ∀ s ∈ l, s.length ≤ N) (hll : l.length ≤ 1000) : ∀ K i, i ≤ l.length → N + 2 + (l.length - i) < K →
    glob_Check.l0 K (l.map ofL) (((l.map ofL).length : Nat) : Int) i = some (if (l.drop i).all okPart = true then 0 else 2)
  | 0, _, _, h => by omega
  | K + 1, i, hi, hK => by
    rw [glob_Check.l0]
    by_cases hlt : i < l.length
    · have hm : l[i] ∈ l := List.getElem_mem _
      have hs := hl _ hm
      rw [if_pos (by rw [List.length_map]; omega), if_pos (by omega), if_pos (by rw [List.length_map]; omega), rdOf_ofL l i hlt]
      obtain ⟨t, b, hp, hb⟩ := pieces_f (ofL l[i]) (by rw [ofL_size]; omega) K (by rw [ofL_size]; omega)
      rw [hp, Option.bind_some, List.drop_eq_getElem_cons hlt, List.all_cons]
      have w1 := wrap_nat i (by omega)
      have ih := check_l0 l N hN hl hll K (i + 1) (by omega) (by omega)
      rw [ofL_data] at hb
      have tol : (ofL l[i]).toList = l[i] := by rw [Lib.toList_data, ofL_data]
      simp only
      cases ht : tks l[i] with
      | some s =>
        rw [ht] at hb
        rw [if_pos hb.2, w1, ih]
        have : okPart l[i] = true := by unfold okPart; rw [ht]; simp
        rw [this, Bool.true_and]
      | none =>
        rw [ht] at hb
        rw [if_neg (by rw [hb.2]; decide), tol]
        by_cases h2 : l[i] = [42, 42]
        · rw [if_pos h2, w1, ih]
          have : okPart l[i] = true := by unfold okPart; rw [h2]; rfl
          rw [this, Bool.true_and]
        · rw [if_neg h2]
          have : okPart l[i] = false := by unfold okPart; rw [ht]; simp [h2]
          rw [this, Bool.false_and]
          rfl
    · rw [if_neg (by rw [List.length_map]; omega)]
      have : l.drop i = [] := List.drop_eq_nil_iff.2 (by omega)
      rw [this]
      rfl
theorem check_f (a : ByteArray) (ha : a.size ≤ 100000) (K : Nat) (hK : a.size + 38 ≤ K) : glob_Check.f K a = some (if rightL a.data.toList = true then 0 else 2) := by
  unfold glob_Check.f
  rw [route_f a ha, Option.bind_some, List.length_map]
  obtain ⟨K, rfl⟩ : ∃ k, K = k + 1 := ⟨K - 1, by omega⟩
  have hl : a.data.toList.length = a.size := by simp
  unfold rightL
  by_cases h0 : ((partsL a.data.toList).length : Int) = 0
  · rw [if_pos h0, glob_Check.j0, if_pos rfl, decide_eq_false (by omega)]
    rfl
  · rw [if_neg h0, glob_Check.j0]
    by_cases h1 : ((partsL a.data.toList).length : Int) > 32
    · rw [if_pos (decide_eq_true h1), decide_eq_false (by omega)]
      rfl
    · rw [if_neg (by rw [decide_eq_false h1]; decide), decide_eq_true (by omega), Bool.true_and]
      have h2 := check_l0 (partsL a.data.toList) a.size ha (fun s hs => by have := partsL_len _ s hs; omega) (by omega) K 0 (Nat.zero_le _) (by omega)
      rw [show ((0 : Nat) : Int) = 0 from rfl] at h2
      rw [h2, List.drop_zero]
theorem right_l0 (l : List (List UInt8)) (N : Nat) (hN : N ≤ 100000) (hl : ∀ s ∈ l, s.length ≤ N) (hll : l.length ≤ 1000) : ∀ K i, i ≤ l.length → N + 2 + (l.length - i) < K →
    montageref37_Right.l0 K (l.map ofL) i = some ((l.drop i).all okPart)
  | 0, _, _, h => by omega
  | K + 1, i, hi, hK => by
    rw [montageref37_Right.l0]
    by_cases hlt : i < l.length
    · have hm : l[i] ∈ l := List.getElem_mem _
      have hs := hl _ hm
      rw [if_pos (by rw [List.length_map]; omega), if_pos (by omega), rdOf_ofL l i hlt]
      obtain ⟨t, b, hp, hb⟩ := tokens_f (ofL l[i]) (by rw [ofL_size]; omega) K (by rw [ofL_size]; omega)
      rw [hp, Option.bind_some, List.drop_eq_getElem_cons hlt, List.all_cons]
      have w1 := wrap_nat i (by omega)
      have ih := right_l0 l N hN hl hll K (i + 1) (by omega) (by omega)
      rw [ofL_data] at hb
      have tol : (ofL l[i]).toList = l[i] := by rw [Lib.toList_data, ofL_data]
      simp only
      rw [tol]
      by_cases h2 : l[i] = [42, 42]
      · rw [if_pos h2, w1, ih]
        have : okPart l[i] = true := by unfold okPart; rw [h2]; rfl
        rw [this, Bool.true_and]
      · rw [if_neg h2]
        cases ht : tks l[i] with
        | some s =>
          rw [ht] at hb
          rw [if_pos hb.2, w1, ih]
          have : okPart l[i] = true := by unfold okPart; rw [ht]; simp
          rw [this, Bool.true_and]
        | none =>
          rw [ht] at hb
          have hb' : b = false := hb
          rw [if_neg (by rw [hb']; decide)]
          have : okPart l[i] = false := by unfold okPart; rw [ht]; simp [h2]
          rw [this, Bool.false_and]
    · rw [if_neg (by rw [List.length_map]; omega)]
      have : l.drop i = [] := List.drop_eq_nil_iff.2 (by omega)
      rw [this]
      rfl
theorem right_f (a : ByteArray) (ha : a.size ≤ 100000) (K : Nat) (hK : a.size + 38 ≤ K) : montageref37_Right.f K a = some (rightL a.data.toList) := by
  unfold montageref37_Right.f
  rw [parts13_f a ha K (by omega), Option.bind_some, List.length_map]
  obtain ⟨K, rfl⟩ : ∃ k, K = k + 1 := ⟨K - 1, by omega⟩
  have hl : a.data.toList.length = a.size := by simp
  unfold rightL
  by_cases h0 : ((partsL a.data.toList).length : Int) < 1
  · rw [if_pos h0, montageref37_Right.j0, if_pos rfl, decide_eq_false (by omega)]
    rfl
  · rw [if_neg h0, montageref37_Right.j0]
    by_cases h1 : ((partsL a.data.toList).length : Int) > 32
    · rw [if_pos (decide_eq_true h1), decide_eq_false (by omega)]
      rfl
    · rw [if_neg (by rw [decide_eq_false h1]; decide), decide_eq_true (by omega), Bool.true_and]
      have h2 := right_l0 (partsL a.data.toList) a.size ha (fun s hs => by have := partsL_len _ s hs; omega) (by omega) K 0 (Nat.zero_le _) (by omega)
      rw [show ((0 : Nat) : Int) = 0 from rfl] at h2
      rw [h2, List.drop_zero]
theorem scan_len : ∀ (n : Nat) (l : List UInt8) (b : Bool) (t : List Nat), l.length ≤ n → scan l b = some t → t.length ≤ l.length
  | n, [], b, t, _, h => by
    rw [scan] at h
    obtain rfl := Option.some.inj h
    simp
  | 0, c :: l, b, t, hn, _ => by simp at hn
  | n + 1, c :: l, b, t, hn, h => by
    rw [List.length_cons] at hn
    rw [scan.eq_def] at h
    simp only at h
    rw [List.length_cons]
    split at h
    · split at h
      · cases h
      · rename_i d r
        obtain ⟨s, hs, rfl⟩ := Option.map_eq_some_iff.1 h
        have := scan_len n r false s (by simp at hn; omega) hs
        simp only [List.length_cons]; omega
    · split at h
      · obtain ⟨s, hs, rfl⟩ := Option.map_eq_some_iff.1 h
        have := scan_len n l false s (by omega) hs
        simp only [List.length_cons]; omega
      · split at h
        · split at h
          · cases h
          · obtain ⟨s, hs, rfl⟩ := Option.map_eq_some_iff.1 h
            have := scan_len n l true s (by omega) hs
            simp only [List.length_cons]; omega
        · obtain ⟨s, hs, rfl⟩ := Option.map_eq_some_iff.1 h
          have := scan_len n l false s (by omega) hs
          simp only [List.length_cons]; omega
theorem tks_len {l : List UInt8} {t : List Nat} (h : tks l = some t) : t.length ≤ l.length := by
  unfold tks at h
  split at h
  · exact scan_len _ l false t (Nat.le_refl _) h
  · cases h
theorem part_f (p s : ByteArray) (hp : p.size ≤ 100000) (hs : s.size ≤ 100000) (K : Nat) (hK : p.size + 1 < K) : glob_Part.f K p s = some (partL p.data.toList s.data.toList) := by
  unfold glob_Part.f partL
  obtain ⟨t, b, h, hb⟩ := pieces_f p hp K hK
  rw [h, Option.bind_some]
  have hl : p.data.toList.length = p.size := by simp
  cases ht : tks p.data.toList with
  | none =>
    rw [ht] at hb
    simp only
    rw [if_neg (by rw [hb.2]; decide)]
  | some r =>
    rw [ht] at hb
    simp only
    have := tks_len ht
    rw [if_pos hb.2, hb.1, fit_f r s (by omega) hs]
    rfl
theorem refpart_f (p s : ByteArray) (hp : p.size ≤ 100000) (hs : s.size ≤ 100000) (K : Nat) (hK : p.size + 1 < K) : montageref37_Part.f K p s = some (partL p.data.toList s.data.toList) := by
  unfold montageref37_Part.f partL
  obtain ⟨t, b, h, hb⟩ := tokens_f p hp K (by omega)
  rw [h, Option.bind_some]
  have hl : p.data.toList.length = p.size := by simp
  cases ht : tks p.data.toList with
  | none =>
    rw [ht] at hb
    have hb' : b = false := hb
    simp only
    rw [if_neg (by rw [hb']; decide)]
  | some r =>
    rw [ht] at hb
    simp only
    have := tks_len ht
    rw [if_pos hb.2, hb.1, reffit_f r s (by omega) hs]
    rfl
theorem partsL_many (l : List UInt8) : (partsL l).length ≤ l.length + 1 := by
  unfold partsL
  split
  · simp
  · exact splitL_many 47 l
theorem getD_len (l : List UInt8) (i : Nat) : ((partsL l).getD i []).length ≤ l.length := by
  rw [List.getD_eq_getElem?_getD]
  cases h : (partsL l)[i]? with
  | none => simp
  | some s => exact partsL_len l s (List.mem_of_getElem? h)
theorem fits_p (K : Nat) (a : List UInt8) (ha : a.length ≤ 100000) (hK : a.length + 1 < K) (i : Nat) (hi : i < (partsL a).length) :
    (glob_pieces.f K (((partsL a).map ofL).getD i ByteArray.empty)).isSome = true ∧ glob_Fits.p K ((partsL a).map ofL) i = (match tks ((partsL a).getD i []) with | some t => t.map toP | none => []) := by
  unfold glob_Fits.p
  rw [getD_ofL _ _ hi]
  have hl := getD_len a i
  obtain ⟨t, b, h, hb⟩ := pieces_f (ofL ((partsL a).getD i [])) (by rw [ofL_size]; omega) K (by rw [ofL_size]; omega)
  rw [h]
  rw [ofL_data] at hb
  refine ⟨rfl, ?_⟩
  show t = _
  cases ht : tks ((partsL a).getD i []) with
  | none => rw [ht] at hb; exact hb.1
  | some r => rw [ht] at hb; exact hb.1
theorem fit_p (p s : List UInt8) (hp : p.length ≤ 100000) (hs : s.length ≤ 100000) : ∃ r, glob_fit.f (match tks p with | some t => t.map toP | none => []) (ofL s) = some r ∧ ∀ t, tks p = some t → r = fitN t s := by
  cases ht : tks p with
  | none => exact ⟨_, fit_f [] (ofL s) (by simp) (by rw [ofL_size]; exact hs), fun t h => by cases h⟩
  | some t =>
    have := tks_len ht
    exact ⟨_, fit_f t (ofL s) (by omega) (by rw [ofL_size]; exact hs), fun t' h => by obtain rfl := Option.some.inj h; rfl⟩
theorem fits_f (a b : ByteArray) (ha : a.size ≤ 100000) (hb : b.size ≤ 100000) : glob_Fits.f a b = some (fitsL a.data.toList b.data.toList) := by
  unfold glob_Fits.f fitsL
  have hla : a.data.toList.length = a.size := by simp
  have hlb : b.data.toList.length = b.size := by simp
  rw [check_f a ha _ (by unfold glob_Fits.K; omega), Option.bind_some]
  cases hr : rightL a.data.toList with
  | false => rw [if_neg (by decide)]; rfl
  | true =>
    rw [if_pos (by decide), route_f a ha, Option.bind_some, route_f b hb, Option.bind_some, Bool.true_and]
    have hma := partsL_many a.data.toList
    have hmb := partsL_many b.data.toList
    have hK : a.data.toList.length + 1 < glob_Fits.K a := by unfold glob_Fits.K; omega
    have hfit : ∀ i, i < (partsL a.data.toList).length → ∀ k, k < (partsL b.data.toList).length → ∃ r, glob_fit.f (glob_Fits.p (glob_Fits.K a) ((partsL a.data.toList).map ofL) i) (((partsL b.data.toList).map ofL).getD k ByteArray.empty) = some r ∧ ∀ t, tks ((partsL a.data.toList).getD i []) = some t → r = fitN t ((partsL b.data.toList).getD k []) := by
      intro i hi k hk
      rw [(fits_p (glob_Fits.K a) a.data.toList (by omega) hK i hi).2, getD_ofL _ _ hk]
      have h1 := getD_len a.data.toList i
      have h2 := getD_len b.data.toList k
      exact fit_p _ _ (by omega) (by omega)
    rw [if_pos ⟨by rw [List.length_map]; omega, by rw [List.length_map]; omega, fun i hi => (fits_p (glob_Fits.K a) a.data.toList (by omega) hK i (by simpa using hi)).1, fun i hi k hk => by
      obtain ⟨r, h, _⟩ := hfit i (by simpa using hi) k (by simpa using hk)
      rw [h]; rfl⟩]
    rw [List.length_map, List.length_map, walk_dp]
    congr 1
    unfold fitsQ
    refine dp_congr _ _ _ _ _ _ (fun i hi => ?_) (fun i k hi hk hs => ?_)
    · rw [getD_ofL _ _ hi, Lib.toList_data, ofL_data]
    · obtain ⟨r, h, h2⟩ := hfit i hi k hk
      rw [h]
      rw [getD_ofL _ _ hi, Lib.toList_data, ofL_data] at hs
      have hall : okPart ((partsL a.data.toList).getD i []) = true := by
        unfold rightL at hr
        rw [Bool.and_eq_true] at hr
        rw [List.getD_eq_getElem?_getD, List.getElem?_eq_getElem hi]
        exact List.all_eq_true.1 hr.2 _ (List.getElem_mem _)
      unfold okPart at hall
      rw [hs, Bool.false_or] at hall
      obtain ⟨t, ht⟩ := Option.isSome_iff_exists.1 hall
      unfold partL
      rw [ht]
      exact h2 t ht
theorem reffits_f (a b : ByteArray) (ha : a.size ≤ 100000) (hb : b.size ≤ 100000) : montageref37_Fits.f a b = some (fitsL a.data.toList b.data.toList) := by
  unfold montageref37_Fits.f fitsL
  have hla : a.data.toList.length = a.size := by simp
  have hlb : b.data.toList.length = b.size := by simp
  rw [right_f a ha _ (by unfold montageref37_Fits.K; omega), Option.bind_some]
  cases hr : rightL a.data.toList with
  | false => rw [if_neg (by decide)]; rfl
  | true =>
    rw [if_pos rfl, parts13_f a ha _ (by unfold montageref37_Fits.K; omega), Option.bind_some, parts13_f b hb _ (by unfold montageref37_Fits.K; omega), Option.bind_some, Bool.true_and]
    have hma := partsL_many a.data.toList
    have hmb := partsL_many b.data.toList
    have hpart : ∀ i, i < (partsL a.data.toList).length → ∀ k, k < (partsL b.data.toList).length → montageref37_Part.f (montageref37_Fits.K a) (((partsL a.data.toList).map ofL).getD i ByteArray.empty) (((partsL b.data.toList).map ofL).getD k ByteArray.empty) = some (partL ((partsL a.data.toList).getD i []) ((partsL b.data.toList).getD k [])) := by
      intro i hi k hk
      have h1 := getD_len a.data.toList i
      have h2 := getD_len b.data.toList k
      rw [getD_ofL _ _ hi, getD_ofL _ _ hk, refpart_f _ _ (by rw [ofL_size]; omega) (by rw [ofL_size]; omega) _ (by rw [ofL_size]; unfold montageref37_Fits.K; omega)]
      rfl
    rw [if_pos ⟨by rw [List.length_map]; omega, by rw [List.length_map]; omega, fun i hi k hk => by
      rw [hpart i (by simpa using hi) k (by simpa using hk)]; rfl⟩]
    rw [List.length_map, List.length_map]
    congr 1
    unfold fitsQ
    refine dp_congr _ _ _ _ _ _ (fun i hi => ?_) (fun i k hi hk hs => ?_)
    · rw [getD_ofL _ _ hi, Lib.toList_data, ofL_data]
    · rw [hpart i hi k hk]; rfl
end Go.Proofs.YtlbkfnofnlioaaaDoor.PGlob
