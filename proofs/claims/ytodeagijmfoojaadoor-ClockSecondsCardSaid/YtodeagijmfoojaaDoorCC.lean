import Derived.Test.YtodeagijmfoojaaDoorCB
import Derived.Test.YtodeagijmfoojaaDoorPClockx8
namespace Go.Proofs.YtodeagijmfoojaaDoor.PClock
set_option linter.unusedVariables false
open Go.RowKit Go.Proofs.YtodeagijmfoojaaDoorW.PrintWords Go.Proofs.YtodeagijmfoojaaDoorW.PrintLast Go.Proofs.YtodeagijmfoojaaDoorW.PrintMore
/-! ### D. The day of a number -/
structure IsDay (n y m d : Int) : Prop where
  y1 : 1980 ≤ y
  y2 : y ≤ 2107
  m1 : 1 ≤ m
  m2 : m ≤ 12
  d1 : 1 ≤ d
  d2 : d ≤ dim y m
  no : dayNo y m d = n
theorem ahd_last : ahd 2108 = 46751 := by decide
theorem ahd_mono (a : Int) (h1 : 1980 ≤ a) : ∀ (i : Nat), a + (i : Int) ≤ 2108 → ahd a ≤ ahd (a + (i : Int)) := by
  intro i
  induction i with
  | zero => intro _; rw [show a + ((0 : Nat) : Int) = a by omega]; exact Int.le_refl _
  | succ i ih =>
    intro h
    have h2 := ih (by omega)
    have h3 := year_step (a + (i : Int)) (by omega) (by omega)
    have h4 := (mon_le (a + (i : Int)) 12).1
    rw [show a + ((i + 1 : Nat) : Int) = a + (i : Int) + 1 by omega, h3]
    revert h2 h4
    generalize ahd a = A; generalize ahd (a + (i : Int)) = B; generalize mon (a + (i : Int)) 12 = C
    intro h2 h4; omega
theorem ahd_mono' (a b : Int) (h1 : 1980 ≤ a) (h : a ≤ b) (h2 : b ≤ 2108) : ahd a ≤ ahd b := by
  have := ahd_mono a h1 (b - a).toNat (by omega)
  rw [show a + ((b - a).toNat : Int) = b by omega] at this
  exact this
theorem mon_pred (y m : Int) (h1 : 1 ≤ m) : mon y (m - 1).toNat + dim y m = mon y m.toNat := by
  obtain ⟨j, rfl⟩ : ∃ j : Nat, m = (j : Int) + 1 := ⟨(m - 1).toNat, by omega⟩
  rw [show ((j : Int) + 1 - 1).toNat = j by omega, show ((j : Int) + 1).toNat = j + 1 by omega]
  rfl
theorem day_bounds {n y m d : Int} (o : IsDay n y m d) : ahd y ≤ n ∧ n < ahd y + mon y m.toNat ∧ mon y m.toNat ≤ mon y 12 := by
  have h1 := mon_pred y m o.m1
  have h2 := o.no
  have h3 := (mon_le y (m - 1).toNat).1
  have h4 := mon_mono y m.toNat 12 (by have := o.m2; omega)
  have h5 := o.d1
  have h6 := o.d2
  unfold dayNo at h2
  revert h1 h2 h3 h4 h6
  generalize mon y (m - 1).toNat = A; generalize mon y m.toNat = B; generalize mon y 12 = C; generalize ahd y = D; generalize dim y m = E
  intro h1 h2 h3 h4 h6
  omega
theorem day_lt {n y m d n' y' m' d' : Int} (o : IsDay n y m d) (o' : IsDay n' y' m' d') (h : y < y' ∨ (y = y' ∧ (m < m' ∨ (m = m' ∧ d < d')))) : n < n' := by
  rcases h with h | ⟨rfl, h | ⟨rfl, h⟩⟩
  · have h1 := day_bounds o
    have h2 := day_bounds o'
    have h3 := year_step y o.y1 o.y2
    have h4 := ahd_mono' (y + 1) y' (by have := o.y1; omega) (by omega) (by have := o'.y2; omega)
    rw [h3] at h4
    revert h1 h2 h4
    generalize mon y m.toNat = A; generalize mon y 12 = B; generalize ahd y = C; generalize ahd y' = D; generalize mon y' m'.toNat = E; generalize mon y' 12 = F
    intro h1 h2 h4; omega
  · have h1 := mon_pred y m o.m1
    have h2 := o.no
    have h2' := o'.no
    have h3 := mon_mono y m.toNat (m' - 1).toNat (by have := o.m1; omega)
    have h4 := o.d2
    have h5 := o'.d1
    unfold dayNo at h2 h2'
    revert h1 h2 h2' h3 h4
    generalize mon y (m - 1).toNat = A; generalize mon y m.toNat = B; generalize mon y (m' - 1).toNat = C; generalize ahd y = D; generalize dim y m = E
    intro h1 h2 h2' h3 h4; omega
  · have h2 := o.no
    have h2' := o'.no
    unfold dayNo at h2 h2'
    revert h2 h2'
    generalize mon y (m - 1).toNat = A; generalize ahd y = D
    intro h2 h2'; omega
theorem day_unique {n y m d y' m' d' : Int} (o : IsDay n y m d) (o' : IsDay n y' m' d') : y = y' ∧ m = m' ∧ d = d' := by
  have h1 : ¬ (y < y' ∨ (y = y' ∧ (m < m' ∨ (m = m' ∧ d < d')))) := fun h => Int.lt_irrefl _ (day_lt o o' h)
  have h2 : ¬ (y' < y ∨ (y' = y ∧ (m' < m ∨ (m' = m ∧ d' < d)))) := fun h => Int.lt_irrefl _ (day_lt o' o h)
  omega
theorem ahd_366 : ∀ i : Fin 128, ahd (1980 + (i.val : Int)) ≤ 366 * (i.val : Int) := by decide +kernel
/-! the program's loops -/
theorem day_l1 (y n : Int) (hy1 : 1980 ≤ y) (hy2 : y ≤ 2107) (h0 : ahd y ≤ n) (hn : n < ahd y + mon y 12) (hn2 : n ≤ 46751) (K : Nat) : ∀ (j : Nat), mon y j ≤ n - ahd y → 12 - j < K →
    ∃ m d, clock_day.l1 K (n - ahd y - mon y j) y ((j : Int) + 1) = some (y, m, d, 0, 0, 0) ∧ IsDay n y m d := by
  induction K with
  | zero => intro j _ h; omega
  | succ K ih =>
    intro j hj hK
    have hj12 : j < 12 := by
      by_cases hc : 12 ≤ j
      · have := mon_mono y 12 j hc
        revert hn hj this; generalize mon y j = A; generalize mon y 12 = B; generalize ahd y = C
        intro hn hj this; omega
      · omega
    have hd := dim_le y ((j : Int) + 1)
    have hA := ahd_le y hy1 (by omega)
    have hM := mon_le y j
    rw [clock_day.l1, days_f _ _ K (by omega), Option.bind_some]
    by_cases hge : n - ahd y - mon y j ≥ dim y ((j : Int) + 1)
    · rw [if_pos hge, Option.bind_some, up_le j (by omega)]
      have hs : mon y (j + 1) = mon y j + dim y ((j : Int) + 1) := rfl
      have e : wrap64 (n - ahd y - mon y j - dim y ((j : Int) + 1)) = n - ahd y - mon y (j + 1) := by
        rw [hs]
        revert hd hA hM hge h0
        generalize dim y ((j : Int) + 1) = D; generalize ahd y = A; generalize mon y j = M
        intro hd hA hM hge h0
        rw [wid2 _ (by omega) (by omega)]
        omega
      rw [e]
      refine ih (j + 1) ?_ (by omega)
      rw [hs]
      revert hge
      generalize dim y ((j : Int) + 1) = D; generalize ahd y = A; generalize mon y j = M
      intro hge; omega
    · rw [if_neg hge]
      refine ⟨(j : Int) + 1, n - ahd y - mon y j + 1, ?_, ?_⟩
      · have e : wrap64 (n - ahd y - mon y j + 1) = n - ahd y - mon y j + 1 := by
          revert hd hA hM hge h0 hj
          generalize dim y ((j : Int) + 1) = D; generalize ahd y = A; generalize mon y j = M
          intro hd hA hM hge h0 hj
          exact wid2 _ (by omega) (by omega)
        rw [e]
      · refine ⟨hy1, hy2, by omega, by omega, ?_, ?_, ?_⟩
        · revert hj; generalize ahd y = A; generalize mon y j = M; intro hj; omega
        · revert hge; generalize dim y ((j : Int) + 1) = D; generalize ahd y = A; generalize mon y j = M; intro hge; omega
        · unfold dayNo
          rw [show ((j : Int) + 1 - 1).toNat = j by omega]
          generalize ahd y = A; generalize mon y j = M; omega
theorem day_l0 (n : Int) (hn : n < 46751) (h0n : 0 ≤ n) (i : Nat) : ∀ (y : Int) (K : Nat), y + (i : Int) = 2107 → 1980 ≤ y → ahd y ≤ n → i + 15 < K →
    ∃ y' m d, clock_day.l0 K n y = some (y', m, d, 0, 0, 0) ∧ IsDay n y' m d := by
  induction i with
  | zero =>
    intro y K hy h1 hle hK
    obtain ⟨K, rfl⟩ : ∃ k, K = k + 1 := ⟨K - 1, by omega⟩
    obtain rfl : y = 2107 := by omega
    have hs := year_step 2107 (by omega) (by omega)
    rw [clock_day.l0, show wrap64 (2107 + 1) = 2108 from wid2 _ (by omega) (by omega), ahead_of 2108 (by omega) (by omega), Option.bind_some, ahd_last, if_neg (by omega), ahead_of 2107 (by omega) (by omega), Option.bind_some]
    have e : wrap64 (n - ahd 2107) = n - ahd 2107 - mon 2107 0 := by
      have := ahd_le 2107 (by omega) (by omega)
      rw [show mon 2107 0 = 0 from rfl, Int.sub_zero]
      exact wid2 _ (by omega) (by omega)
    rw [e]
    rw [show (2107 : Int) + 1 = 2108 from rfl, ahd_last] at hs
    obtain ⟨m, d, h, o⟩ := day_l1 2107 n (by omega) (by omega) hle (by omega) (by omega) K 0 (by rw [show mon 2107 0 = 0 from rfl]; omega) (by omega)
    exact ⟨_, m, d, h, o⟩
  | succ i ih =>
    intro y K hy h1 hle hK
    obtain ⟨K, rfl⟩ : ∃ k, K = k + 1 := ⟨K - 1, by omega⟩
    have hs := year_step y (by omega) (by omega)
    have hA := ahd_le y (by omega) (by omega)
    rw [clock_day.l0, wid2 (y + 1) (by omega) (by omega), ahead_of (y + 1) (by omega) (by omega), Option.bind_some]
    by_cases hc : ahd (y + 1) ≤ n
    · rw [if_pos hc]
      exact ih (y + 1) K (by omega) (by omega) hc (by omega)
    · rw [if_neg hc, ahead_of y (by omega) (by omega), Option.bind_some]
      have e : wrap64 (n - ahd y) = n - ahd y - mon y 0 := by
        rw [show mon y 0 = 0 from rfl, Int.sub_zero]
        revert hA hle; generalize ahd y = A; intro hA hle
        exact wid2 _ (by omega) (by omega)
      rw [e]
      obtain ⟨m, d, h, o⟩ := day_l1 y n (by omega) (by omega) hle (by omega) (by omega) K 0 (by rw [show mon y 0 = 0 from rfl]; omega) (by omega)
      exact ⟨_, m, d, h, o⟩
theorem day_f (K : Nat) (hK : 200 < K) (n : Int) (h0 : 0 ≤ n) (hn : n < 46751) : ∃ y m d, clock_day.f K n = some (y, m, d, 0, 0, 0) ∧ IsDay n y m d := by
  unfold clock_day.f
  have e : Int.tdiv n 366 = n / 366 := Int.tdiv_eq_ediv_of_nonneg h0
  rw [e, wid2 (n / 366) (by omega) (by omega), wid2 (1980 + n / 366) (by omega) (by omega)]
  have ha := ahd_366 ⟨(n / 366).toNat, by omega⟩
  simp only [] at ha
  rw [show ((n / 366).toNat : Int) = n / 366 by omega] at ha
  refine day_l0 n hn h0 (127 - (n / 366).toNat) _ K (by omega) (by omega) ?_ (by omega)
  revert ha; generalize ahd (1980 + n / 366) = A; intro ha; omega
end Go.Proofs.YtodeagijmfoojaaDoor.PClock
