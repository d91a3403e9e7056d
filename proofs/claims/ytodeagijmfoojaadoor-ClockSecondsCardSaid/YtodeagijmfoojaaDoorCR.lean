import Derived.Test.YtodeagijmfoojaaDoorCD
import Derived.Test.YtodeagijmfoojaaDoorPClockx7
namespace Go.Proofs.YtodeagijmfoojaaDoor.PClock
set_option linter.unusedVariables false
open Go.RowKit Go.Proofs.YtodeagijmfoojaaDoorW.PrintWords Go.Proofs.YtodeagijmfoojaaDoorW.PrintLast Go.Proofs.YtodeagijmfoojaaDoorW.PrintMore
/-! the reference's -/
theorem rat_g (y m d rest : Int) (h0 : 0 ≤ rest) (h1 : rest < 86400) : (y, m, d, wrap64 (Int.tdiv rest 3600), Int.tmod (wrap64 (Int.tdiv rest 60)) 60, wrap64 ((wrap64 (Int.tdiv (Int.tmod rest 60) 2)) * 2), (0 : Int)) = atV y m d rest := by
  have hr := rest_prog rest h0 h1
  unfold atV
  rw [hr.1, hr.2.1, hr.2.2]
  have e1 : Int.tdiv (rest % 60) 2 = rest % 60 / 2 := Int.tdiv_eq_ediv_of_nonneg (by omega)
  rw [e1, wid2 (rest % 60 / 2) (by omega) (by omega), wid2 (rest % 60 / 2 * 2) (by omega) (by omega)]
theorem rat_l1 (y n rest : Int) (hr0 : 0 ≤ rest) (hr1 : rest < 86400) (hy1 : 1980 ≤ y) (hy2 : y ≤ 2107) (h0 : ahd y ≤ n) (hn2 : n ≤ 110000000000000 ) (K : Nat) : ∀ (j r : Nat), j + r = 12 → mon y j ≤ n - ahd y → r < K →
    (∃ m d, montageref41_At.l1 K rest (n - ahd y - mon y j) y ((j : Int) + 1) = some (atV y m d rest) ∧ IsDay n y m d) ∨
    (mon y 12 ≤ n - ahd y ∧ montageref41_At.l1 K rest (n - ahd y - mon y j) y ((j : Int) + 1) = montageref41_At.l0 (K - r - 1) rest (n - ahd y - mon y 12) (wrap64 (y + 1))) := by
  induction K with
  | zero => intro j r _ _ h; omega
  | succ K ih =>
    intro j r hr hj hK
    have hd := dim_le y ((j : Int) + 1)
    have hA := ahd_le y hy1 (by omega)
    have hM := mon_le y j
    rw [montageref41_At.l1]
    cases r with
    | zero =>
      obtain rfl : j = 12 := by omega
      refine Or.inr ⟨hj, ?_⟩
      rw [if_neg (by decide)]
      rfl
    | succ r =>
      rw [if_pos (by omega), rdays_f _ _ K (by omega), Option.bind_some]
      by_cases hge : n - ahd y - mon y j < dim y ((j : Int) + 1)
      · rw [if_pos hge]
        refine Or.inl ⟨(j : Int) + 1, n - ahd y - mon y j + 1, ?_, ?_⟩
        · have e : wrap64 (n - ahd y - mon y j + 1) = n - ahd y - mon y j + 1 := by
            revert hd hA hM hge h0 hj
            generalize dim y ((j : Int) + 1) = D; generalize ahd y = A; generalize mon y j = M
            intro hd hA hM hge h0 hj
            exact wid2 _ (by omega) (by omega)
          rw [e, rat_g _ _ _ _ hr0 hr1]
        · refine ⟨hy1, hy2, by omega, by omega, ?_, ?_, ?_⟩
          · revert hj; generalize ahd y = A; generalize mon y j = M; intro hj; omega
          · revert hge; generalize dim y ((j : Int) + 1) = D; generalize ahd y = A; generalize mon y j = M; intro hge; omega
          · unfold dayNo
            rw [show ((j : Int) + 1 - 1).toNat = j by omega]
            generalize ahd y = A; generalize mon y j = M; omega
      · rw [if_neg hge, Option.bind_some, up_le j (by omega)]
        have hs : mon y (j + 1) = mon y j + dim y ((j : Int) + 1) := rfl
        have e : wrap64 (n - ahd y - mon y j - dim y ((j : Int) + 1)) = n - ahd y - mon y (j + 1) := by
          rw [hs]
          revert hd hA hM hge h0
          generalize dim y ((j : Int) + 1) = D; generalize ahd y = A; generalize mon y j = M
          intro hd hA hM hge h0
          rw [wid _ (by omega) (by omega)]
          omega
        rw [e]
        have hj2 : mon y (j + 1) ≤ n - ahd y := by
          rw [hs]
          revert hge
          generalize dim y ((j : Int) + 1) = D; generalize ahd y = A; generalize mon y j = M
          intro hge; omega
        rw [show K + 1 - (r + 1) - 1 = K - r - 1 by omega]
        exact ih (j + 1) r (by omega) hj2 (by omega)
theorem rat_l0 (n rest : Int) (hr0 : 0 ≤ rest) (hr1 : rest < 86400) (hn2 : n ≤ 110000000000000) (i : Nat) : ∀ (y : Int) (K : Nat), y + (i : Int) = 2108 → 1980 ≤ y → ahd y ≤ n → 14 * i + 2 < K →
    (∃ y' m d, montageref41_At.l0 K rest (n - ahd y) y = some (atV y' m d rest) ∧ IsDay n y' m d) ∨ (46751 ≤ n ∧ montageref41_At.l0 K rest (n - ahd y) y = some (0, 0, 0, 0, 0, 0, 7)) := by
  induction i with
  | zero =>
    intro y K hy h1 hle hK
    obtain ⟨K, rfl⟩ : ∃ k, K = k + 1 := ⟨K - 1, by omega⟩
    obtain rfl : y = 2108 := by omega
    rw [ahd_last] at hle
    refine Or.inr ⟨hle, ?_⟩
    rw [montageref41_At.l0, if_neg (by decide)]
  | succ i ih =>
    intro y K hy h1 hle hK
    obtain ⟨K, rfl⟩ : ∃ k, K = k + 1 := ⟨K - 1, by omega⟩
    rw [montageref41_At.l0, if_pos (by omega)]
    have hl := rat_l1 y n rest hr0 hr1 h1 (by omega) hle hn2 K 0 12 rfl (by rw [show mon y 0 = 0 from rfl]; revert hle; generalize ahd y = A; intro hle; omega) (by omega)
    rw [show ((0 : Nat) : Int) + 1 = 1 from rfl, show mon y 0 = 0 from rfl, Int.sub_zero] at hl
    rcases hl with ⟨m, d, h, o⟩ | ⟨hm, h⟩
    · exact Or.inl ⟨y, m, d, h, o⟩
    · have hs := year_step y h1 (by omega)
      have e : n - ahd y - mon y 12 = n - ahd (y + 1) := by
        rw [hs]; generalize ahd y = A; generalize mon y 12 = M; omega
      rw [h, e, wid2 (y + 1) (by omega) (by omega)]
      refine ih (y + 1) _ (by omega) (by omega) ?_ (by omega)
      rw [hs]
      revert hm; generalize ahd y = A; generalize mon y 12 = M; intro hm; omega
/-- The two agree. -/
theorem at_eq (K : Nat) (hK : 2000 < K) (n : Int) (h1 : n ≤ 9223372036854775807) : montageref41_At.f K n = clock_At.f K n := by
  unfold montageref41_At.f
  by_cases h : n < 0
  · rw [if_pos h, at_out K n h1 (Or.inl h)]
  · rw [if_neg h, (q_of n (by omega) h1).1, (q_of n (by omega) h1).2]
    have hl := rat_l0 (n / 86400) (n % 86400) (by omega) (by omega) (by omega) 128 1980 K (by omega) (by omega) (by rw [ahd_first]; omega) (by omega)
    rw [ahd_first, Int.sub_zero] at hl
    rcases hl with ⟨y, m, d, h2, o⟩ | ⟨h3, h2⟩
    · have hb := day_bounds o
      have hy := ahd_mono' (y + 1) 2108 (by have := o.y1; omega) (by have := o.y2; omega) (by omega)
      rw [year_step y o.y1 o.y2, ahd_last] at hy
      have hlt : n / 86400 < 46751 := by
        revert hb hy; generalize ahd y = A; generalize mon y 12 = M; generalize mon y m.toNat = Q; intro hb hy; omega
      obtain ⟨y', m', d', h4, o'⟩ := at_in K (by omega) n (by omega) hlt
      obtain ⟨rfl, rfl, rfl⟩ := day_unique o o'
      rw [h2, h4]
    · rw [h2, at_out K n h1 (Or.inr h3)]
end Go.Proofs.YtodeagijmfoojaaDoor.PClock
