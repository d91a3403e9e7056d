import Derived.Test.YtodeagijmfoojaaDoorCA
import Derived.Test.YtodeagijmfoojaaDoorPClockx5
namespace Go.Proofs.YtodeagijmfoojaaDoor.PClock
open Go.RowKit Go.Proofs.YtodeagijmfoojaaDoorW.PrintWords Go.Proofs.YtodeagijmfoojaaDoorW.PrintLast Go.Proofs.YtodeagijmfoojaaDoorW.PrintMore
/-! ### C. The reference: days, May, Seconds -/
theorem rdays_f (y m : Int) (K : Nat) (hK : 0 < K) : montageref41_days.f K y m = some (dim y m) := by
  obtain ⟨k, rfl⟩ : ∃ k, K = k + 1 := ⟨K - 1, by omega⟩
  unfold montageref41_days.f dim leapB
  by_cases h2 : m = 2
  · rw [if_pos h2, if_pos h2]
    by_cases h4 : Int.tmod y 4 = 0
    · rw [if_pos h4, if_pos h4]
      by_cases h100 : Int.tmod y 100 = 0
      · rw [if_pos h100, if_pos h100, montageref41_days.j0]
        by_cases h400 : (Int.tmod y 400 == 0) = true
        · rw [if_pos h400, if_pos h400]
        · rw [if_neg h400, if_neg h400]
      · rw [if_neg h100, if_neg h100, montageref41_days.j0, if_pos rfl, if_pos rfl]
    · rw [if_neg h4, if_neg h4, montageref41_days.j0]
      by_cases h400 : (Int.tmod y 400 == 0) = true
      · rw [if_pos h400, if_pos h400]
      · rw [if_neg h400, if_neg h400]
  · rw [if_neg h2, if_neg h2]
    repeat' split
    all_goals rfl
theorem may_f (y m d h mi s : Int) (K : Nat) (hK : 0 < K) : montageref41_May.f K y m d h mi s = some (okD y m d h mi s) := by
  unfold montageref41_May.f
  by_cases hb : (y < 1980 ∨ 2107 < y ∨ m < 1 ∨ 12 < m) ∨ d < 1
  · rw [if_pos hb]
    congr 1
    symm
    rw [Bool.eq_false_iff]
    intro hc
    have o := (okD_iff _ _ _ _ _ _).1 hc
    have := o.y1; have := o.y2; have := o.m1; have := o.m2; have := o.d1
    omega
  · rw [if_neg hb, rdays_f _ _ K hK, Option.bind_some]
    congr 1
    unfold montageref41_May.dayOk okD
    have e1 : decide (1980 ≤ y) = true := decide_eq_true (by omega)
    have e2 : decide (y ≤ 2107) = true := decide_eq_true (by omega)
    have e3 : decide (1 ≤ m) = true := decide_eq_true (by omega)
    have e4 : decide (m ≤ 12) = true := decide_eq_true (by omega)
    have e5 : decide (1 ≤ d) = true := decide_eq_true (by omega)
    rw [e1, e2, e3, e4, e5]
    simp only [Bool.true_and]
theorem year_dec : ∀ i : Fin 128, ahd (1980 + (i.val : Int) + 1) = ahd (1980 + (i.val : Int)) + mon (1980 + (i.val : Int)) 12 := by decide +kernel
theorem year_step (y : Int) (h1 : 1980 ≤ y) (h2 : y ≤ 2107) : ahd (y + 1) = ahd y + mon y 12 := by
  have h := year_dec ⟨(y - 1980).toNat, by omega⟩
  simp only [] at h
  rw [show ((y - 1980).toNat : Int) = y - 1980 by omega, show 1980 + (y - 1980) = y by omega] at h
  exact h
theorem ahd_first : ahd 1980 = 0 := by decide
theorem rsecs_eq (n h mi s : Int) (hn : 0 ≤ n ∧ n ≤ 100000) (hh : 0 ≤ h ∧ h ≤ 23) (hmi : 0 ≤ mi ∧ mi ≤ 59) (hs : 0 ≤ s ∧ s ≤ 58) : wrap64 (wrap64 (wrap64 (wrap64 (86400 * n) + wrap64 (3600 * h)) + wrap64 (60 * mi)) + s) = n * 86400 + h * 3600 + mi * 60 + s := by
  rw [Int.mul_comm 86400, Int.mul_comm 3600, Int.mul_comm 60]
  exact secs_eq n h mi s hn hh hmi hs
theorem mon_mono (y : Int) (i j : Nat) (h : i ≤ j) : mon y i ≤ mon y j := by
  induction j with
  | zero => rw [show i = 0 by omega]; exact Int.le_refl _
  | succ j ih =>
    by_cases e : i = j + 1
    · rw [e]; exact Int.le_refl _
    · have h1 := ih (by omega)
      have h2 := dim_le y ((j : Int) + 1)
      rw [show mon y (j + 1) = mon y j + dim y ((j : Int) + 1) from rfl]
      revert h1 h2
      generalize mon y j = a; generalize mon y i = b; generalize dim y ((j : Int) + 1) = c
      intro h1 h2; omega
theorem rstep_le (M D : Int) (h1 : 0 ≤ M) (h2 : M ≤ 60000) (h5 : 28 ≤ D) (h6 : D ≤ 31) : wrap64 (M + D) = M + D := wid2 _ (by omega) (by omega)
/-- The rest of one year's months: below the last year. -/
theorem rsec_below (Y M d h mi s y : Int) (hy : y < Y) (K : Nat) : ∀ (j r : Nat) (n : Int), j + r = 12 → 0 ≤ n → n + 31 * (r : Int) ≤ 60000 → r < K →
    montageref41_Seconds.l1 K n y ((j : Int) + 1) Y M d h mi s = montageref41_Seconds.l0 (K - r - 1) (n + (mon y 12 - mon y j)) (wrap64 (y + 1)) Y M d h mi s := by
  induction K with
  | zero => intro j r n _ _ _ h; omega
  | succ K ih =>
    intro j r n hj h0 hn hK
    rw [montageref41_Seconds.l1]
    cases r with
    | zero =>
      have e : j = 12 := by omega
      subst e
      rw [if_neg (by decide), show mon y 12 - mon y 12 = 0 by omega, Int.add_zero]
      rfl
    | succ r =>
      have hd := dim_le y ((j : Int) + 1)
      rw [if_pos (by omega), if_pos hy, rdays_f _ _ K (by omega), Option.bind_some, rstep_le n _ h0 (by omega) hd.1 hd.2, up_le j (by omega)]
      rw [ih (j + 1) r _ (by omega) (by omega) (by omega) (by omega)]
      rw [show K + 1 - (r + 1) - 1 = K - r - 1 by omega]
      rw [show mon y (j + 1) = mon y j + dim y ((j : Int) + 1) from rfl]
      rw [show n + dim y ((j : Int) + 1) + (mon y 12 - (mon y j + dim y ((j : Int) + 1))) = n + (mon y 12 - mon y j) by
        generalize dim y ((j : Int) + 1) = D; generalize mon y 12 = A; generalize mon y j = B; omega]
/-- The last year: the months behind the date's add nothing. -/
theorem rsec_behind (Y M d h mi s : Int) (K : Nat) : ∀ (j r : Nat) (n : Int), j + r = 12 → M ≤ (j : Int) + 1 → r < K →
    montageref41_Seconds.l1 K n Y ((j : Int) + 1) Y M d h mi s = montageref41_Seconds.l0 (K - r - 1) n (wrap64 (Y + 1)) Y M d h mi s := by
  induction K with
  | zero => intro j r n _ _ h; omega
  | succ K ih =>
    intro j r n hj hM hK
    rw [montageref41_Seconds.l1]
    cases r with
    | zero =>
      have e : j = 12 := by omega
      subst e
      rw [if_neg (by decide)]
      rfl
    | succ r =>
      rw [if_pos (by omega), if_neg (by omega), if_neg (by omega), up_le j (by omega), ih (j + 1) r _ (by omega) (by omega) (by omega)]
      rw [show K + 1 - (r + 1) - 1 = K - r - 1 by omega]
theorem rsec_last (Y M d h mi s : Int) (hM : 1 ≤ M) (hM2 : M ≤ 12) (K : Nat) : ∀ (j r : Nat) (n : Int), j + r = 12 → (j : Int) + 1 ≤ M → 0 ≤ n → n + 31 * (r : Int) ≤ 60000 → r < K →
    montageref41_Seconds.l1 K n Y ((j : Int) + 1) Y M d h mi s = montageref41_Seconds.l0 (K - r - 1) (n + (mon Y (M - 1).toNat - mon Y j)) (wrap64 (Y + 1)) Y M d h mi s := by
  induction K with
  | zero => intro j r n _ _ _ _ h; omega
  | succ K ih =>
    intro j r n hj hjM h0 hn hK
    by_cases hlt : (j : Int) + 1 < M
    · obtain ⟨r, rfl⟩ : ∃ q, r = q + 1 := ⟨r - 1, by omega⟩
      rw [montageref41_Seconds.l1]
      have hd := dim_le Y ((j : Int) + 1)
      rw [if_pos (by omega), if_neg (by omega), if_pos hlt, rdays_f _ _ K (by omega), Option.bind_some, rstep_le n _ h0 (by omega) hd.1 hd.2, up_le j (by omega)]
      rw [ih (j + 1) r _ (by omega) (by omega) (by omega) (by omega) (by omega)]
      rw [show K + 1 - (r + 1) - 1 = K - r - 1 by omega]
      rw [show mon Y (j + 1) = mon Y j + dim Y ((j : Int) + 1) from rfl]
      rw [show n + dim Y ((j : Int) + 1) + (mon Y (M - 1).toNat - (mon Y j + dim Y ((j : Int) + 1))) = n + (mon Y (M - 1).toNat - mon Y j) by
        generalize dim Y ((j : Int) + 1) = D; generalize mon Y (M - 1).toNat = A; generalize mon Y j = B; omega]
    · have e : (M - 1).toNat = j := by omega
      rw [rsec_behind Y M d h mi s (K + 1) j r n hj (by omega) (by omega), e, show mon Y j - mon Y j = 0 by omega, Int.add_zero]
theorem rsec_l0 (Y M d h mi s : Int) (hY : Y ≤ 2107) (hM : 1 ≤ M) (hM2 : M ≤ 12) (hh : 0 ≤ h ∧ h ≤ 23) (hmi : 0 ≤ mi ∧ mi ≤ 59) (hs : 0 ≤ s ∧ s ≤ 58) (b : Int) (hb : 0 ≤ b) (hb2 : b ≤ 31) : ∀ (i : Nat) (y : Int) (K : Nat), y + (i : Int) = Y → 1980 ≤ y → 14 * i + 15 < K →
    montageref41_Seconds.l0 K (b + ahd y) y Y M d h mi s = some ((b + ahd Y + mon Y (M - 1).toNat) * 86400 + h * 3600 + mi * 60 + s) := by
  intro i
  induction i with
  | zero =>
    intro y K hy h1 hK
    obtain rfl : y = Y := by omega
    obtain ⟨K, rfl⟩ : ∃ k, K = k + 1 := ⟨K - 1, by omega⟩
    rw [montageref41_Seconds.l0, if_pos (Int.le_refl _)]
    have ha := ahd_le y h1 (by omega)
    have hl := rsec_last y M d h mi s hM hM2 K 0 12 (b + ahd y) rfl (by omega) (by omega) (by omega) (by omega)
    rw [show ((0 : Nat) : Int) + 1 = 1 from rfl] at hl
    rw [hl, show mon y 0 = 0 from rfl, Int.sub_zero]
    obtain ⟨k, hk⟩ : ∃ k, K - 12 - 1 = k + 1 := ⟨K - 14, by omega⟩
    rw [hk, montageref41_Seconds.l0, wid2 (y + 1) (by omega) (by omega), if_neg (by omega)]
    have hm := mon_le y (M - 1).toNat
    have hb3 : 0 ≤ b + ahd y + mon y (M - 1).toNat ∧ b + ahd y + mon y (M - 1).toNat ≤ 100000 := by
      have : (M - 1).toNat ≤ 11 := by omega
      revert hm ha this
      generalize mon y (M - 1).toNat = A; generalize ahd y = B; generalize (M - 1).toNat = j
      intro hm ha hj
      omega
    rw [rsecs_eq _ _ _ _ hb3 hh hmi hs]
  | succ i ih =>
    intro y K hy h1 hK
    obtain ⟨K, rfl⟩ : ∃ k, K = k + 1 := ⟨K - 1, by omega⟩
    rw [montageref41_Seconds.l0, if_pos (by omega)]
    have ha := ahd_le y h1 (by omega)
    have hl := rsec_below Y M d h mi s y (by omega) K 0 12 (b + ahd y) rfl (by omega) (by omega) (by omega)
    rw [show ((0 : Nat) : Int) + 1 = 1 from rfl] at hl
    rw [hl, show mon y 0 = 0 from rfl, Int.sub_zero, wid2 (y + 1) (by omega) (by omega), Int.add_assoc, ← year_step y h1 (by omega)]
    exact ih (y + 1) _ (by omega) (by omega) (by omega)
theorem rseconds_f (K : Nat) (hK : 2000 < K) (y m d h mi s : Int) (hok : okD y m d h mi s = true) : montageref41_Seconds.f K y m d h mi s = some (secD y m d h mi s) := by
  unfold montageref41_Seconds.f
  have o := (okD_iff _ _ _ _ _ _).1 hok
  have hd := dim_le y m
  have o1 := o.y1; have o2 := o.y2; have o3 := o.d1; have o4 := o.d2
  have hl := rsec_l0 y m d h mi s o.y2 o.m1 o.m2 ⟨o.h1, o.h2⟩ ⟨o.i1, o.i2⟩ ⟨o.s1, o.s2⟩ (d - 1) (by omega) (by omega) (y - 1980).toNat 1980 K (by omega) (by omega) (by omega)
  rw [ahd_first, Int.add_zero] at hl
  rw [wid (d - 1) (by omega) (by omega), hl]
  unfold secD dayNo
  generalize mon y (m - 1).toNat = A; generalize ahd y = B
  rw [show d - 1 + B + A = B + A + d - 1 by omega]
end Go.Proofs.YtodeagijmfoojaaDoor.PClock
