/- ClockTimes, plainly: whatever the number, the law's function answers true. -/
import Derived.Test.YtodeagijmfoojaaDoorCD
import Derived.Test.YtodeagijmfoojaaDoorCK
import Derived.Test.YtodeagijmfoojaaDoorPClockx10
namespace Go.Proofs.YtodeagijmfoojaaDoor.PClock
set_option linter.unusedVariables false
open Go.RowKit Go.Proofs.YtodeagijmfoojaaDoorW.PrintWords Go.Proofs.YtodeagijmfoojaaDoorW.PrintLast Go.Proofs.YtodeagijmfoojaaDoorW.PrintMore
theorem isDay_of {y m d h mi s : Int} (o : OkD y m d h mi s) : IsDay (dayNo y m d) y m d := ⟨o.y1, o.y2, o.m1, o.m2, o.d1, o.d2, rfl⟩
theorem day_range {n y m d : Int} (o : IsDay n y m d) : 0 ≤ n ∧ n < 46751 := by
  have hb := day_bounds o
  have hy := ahd_mono' (y + 1) 2108 (by have := o.y1; omega) (by have := o.y2; omega) (by omega)
  have ha := ahd_le y o.y1 (by have := o.y2; omega)
  rw [year_step y o.y1 o.y2, ahd_last] at hy
  revert hb hy ha
  generalize ahd y = A; generalize mon y 12 = M; generalize mon y m.toNat = Q
  intro hb hy ha
  omega
theorem rest_of (h mi s e : Int) (h1 : 0 ≤ h) (h2 : h ≤ 23) (i1 : 0 ≤ mi) (i2 : mi ≤ 59) (s1 : 0 ≤ s) (s2 : s ≤ 58) (s3 : s % 2 = 0) (e0 : 0 ≤ e) (e1 : e ≤ 1) :
    (h * 3600 + mi * 60 + s + e) / 3600 = h ∧ (h * 3600 + mi * 60 + s + e) / 60 % 60 = mi ∧ (h * 3600 + mi * 60 + s + e) % 60 / 2 * 2 = s ∧ 0 ≤ h * 3600 + mi * 60 + s + e ∧ h * 3600 + mi * 60 + s + e < 86400 := by omega
theorem split_day (D r : Int) (h0 : 0 ≤ r) (h1 : r < 86400) : (D * 86400 + r) / 86400 = D ∧ (D * 86400 + r) % 86400 = r := by omega
theorem at_sec (K : Nat) (hK : 200 < K) (y m d h mi s e : Int) (o : OkD y m d h mi s) (e0 : 0 ≤ e) (e1 : e ≤ 1) : clock_At.f K (secD y m d h mi s + e) = some (y, m, d, h, mi, s, 0) := by
  have od := isDay_of o
  have hr := day_range od
  have s3 : s % 2 = 0 := by rw [← Int.tmod_eq_emod_of_nonneg o.s1]; exact o.s3
  obtain ⟨r1, r2, r3, r4, r5⟩ := rest_of h mi s e o.h1 o.h2 o.i1 o.i2 o.s1 o.s2 s3 e0 e1
  unfold secD
  revert od hr
  generalize dayNo y m d = D
  intro od hr
  rw [show D * 86400 + h * 3600 + mi * 60 + s + e = D * 86400 + (h * 3600 + mi * 60 + s + e) by omega]
  revert r1 r2 r3 r4 r5
  generalize h * 3600 + mi * 60 + s + e = r
  intro r1 r2 r3 r4 r5
  obtain ⟨q1, q2⟩ := split_day D r r4 r5
  obtain ⟨y', m', d', ha, o'⟩ := at_in K hK (D * 86400 + r) (by omega) (by omega)
  rw [q1] at o'
  obtain ⟨rfl, rfl, rfl⟩ := day_unique od o'
  rw [ha, q2]
  unfold atV
  rw [r1, r2, r3]
theorem sec_range {y m d h mi s : Int} (o : OkD y m d h mi s) : 0 ≤ secD y m d h mi s ∧ secD y m d h mi s ≤ 5000000000 := by
  have hr := day_range (isDay_of o)
  obtain ⟨y1, y2, m1, m2, d1, d2, h1, h2, i1, i2, s1, s2, s3⟩ := o
  unfold secD
  revert hr
  generalize dayNo y m d = D
  intro hr
  clear d2
  omega
theorem put_of (n : Int) (h0 : 0 ≤ n) (h1 : n ≤ 4294967295) : putV (1980 + n / 33554432) (n / 2097152 % 16) (n / 65536 % 32) (n / 2048 % 32) (n / 32 % 64) (n % 32 * 2) = n := by
  unfold putV
  omega
theorem times_f (K : Nat) (hK : 5000 < K) (n : Int) : montagelaw41_ClockTimes.f K n = some true := by
  unfold montagelaw41_ClockTimes.f
  rw [awake_f K (by omega), Option.bind_some, if_pos rfl, of_f K (by omega), rof_f K (by omega)]
  simp only [Option.bind_some, beq_self_eq_true, Bool.not_true, Bool.or_self, Bool.false_eq_true, if_false, bne_self_eq_false]
  obtain ⟨k, rfl⟩ : ∃ k, K = k + 1 := ⟨K - 1, by omega⟩
  rw [montagelaw41_ClockTimes.j0, if_neg (by decide)]
  by_cases hc : 0 ≤ n ∧ n ≤ 4294967295 ∧ okV (ofV n) = true
  · rw [show ofR n = (1980 + n / 33554432, n / 2097152 % 16, n / 65536 % 32, n / 2048 % 32, n / 32 % 64, n % 32 * 2, true) from if_pos hc]
    have hok : okD (1980 + n / 33554432) (n / 2097152 % 16) (n / 65536 % 32) (n / 2048 % 32) (n / 32 % 64) (n % 32 * 2) = true := hc.2.2
    have hp := put_of n hc.1 hc.2.1
    simp only []
    revert hok hp
    generalize 1980 + n / 33554432 = y; generalize n / 2097152 % 16 = m; generalize n / 65536 % 32 = d; generalize n / 2048 % 32 = h; generalize n / 32 % 64 = mi; generalize n % 32 * 2 = s
    intro hok hp
    have o := (okD_iff _ _ _ _ _ _).1 hok
    have hs := sec_range o
    have a1 := at_sec k (by omega) y m d h mi s 0 o (by omega) (by omega)
    have a2 := at_sec k (by omega) y m d h mi s 1 o (by omega) (by omega)
    rw [Int.add_zero] at a1
    rw [if_pos trivial, put_f k (by omega), seconds_f k (by omega), text_f k (by omega), hok, if_pos rfl, if_pos rfl, if_pos rfl]
    simp only [Option.bind_some]
    rw [wid2 (secD y m d h mi s + 1) (by omega) (by omega), a1, a2, parse_txt k (by omega) _ _ _ _ _ _ hok, rseconds_f k (by omega) _ _ _ _ _ _ hok, rtext_f k (by omega) _ _ _ _ _ _ hok, hp]
    simp only [Option.bind_some, beq_self_eq_true, Bool.and_self, if_true]
  · rw [show ofR n = (0, 0, 0, 0, 0, 0, false) from if_neg hc]
    simp only []
    rw [if_neg (by decide)]
theorem ClockTimes : montagelaw41_ClockTimes.Pure := fun n _ => ⟨5001, times_f 5001 (by omega) n⟩
end Go.Proofs.YtodeagijmfoojaaDoor.PClock
