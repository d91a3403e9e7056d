import Derived.Test.YtodeagijmfoojaaDoorCC
namespace Go.Proofs.YtodeagijmfoojaaDoor.PClock
open Go.RowKit Go.Proofs.YtodeagijmfoojaaDoorW.PrintWords Go.Proofs.YtodeagijmfoojaaDoorW.PrintLast Go.Proofs.YtodeagijmfoojaaDoorW.PrintMore
/-! ### E. At -/
/-- The time of the day, plainly. -/
def atV (y m d rest : Int) : Int × Int × Int × Int × Int × Int × Int := (y, m, d, rest / 3600, rest / 60 % 60, rest % 60 / 2 * 2, 0)
theorem clear1 : ∀ i : Fin 60, Go.bits .andNot .i64 (i.val : Int) 1 = (i.val : Int) / 2 * 2 := by decide +kernel
theorem rest_prog (rest : Int) (h0 : 0 ≤ rest) (h1 : rest < 86400) : wrap64 (Int.tdiv rest 3600) = rest / 3600 ∧ Int.tmod (wrap64 (Int.tdiv rest 60)) 60 = rest / 60 % 60 ∧ Int.tmod rest 60 = rest % 60 := by
  have e1 : Int.tdiv rest 3600 = rest / 3600 := Int.tdiv_eq_ediv_of_nonneg h0
  have e2 : Int.tdiv rest 60 = rest / 60 := Int.tdiv_eq_ediv_of_nonneg h0
  have e3 : Int.tmod rest 60 = rest % 60 := Int.tmod_eq_emod_of_nonneg h0
  rw [e1, e2, e3, wid2 (rest / 3600) (by omega) (by omega), wid2 (rest / 60) (by omega) (by omega)]
  exact ⟨rfl, Int.tmod_eq_emod_of_nonneg (by omega), rfl⟩
theorem at_g (y m d rest : Int) (h0 : 0 ≤ rest) (h1 : rest < 86400) : clock_At.g (y, m, d, 0, 0, 0) rest = atV y m d rest := by
  have hr := rest_prog rest h0 h1
  unfold clock_At.g atV
  simp only []
  rw [hr.1, hr.2.1, hr.2.2]
  have hc := clear1 ⟨(rest % 60).toNat, by omega⟩
  simp only [] at hc
  rw [show ((rest % 60).toNat : Int) = rest % 60 by omega] at hc
  rw [hc]
theorem q_of (n : Int) (h : 0 ≤ n) (h2 : n ≤ 9223372036854775807) : wrap64 (Int.tdiv n 86400) = n / 86400 ∧ Int.tmod n 86400 = n % 86400 := by
  have e1 : Int.tdiv n 86400 = n / 86400 := Int.tdiv_eq_ediv_of_nonneg h
  have e3 : Int.tmod n 86400 = n % 86400 := Int.tmod_eq_emod_of_nonneg h
  rw [e1, e3]
  exact ⟨wid _ (by omega) (by omega), rfl⟩
theorem at_out (K : Nat) (n : Int) (h2 : n ≤ 9223372036854775807) (hn : n < 0 ∨ 46751 ≤ n / 86400) : clock_At.f K n = some (0, 0, 0, 0, 0, 0, 7) := by
  unfold clock_At.f
  by_cases h : n < 0
  · rw [if_pos h]
  · rw [if_neg h, ahead_of 2108 (by omega) (by omega), Option.bind_some, ahd_last, (q_of n (by omega) h2).1, if_pos (by omega)]
theorem at_in (K : Nat) (hK : 200 < K) (n : Int) (h0 : 0 ≤ n) (hn : n / 86400 < 46751) : ∃ y m d, clock_At.f K n = some (atV y m d (n % 86400)) ∧ IsDay (n / 86400) y m d := by
  obtain ⟨y, m, d, hd, o⟩ := day_f K hK (n / 86400) (by omega) hn
  refine ⟨y, m, d, ?_, o⟩
  unfold clock_At.f
  have hq := q_of n (by omega) (by omega)
  rw [if_neg (by omega), ahead_of 2108 (by omega) (by omega), Option.bind_some, ahd_last, hq.1, hq.2, if_neg (by omega), hd, Option.bind_some]
  rw [at_g _ _ _ _ (by omega) (by omega)]
end Go.Proofs.YtodeagijmfoojaaDoor.PClock
