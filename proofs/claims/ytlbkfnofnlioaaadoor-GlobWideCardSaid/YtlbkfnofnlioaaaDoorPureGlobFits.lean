/- GlobFits, plainly: whatever the pattern and the path, the law's function answers true. -/
import Derived.Test.YtlbkfnofnlioaaaDoorGlobA
import Derived.Test.YtlbkfnofnlioaaaDoorPGlobx5
namespace Go.Proofs.YtlbkfnofnlioaaaDoor.PGlob
open Go.RowKit Go.Proofs.YtlbkfnofnlioaaaDoorW.PrintWords Go.Proofs.YtlbkfnofnlioaaaDoorW.PrintLast Go.Proofs.YtlbkfnofnlioaaaDoorW.PrintMore
/-! ### E. The laws -/
theorem awake_f (K : Nat) (hK : 100 ≤ K) : montagelaw37_awake.f K = some true := by
  unfold montagelaw37_awake.f
  rw [fits_f _ _ (by decide) (by decide), Option.bind_some, if_pos (by decide +kernel), fits_f _ _ (by decide) (by decide), Option.bind_some, if_pos (by decide +kernel),
    fits_f _ _ (by decide) (by decide), Option.bind_some, if_neg (by decide +kernel), check_f _ (by decide) K (by show 5 + 38 ≤ K; omega), Option.bind_some, if_pos (by decide +kernel),
    check_f _ (by decide) K (by show 1 + 38 ≤ K; omega), Option.bind_some, if_pos (by decide +kernel), part_f _ _ (by decide) (by decide) K (by show 3 + 1 < K; omega), Option.bind_some, if_pos (by decide +kernel)]
  unfold glob_Quote.f
  rw [if_pos (by decide), Option.bind_some, Lib.toList_data]
  rfl
theorem GlobFits_pure : montagelaw37_GlobFits.Pure := by
  intro a b _ _
  refine ⟨201, ?_⟩
  unfold montagelaw37_GlobFits.f
  rw [awake_f 201 (by decide), Option.bind_some, if_pos rfl]
  by_cases h1 : (a.size : Int) > 60
  · rw [if_pos h1, montagelaw37_GlobFits.j0, if_pos rfl]
  · rw [if_neg h1, montagelaw37_GlobFits.j0]
    by_cases h2 : (b.size : Int) > 60
    · rw [if_pos (decide_eq_true h2)]
    · rw [if_neg (by rw [decide_eq_false h2]; decide)]
      have ha : a.size ≤ 100000 := by omega
      have hb : b.size ≤ 100000 := by omega
      rw [check_f a ha 200 (by omega), Option.bind_some, right_f a ha 200 (by omega), Option.bind_some, Option.bind_some]
      have e1 : (((if rightL a.data.toList = true then (0 : Int) else 2) == 0) == rightL a.data.toList) = true := by cases rightL a.data.toList <;> rfl
      have e2 : (((if rightL a.data.toList = true then (0 : Int) else 2) == 2) != rightL a.data.toList) = true := by cases rightL a.data.toList <;> rfl
      rw [if_pos e1, if_pos e2, fits_f a b ha hb, Option.bind_some, reffits_f a b ha hb, Option.bind_some, if_pos (by simp), part_f a b ha hb 200 (by omega), Option.bind_some, refpart_f a b ha hb 200 (by omega), Option.bind_some]
      simp
end Go.Proofs.YtlbkfnofnlioaaaDoor.PGlob
