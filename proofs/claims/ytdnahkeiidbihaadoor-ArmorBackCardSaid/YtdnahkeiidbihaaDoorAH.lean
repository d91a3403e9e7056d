/- ArmorSigns, plainly: whatever the texts, the law's function answers true. -/
import Derived.Test.YtdnahkeiidbihaaDoorAG
namespace Go.Proofs.YtdnahkeiidbihaaDoor.PArmor
set_option linter.unusedVariables false
set_option linter.unusedSimpArgs false
open Go.RowKit Go.Proofs.YtdnahkeiidbihaaDoorW.PrintWords Go.Proofs.YtdnahkeiidbihaaDoorW.PrintLast Go.Proofs.YtdnahkeiidbihaaDoorW.PrintMore
theorem awake_c : montagelaw42_awake.f 60 = some true := by decide +kernel
theorem awake_f (K : Nat) (hK : 60 ≤ K) : montagelaw42_awake.f K = some true := at_rounds montagelaw42_awake.mono hK awake_c
theorem ArmorSigns : montagelaw42_ArmorSigns.Pure := by
  intro s t _ _
  have hj : ∃ k, 60 ≤ k ∧ (s.size ≤ 200 → t.size ≤ 200 → montageref42_Bytes.f k t = armor_Bytes.f t) := by
    by_cases ht : t.size ≤ 200
    · by_cases hb : ∃ b, sB b = t.data.toList
      · obtain ⟨b, hb⟩ := hb
        obtain ⟨k, hk⟩ := rbytes_ok t (by omega) b hb.symm
        exact ⟨max k 60, by omega, fun _ _ => (hk _ (by omega)).trans (bytes_ok t b hb.symm (by omega)).symm⟩
      · have hb2 : ∀ b, sB b ≠ t.data.toList := fun b h => hb ⟨b, h⟩
        obtain ⟨k, hk⟩ := rbytes_bad t (by omega) hb2
        exact ⟨max k 60, by omega, fun _ _ => (hk _ (by omega)).trans (bytes_bad t hb2 (by omega)).symm⟩
    · exact ⟨60, by omega, fun _ h => absurd h ht⟩
  obtain ⟨k, hk60, hk⟩ := hj
  have hres : ∃ v, armor_Bytes.f t = some v ∨ ¬ t.size ≤ 200 := by
    by_cases ht : t.size ≤ 200
    · by_cases hb : ∃ b, sB b = t.data.toList
      · obtain ⟨b, hb⟩ := hb
        exact ⟨_, Or.inl (bytes_ok t b hb.symm (by omega))⟩
      · exact ⟨_, Or.inl (bytes_bad t (fun b h => hb ⟨b, h⟩) (by omega))⟩
    · exact ⟨(⟨#[]⟩, 0), Or.inr ht⟩
  obtain ⟨v, hv⟩ := hres
  refine ⟨max k 10000 + 1, ?_⟩
  unfold montagelaw42_ArmorSigns.f
  rw [awake_f _ (by omega), Option.bind_some, if_pos rfl]
  by_cases hs : (s.size : Int) > 200
  · rw [if_pos hs, montagelaw42_ArmorSigns.j0, if_pos rfl]
  · rw [if_neg hs, montagelaw42_ArmorSigns.j0]
    by_cases ht : (t.size : Int) > 200
    · rw [decide_eq_true ht, if_pos rfl]
    · rw [decide_eq_false ht, if_neg (by decide)]
      have hl := data_length s
      have hsl := sB_length s.data.toList
      have hv' : armor_Bytes.f t = some v := by
        rcases hv with h | h
        · exact h
        · exact absurd (by omega) h
      have hr : montageref42_Bytes.f (max k 10000) t = some v := by
        have h1 := hk (by omega) (by omega)
        rw [hv'] at h1
        exact at_rounds (montageref42_Bytes.mono _) (by omega) h1
      have hsz : (⟨(sB s.data.toList).toArray⟩ : ByteArray).size = (sB s.data.toList).length := rfl
      rw [signs_f s (by omega), Option.bind_some, bytes_ok ⟨(sB s.data.toList).toArray⟩ s.data.toList rfl (by rw [hsz]; omega), Option.bind_some, hv', Option.bind_some, hr, Option.bind_some, rsigns_f s (by omega) _ (by omega), Option.bind_some, if_pos rfl, if_pos rfl, if_pos rfl, if_pos rfl, beq_self_eq_true]
end Go.Proofs.YtdnahkeiidbihaaDoor.PArmor
