import Derived.Test.YtodeagijmfoojaaDoorCF
namespace Go.Proofs.YtodeagijmfoojaaDoor.PClock
open Go.RowKit Go.Proofs.YtodeagijmfoojaaDoorW.PrintWords Go.Proofs.YtodeagijmfoojaaDoorW.PrintLast Go.Proofs.YtodeagijmfoojaaDoorW.PrintMore
/-! ### H. The first lines of each law; ClockDates -/
theorem aw_of : ofR 2162688 = (1980, 1, 1, 0, 0, 0, true) := by decide +kernel
theorem aw_ok : okD 1980 1 1 0 0 0 = true := by decide +kernel
theorem aw_secs : secD 1980 1 1 0 0 0 = 0 := by decide +kernel
theorem aw_txt : (txt 1980 1 1 0 0 0) = (⟨#[49, 57, 56, 48, 45, 48, 49, 45, 48, 49, 32, 48, 48, 58, 48, 48, 58, 48, 48]⟩ : ByteArray) := by decide +kernel
theorem aw_lst : (⟨#[49, 57, 56, 48, 45, 48, 49, 45, 48, 49, 32, 48, 48, 58, 48, 48, 58, 48, 48]⟩ : ByteArray).toList = ([49, 57, 56, 48, 45, 48, 49, 45, 48, 49, 32, 48, 48, 58, 48, 48, 58, 48, 48] : List UInt8) := by rw [ByteArray.toList_eq]
theorem aw_ok2 : okD 2000 2 29 23 59 58 = true := by decide +kernel
theorem aw_par : (⟨#[50, 48, 48, 48, 45, 48, 50, 45, 50, 57, 32, 50, 51, 58, 53, 57, 58, 53, 56]⟩ : ByteArray) = txt 2000 2 29 23 59 58 := by decide +kernel
theorem awake_f (K : Nat) (hK : 30 < K) : montagelaw41_awake.f K = some true := by
  unfold montagelaw41_awake.f
  rw [of_f K (by omega), aw_of, Option.bind_some]
  simp only []
  rw [seconds_f K (by omega), text_f K (by omega), aw_ok, if_pos rfl, aw_secs, if_pos rfl, aw_txt, aw_par, parse_txt K (by omega) _ _ _ _ _ _ aw_ok2]
  simp only [Option.bind_some, aw_lst]
  rfl
end Go.Proofs.YtodeagijmfoojaaDoor.PClock
