import Derived.Test.YtodeagijmfoojaaDoorCF
import Derived.Test.YtodeagijmfoojaaDoorPClockx7
namespace Go.Proofs.YtodeagijmfoojaaDoor.PClock
open Go.RowKit Go.Proofs.YtodeagijmfoojaaDoorW.PrintWords Go.Proofs.YtodeagijmfoojaaDoorW.PrintLast Go.Proofs.YtodeagijmfoojaaDoorW.PrintMore
/-! ### G'. The reference's Parse -/
theorem num2_c : ∀ i : Fin 100, montageref41_number.f 6 (two i.val) = some (i.val : Int) := by decide +kernel
theorem num4_c : ∀ i : Fin 128, montageref41_number.f 6 (yr (1980 + i.val)) = some (1980 + (i.val : Int)) := by decide +kernel
theorem num2 (K : Nat) (hK : 6 ≤ K) (n : Int) (h0 : 0 ≤ n) (h1 : n < 100) : montageref41_number.f K (two n.toNat) = some n := by obtain ⟨i, a, b⟩ := e2 n h0 h1; rw [b, a]; exact at_rounds (montageref41_number.mono _) hK (num2_c i)
theorem num4 (K : Nat) (hK : 6 ≤ K) (n : Int) (h0 : 1980 ≤ n) (h1 : n ≤ 2107) : montageref41_number.f K (yr n.toNat) = some n := by obtain ⟨i, a, b⟩ := e4 n h0 h1; rw [b, a]; exact at_rounds (montageref41_number.mono _) hK (num4_c i)
theorem rparse_txt (K : Nat) (hK : 6 ≤ K) (y m d h mi s : Int) (hok : okD y m d h mi s = true) : montageref41_Parse.f K (txt y m d h mi s) = some (y, m, d, h, mi, s, 0) := by
  obtain ⟨p0, p1, p2, p3, p4, p5, p6⟩ := txt_parts y m d h mi s
  have o := (okD_iff _ _ _ _ _ _).1 hok
  obtain ⟨a1, a2, a3, a4, a5⟩ := text_of y m d h mi s o
  unfold montageref41_Parse.f
  rw [if_pos p0, p1, p2, p3, p4, p5, p6, num4 K hK y o.y1 o.y2, num2 K hK m a1.1 a1.2, num2 K hK d a2.1 a2.2, num2 K hK h a3.1 a3.2, num2 K hK mi a4.1 a4.2, num2 K hK s a5.1 a5.2]
  simp only [Option.bind_some]
  rw [may_f _ _ _ _ _ _ K (by omega), Option.bind_some, if_pos hok, rtext_f K hK _ _ _ _ _ _ hok, Option.bind_some, if_pos rfl]
theorem number_l0 (s : ByteArray) (r : Nat) : ∀ (K i : Nat) (acc : Int), i + r = s.size → s.size ≤ 1000 → r < K → ∃ n, montageref41_number.l0 K s acc (i : Int) = some n := by
  induction r with
  | zero =>
    intro K i acc h1 h2 h3
    obtain ⟨K, rfl⟩ : ∃ k, K = k + 1 := ⟨K - 1, by omega⟩
    exact ⟨acc, by rw [montageref41_number.l0, if_neg (by omega)]⟩
  | succ r ih =>
    intro K i acc h1 h2 h3
    obtain ⟨K, rfl⟩ : ∃ k, K = k + 1 := ⟨K - 1, by omega⟩
    rw [montageref41_number.l0, if_pos (by omega), if_pos (by omega), wid2 ((i : Int) + 1) (by omega) (by omega)]
    exact ih K (i + 1) _ (by omega) h2 (by omega)
theorem number_some (s : ByteArray) (K : Nat) (h : s.size < K) (h2 : s.size ≤ 1000) : ∃ n, montageref41_number.f K s = some n := number_l0 s s.size K 0 0 (by omega) h2 h
theorem ext_size (s : ByteArray) (a b : Nat) (h : s.size = 19) (hab : a ≤ b) (hb : b ≤ 19) : (s.extract a b).size = b - a := by
  rw [ByteArray.size_extract, h]; omega
/-- The two read the same. -/
theorem parse_eq (K : Nat) (hK : 30 < K) (s : ByteArray) : ∃ r, clock_Parse.f K s = some r ∧ montageref41_Parse.f K s = some r := by
  by_cases hsz : s.size = 19
  · by_cases hex : ∃ y m d h mi x, okD y m d h mi x = true ∧ s = txt y m d h mi x
    · obtain ⟨y, m, d, h, mi, x, hok, rfl⟩ := hex
      exact ⟨_, parse_txt K (by omega) _ _ _ _ _ _ hok, rparse_txt K (by omega) _ _ _ _ _ _ hok⟩
    · refine ⟨(0, 0, 0, 0, 0, 0, 2), ?_, ?_⟩
      · unfold clock_Parse.f
        rw [if_pos hsz, text_f K (by omega), Option.bind_some]
        by_cases hok : okD (partV (s.extract 0 4)) (partV (s.extract 5 7)) (partV (s.extract 8 10)) (partV (s.extract 11 13)) (partV (s.extract 14 16)) (partV (s.extract 17 19)) = true
        · rw [if_pos hok, if_neg]
          intro hc
          exact hex ⟨_, _, _, _, _, _, hok, (toList_inj hc.2).symm⟩
        · rw [if_neg hok, if_neg (fun hc => absurd hc.1 (by decide))]
      · unfold montageref41_Parse.f
        obtain ⟨n1, h1⟩ := number_some (s.extract 0 4) K (by rw [ext_size s _ _ hsz (by omega) (by omega)]; omega) (by rw [ext_size s _ _ hsz (by omega) (by omega)]; omega)
        obtain ⟨n2, h2⟩ := number_some (s.extract 5 7) K (by rw [ext_size s _ _ hsz (by omega) (by omega)]; omega) (by rw [ext_size s _ _ hsz (by omega) (by omega)]; omega)
        obtain ⟨n3, h3⟩ := number_some (s.extract 8 10) K (by rw [ext_size s _ _ hsz (by omega) (by omega)]; omega) (by rw [ext_size s _ _ hsz (by omega) (by omega)]; omega)
        obtain ⟨n4, h4⟩ := number_some (s.extract 11 13) K (by rw [ext_size s _ _ hsz (by omega) (by omega)]; omega) (by rw [ext_size s _ _ hsz (by omega) (by omega)]; omega)
        obtain ⟨n5, h5⟩ := number_some (s.extract 14 16) K (by rw [ext_size s _ _ hsz (by omega) (by omega)]; omega) (by rw [ext_size s _ _ hsz (by omega) (by omega)]; omega)
        obtain ⟨n6, h6⟩ := number_some (s.extract 17 19) K (by rw [ext_size s _ _ hsz (by omega) (by omega)]; omega) (by rw [ext_size s _ _ hsz (by omega) (by omega)]; omega)
        rw [if_pos hsz, h1, h2, h3, h4, h5, h6]
        simp only [Option.bind_some]
        rw [may_f _ _ _ _ _ _ K (by omega), Option.bind_some]
        by_cases hok : okD n1 n2 n3 n4 n5 n6 = true
        · rw [if_pos hok, rtext_f K (by omega) _ _ _ _ _ _ hok, Option.bind_some, if_neg]
          intro hc
          exact hex ⟨_, _, _, _, _, _, hok, (toList_inj hc).symm⟩
        · rw [if_neg hok]
  · refine ⟨(0, 0, 0, 0, 0, 0, 2), ?_, ?_⟩
    · unfold clock_Parse.f; rw [if_neg hsz]
    · unfold montageref41_Parse.f; rw [if_neg hsz]
end Go.Proofs.YtodeagijmfoojaaDoor.PClock
