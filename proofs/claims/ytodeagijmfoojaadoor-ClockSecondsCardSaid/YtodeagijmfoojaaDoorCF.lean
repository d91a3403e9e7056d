import Derived.Test.YtodeagijmfoojaaDoorCE
namespace Go.Proofs.YtodeagijmfoojaaDoor.PClock
open Go.RowKit Go.Proofs.YtodeagijmfoojaaDoorW.PrintWords Go.Proofs.YtodeagijmfoojaaDoorW.PrintLast Go.Proofs.YtodeagijmfoojaaDoorW.PrintMore
/-! ### G. Text and Parse -/
theorem toList_inj {a b : ByteArray} (h : a.toList = b.toList) : a = b := by
  rw [ByteArray.toList_eq, ByteArray.toList_eq] at h
  obtain ⟨⟨a⟩⟩ := a
  obtain ⟨⟨b⟩⟩ := b
  exact congrArg (fun l : List UInt8 => (⟨⟨l⟩⟩ : ByteArray)) h
def two (n : Nat) : ByteArray := ⟨#[UInt8.ofNat (48 + n / 10), UInt8.ofNat (48 + n % 10)]⟩
def yr (n : Nat) : ByteArray := ⟨#[UInt8.ofNat (48 + n / 1000), UInt8.ofNat (48 + n / 100 % 10), UInt8.ofNat (48 + n / 10 % 10), UInt8.ofNat (48 + n % 10)]⟩
theorem two_size (n : Nat) : (two n).size = 2 := rfl
theorem yr_size (n : Nat) : (yr n).size = 4 := rfl
theorem dig2_c : ∀ i : Fin 100, clock_digits.f (i.val : Int) 2 = some (two i.val) := by decide +kernel
theorem dig4_c : ∀ i : Fin 128, clock_digits.f (1980 + (i.val : Int)) 4 = some (yr (1980 + i.val)) := by decide +kernel
theorem rdig2_c : ∀ i : Fin 100, montageref41_digits.f 6 (i.val : Int) 2 = some (two i.val) := by decide +kernel
theorem rdig4_c : ∀ i : Fin 128, montageref41_digits.f 6 (1980 + (i.val : Int)) 4 = some (yr (1980 + i.val)) := by decide +kernel
theorem par2_c : ∀ i : Fin 100, partV (two i.val) = (i.val : Int) := by decide +kernel
theorem par4_c : ∀ i : Fin 128, partV (yr (1980 + i.val)) = 1980 + (i.val : Int) := by decide +kernel
theorem e2 (n : Int) (h0 : 0 ≤ n) (h1 : n < 100) : ∃ i : Fin 100, n = (i.val : Int) ∧ n.toNat = i.val := ⟨⟨n.toNat, by omega⟩, by simp only []; omega, rfl⟩
theorem e4 (n : Int) (h0 : 1980 ≤ n) (h1 : n ≤ 2107) : ∃ i : Fin 128, n = 1980 + (i.val : Int) ∧ n.toNat = 1980 + i.val := ⟨⟨n.toNat - 1980, by omega⟩, by simp only []; omega, by simp only []; omega⟩
theorem dig2 (n : Int) (h0 : 0 ≤ n) (h1 : n < 100) : clock_digits.f n 2 = some (two n.toNat) := by obtain ⟨i, a, b⟩ := e2 n h0 h1; rw [a, ← a, b, a]; exact dig2_c i
theorem dig4 (n : Int) (h0 : 1980 ≤ n) (h1 : n ≤ 2107) : clock_digits.f n 4 = some (yr n.toNat) := by obtain ⟨i, a, b⟩ := e4 n h0 h1; rw [b, a]; exact dig4_c i
theorem rdig2 (K : Nat) (hK : 6 ≤ K) (n : Int) (h0 : 0 ≤ n) (h1 : n < 100) : montageref41_digits.f K n 2 = some (two n.toNat) := by obtain ⟨i, a, b⟩ := e2 n h0 h1; rw [b, a]; exact at_rounds (montageref41_digits.mono _ _) hK (rdig2_c i)
theorem rdig4 (K : Nat) (hK : 6 ≤ K) (n : Int) (h0 : 1980 ≤ n) (h1 : n ≤ 2107) : montageref41_digits.f K n 4 = some (yr n.toNat) := by obtain ⟨i, a, b⟩ := e4 n h0 h1; rw [b, a]; exact at_rounds (montageref41_digits.mono _ _) hK (rdig4_c i)
theorem par2 (n : Int) (h0 : 0 ≤ n) (h1 : n < 100) : partV (two n.toNat) = n := by obtain ⟨i, a, b⟩ := e2 n h0 h1; rw [b, a]; exact par2_c i
theorem par4 (n : Int) (h0 : 1980 ≤ n) (h1 : n ≤ 2107) : partV (yr n.toNat) = n := by obtain ⟨i, a, b⟩ := e4 n h0 h1; rw [b, a]; exact par4_c i
/-- The text of a date. -/
def txt (y m d h mi s : Int) : ByteArray := ((((((((((yr y.toNat) ++ (⟨#[45]⟩ : ByteArray)) ++ two m.toNat) ++ (⟨#[45]⟩ : ByteArray)) ++ two d.toNat) ++ (⟨#[32]⟩ : ByteArray)) ++ two h.toNat) ++ (⟨#[58]⟩ : ByteArray)) ++ two mi.toNat) ++ (⟨#[58]⟩ : ByteArray)) ++ two s.toNat
theorem one_size (c : UInt8) : (⟨#[c]⟩ : ByteArray).size = 1 := rfl
theorem text_of (y m d h mi s : Int) (o : OkD y m d h mi s) : (0 ≤ m ∧ m < 100) ∧ (0 ≤ d ∧ d < 100) ∧ (0 ≤ h ∧ h < 100) ∧ (0 ≤ mi ∧ mi < 100) ∧ (0 ≤ s ∧ s < 100) := by
  have hd := (dim_le y m).2
  obtain ⟨y1, y2, m1, m2, d1, d2, h1, h2, i1, i2, s1, s2, s3⟩ := o
  omega
theorem text_f (K : Nat) (hK : 0 < K) (y m d h mi s : Int) : clock_Text.f K y m d h mi s = some (if okD y m d h mi s = true then (txt y m d h mi s, 0) else ((⟨#[]⟩ : ByteArray), 1)) := by
  unfold clock_Text.f
  rw [right_f _ _ _ _ _ _ K hK, Option.bind_some]
  by_cases hok : okD y m d h mi s = true
  · rw [if_pos hok, if_pos hok]
    have o := (okD_iff _ _ _ _ _ _).1 hok
    clear hok
    obtain ⟨a1, a2, a3, a4, a5⟩ := text_of y m d h mi s o
    rw [dig4 y o.y1 o.y2, dig2 m a1.1 a1.2, dig2 d a2.1 a2.2, dig2 h a3.1 a3.2, dig2 mi a4.1 a4.2, dig2 s a5.1 a5.2]
    simp only [Option.bind_some, ByteArray.size_append, two_size, yr_size, one_size, Nat.reduceLeDiff, if_true]
    rfl
  · rw [if_neg hok, if_neg hok]
theorem rtext_f (K : Nat) (hK : 6 ≤ K) (y m d h mi s : Int) (hok : okD y m d h mi s = true) : montageref41_Text.f K y m d h mi s = some (txt y m d h mi s) := by
  unfold montageref41_Text.f
  have o := (okD_iff _ _ _ _ _ _).1 hok
  clear hok
  obtain ⟨a1, a2, a3, a4, a5⟩ := text_of y m d h mi s o
  rw [rdig4 K hK y o.y1 o.y2, rdig2 K hK m a1.1 a1.2, rdig2 K hK d a2.1 a2.2, rdig2 K hK h a3.1 a3.2, rdig2 K hK mi a4.1 a4.2, rdig2 K hK s a5.1 a5.2]
  simp only [Option.bind_some, ByteArray.size_append, two_size, yr_size, one_size, Nat.reduceLeDiff, if_true]
  rfl
theorem lit19 (c0 c1 c2 c3 c4 c5 c6 c7 c8 c9 c10 c11 c12 c13 : UInt8) : ((((((((((⟨#[c0, c1, c2, c3]⟩ : ByteArray) ++ (⟨#[45]⟩ : ByteArray)) ++ ⟨#[c4, c5]⟩) ++ (⟨#[45]⟩ : ByteArray)) ++ ⟨#[c6, c7]⟩) ++ (⟨#[32]⟩ : ByteArray)) ++ ⟨#[c8, c9]⟩) ++ (⟨#[58]⟩ : ByteArray)) ++ ⟨#[c10, c11]⟩) ++ (⟨#[58]⟩ : ByteArray)) ++ ⟨#[c12, c13]⟩ = (⟨#[c0, c1, c2, c3, 45, c4, c5, 45, c6, c7, 32, c8, c9, 58, c10, c11, 58, c12, c13]⟩ : ByteArray) := rfl
theorem lit19_0 (c0 c1 c2 c3 c4 c5 c6 c7 c8 c9 c10 c11 c12 c13 : UInt8) : (⟨#[c0, c1, c2, c3, 45, c4, c5, 45, c6, c7, 32, c8, c9, 58, c10, c11, 58, c12, c13]⟩ : ByteArray).extract 0 4 = ⟨#[c0, c1, c2, c3]⟩ := rfl
theorem lit19_1 (c0 c1 c2 c3 c4 c5 c6 c7 c8 c9 c10 c11 c12 c13 : UInt8) : (⟨#[c0, c1, c2, c3, 45, c4, c5, 45, c6, c7, 32, c8, c9, 58, c10, c11, 58, c12, c13]⟩ : ByteArray).extract 5 7 = ⟨#[c4, c5]⟩ := rfl
theorem lit19_2 (c0 c1 c2 c3 c4 c5 c6 c7 c8 c9 c10 c11 c12 c13 : UInt8) : (⟨#[c0, c1, c2, c3, 45, c4, c5, 45, c6, c7, 32, c8, c9, 58, c10, c11, 58, c12, c13]⟩ : ByteArray).extract 8 10 = ⟨#[c6, c7]⟩ := rfl
theorem lit19_3 (c0 c1 c2 c3 c4 c5 c6 c7 c8 c9 c10 c11 c12 c13 : UInt8) : (⟨#[c0, c1, c2, c3, 45, c4, c5, 45, c6, c7, 32, c8, c9, 58, c10, c11, 58, c12, c13]⟩ : ByteArray).extract 11 13 = ⟨#[c8, c9]⟩ := rfl
theorem lit19_4 (c0 c1 c2 c3 c4 c5 c6 c7 c8 c9 c10 c11 c12 c13 : UInt8) : (⟨#[c0, c1, c2, c3, 45, c4, c5, 45, c6, c7, 32, c8, c9, 58, c10, c11, 58, c12, c13]⟩ : ByteArray).extract 14 16 = ⟨#[c10, c11]⟩ := rfl
theorem lit19_5 (c0 c1 c2 c3 c4 c5 c6 c7 c8 c9 c10 c11 c12 c13 : UInt8) : (⟨#[c0, c1, c2, c3, 45, c4, c5, 45, c6, c7, 32, c8, c9, 58, c10, c11, 58, c12, c13]⟩ : ByteArray).extract 17 19 = ⟨#[c12, c13]⟩ := rfl
theorem txt_parts (y m d h mi s : Int) : (txt y m d h mi s).size = 19 ∧ (txt y m d h mi s).extract 0 4 = yr y.toNat ∧ (txt y m d h mi s).extract 5 7 = two m.toNat ∧ (txt y m d h mi s).extract 8 10 = two d.toNat ∧ (txt y m d h mi s).extract 11 13 = two h.toNat ∧ (txt y m d h mi s).extract 14 16 = two mi.toNat ∧ (txt y m d h mi s).extract 17 19 = two s.toNat := by
  unfold txt yr two
  rw [lit19]
  exact ⟨rfl, lit19_0 .., lit19_1 .., lit19_2 .., lit19_3 .., lit19_4 .., lit19_5 ..⟩
theorem parse_txt (K : Nat) (hK : 6 ≤ K) (y m d h mi s : Int) (hok : okD y m d h mi s = true) : clock_Parse.f K (txt y m d h mi s) = some (y, m, d, h, mi, s, 0) := by
  obtain ⟨p0, p1, p2, p3, p4, p5, p6⟩ := txt_parts y m d h mi s
  have o := (okD_iff _ _ _ _ _ _).1 hok
  obtain ⟨a1, a2, a3, a4, a5⟩ := text_of y m d h mi s o
  unfold clock_Parse.f
  rw [if_pos p0, p1, p2, p3, p4, p5, p6, par4 y o.y1 o.y2, par2 m a1.1 a1.2, par2 d a2.1 a2.2, par2 h a3.1 a3.2, par2 mi a4.1 a4.2, par2 s a5.1 a5.2, text_f K (by omega), if_pos hok, Option.bind_some, if_pos ⟨rfl, rfl⟩]
end Go.Proofs.YtodeagijmfoojaaDoor.PClock
