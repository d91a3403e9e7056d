import Derived.Test.YtdnahkeiidbihaaDoorPArmorx5
namespace Go.Proofs.YtdnahkeiidbihaaDoor.PArmor
set_option linter.unusedVariables false
set_option linter.unusedSimpArgs false
open Go.RowKit Go.Proofs.YtdnahkeiidbihaaDoorW.PrintWords Go.Proofs.YtdnahkeiidbihaaDoorW.PrintLast Go.Proofs.YtdnahkeiidbihaaDoorW.PrintMore
/-! ### A. Signs: three bytes are four signs -/
def A (n : Nat) : UInt8 := alphaB.data.toList.getD n 0
def sB : List UInt8 → List UInt8
  | [] => []
  | [a] => [A (a.toNat / 4), A (a.toNat % 4 * 16), 61, 61]
  | [a, b] => [A (a.toNat / 4), A (a.toNat % 4 * 16 + b.toNat / 16), A (b.toNat % 16 * 4), 61]
  | a :: b :: c :: r => A (a.toNat / 4) :: A (a.toNat % 4 * 16 + b.toNat / 16) :: A (b.toNat % 16 * 4 + c.toNat / 64) :: A (c.toNat % 64) :: sB r
theorem nat_u32 (a : Nat) (ha : a < 4294967296) : (BitVec.ofInt 32 (a : Int)).toNat = a := by
  rw [BitVec.ofInt_natCast, BitVec.toNat_ofNat]; exact Nat.mod_eq_of_lt (by omega)
theorem bits_or_u32_nat (a b : Nat) (ha : a < 4294967296) (hb : b < 4294967296) : Go.bits .or .u32 (a : Int) (b : Int) = ((a ||| b : Nat) : Int) := by
  have hx : a ||| b < 2 ^ 32 := Nat.or_lt_two_pow (by omega) (by omega)
  show IntKind.u32.wrap ((BitVec.ofInt 32 (a : Int) ||| BitVec.ofInt 32 (b : Int)).toNat : Int) = _
  rw [BitVec.toNat_or, nat_u32 a ha, nat_u32 b hb, IntKind.wrap_u32]
  omega
theorem bits_and_u32_nat' (a b : Nat) (ha : a < 4294967296) (hb : b < 4294967296) : Go.bits .and .u32 (a : Int) (b : Int) = ((a &&& b : Nat) : Int) := by
  have hx : a &&& b < 2 ^ 32 := Nat.and_lt_two_pow _ (by omega)
  show IntKind.u32.wrap ((BitVec.ofInt 32 (a : Int) &&& BitVec.ofInt 32 (b : Int)).toNat : Int) = _
  rw [BitVec.toNat_and, nat_u32 a ha, nat_u32 b hb, IntKind.wrap_u32]
  omega
theorem or_byte (x b : Nat) (hx : x < 16777216) (hb : b < 256) : Go.bits .or .u32 (((x : Int) * 256) % 4294967296) ((b : Int) % 4294967296) = ((x * 256 + b : Nat) : Int) := by
  have e1 : ((x : Int) * 256) % 4294967296 = ((2 ^ 8 * x : Nat) : Int) := by omega
  have e2 : (b : Int) % 4294967296 = ((b : Nat) : Int) := by omega
  rw [e1, e2, bits_or_u32_nat _ _ (by omega) (by omega), ← Nat.two_pow_add_eq_or_of_lt (show b < 2 ^ 8 by omega)]
  omega
theorem and63 (x : Nat) (hx : x < 4294967296) : Go.bits .and .u32 (x : Int) 63 = ((x % 64 : Nat) : Int) := by
  rw [show (63 : Int) = ((63 : Nat) : Int) from rfl, bits_and_u32_nat' _ _ hx (by omega), show (63 : Nat) = 2 ^ 6 - 1 from rfl, Nat.and_two_pow_sub_one_eq_mod]
theorem shl8 (x : Nat) (hx : x < 16777216) : ((x : Int) * 256) % 4294967296 = ((x * 256 : Nat) : Int) := by omega
theorem vAt_3 (s : ByteArray) (h : 3 ≤ s.size) : vAt s 3 = (((s[0]'(by omega)).toNat * 65536 + (s[1]'(by omega)).toNat * 256 + (s[2]'(by omega)).toNat : Nat) : Int) := by
  have b0 := (s[0]'(by omega)).toNat_lt
  have b1 := (s[1]'(by omega)).toNat_lt
  have b2 := (s[2]'(by omega)).toNat_lt
  have e1 : vAt s 1 = (((s[0]'(by omega)).toNat : Nat) : Int) := by
    rw [vAt, dif_pos (show 0 < s.size by omega), vAt, show (0 : Int) = ((0 : Nat) : Int) from rfl, or_byte 0 _ (by omega) b0]
    omega
  have e2 : vAt s 2 = (((s[0]'(by omega)).toNat * 256 + (s[1]'(by omega)).toNat : Nat) : Int) := by
    rw [vAt, dif_pos (show 1 < s.size by omega), e1, or_byte _ _ (by omega) b1]
  rw [vAt, dif_pos (show 2 < s.size by omega), e2, or_byte _ _ (by omega) b2]
  omega
theorem vAt_2 (s : ByteArray) (h : s.size = 2) : vAt s 3 = (((s[0]'(by omega)).toNat * 65536 + (s[1]'(by omega)).toNat * 256 : Nat) : Int) := by
  have b0 := (s[0]'(by omega)).toNat_lt
  have b1 := (s[1]'(by omega)).toNat_lt
  have e1 : vAt s 1 = (((s[0]'(by omega)).toNat : Nat) : Int) := by
    rw [vAt, dif_pos (show 0 < s.size by omega), vAt, show (0 : Int) = ((0 : Nat) : Int) from rfl, or_byte 0 _ (by omega) b0]
    omega
  have e2 : vAt s 2 = (((s[0]'(by omega)).toNat * 256 + (s[1]'(by omega)).toNat : Nat) : Int) := by
    rw [vAt, dif_pos (show 1 < s.size by omega), e1, or_byte _ _ (by omega) b1]
  rw [vAt, dif_neg (show ¬ 2 < s.size by omega), e2, shl8 _ (by omega)]
  omega
theorem vAt_1 (s : ByteArray) (h : s.size = 1) : vAt s 3 = (((s[0]'(by omega)).toNat * 65536 : Nat) : Int) := by
  have b0 := (s[0]'(by omega)).toNat_lt
  have e1 : vAt s 1 = (((s[0]'(by omega)).toNat : Nat) : Int) := by
    rw [vAt, dif_pos (show 0 < s.size by omega), vAt, show (0 : Int) = ((0 : Nat) : Int) from rfl, or_byte 0 _ (by omega) b0]
    omega
  have e2 : vAt s 2 = (((s[0]'(by omega)).toNat * 256 : Nat) : Int) := by
    rw [vAt, dif_neg (show ¬ 1 < s.size by omega), e1, shl8 _ (by omega)]
  rw [vAt, dif_neg (show ¬ 2 < s.size by omega), e2, shl8 _ (by omega)]
  omega
theorem chr_of (v n i : Nat) (hv : v < 16777216) (hi : i ≤ n) (hi4 : i < 4) : chr (v : Int) n i = A (v / 2 ^ (18 - 6 * i) % 64) := by
  unfold chr A
  rw [if_neg (by omega)]
  have e : (v : Int) / 2 ^ (18 - 6 * i) = ((v / 2 ^ (18 - 6 * i) : Nat) : Int) := by rw [Int.natCast_ediv, Int.natCast_pow]; rfl
  have hle : v / 2 ^ (18 - 6 * i) ≤ v := Nat.div_le_self _ _
  rw [e, and63 _ (by omega), Int.toNat_natCast]
theorem out4 (v : Int) (n : Nat) : outTo v n 4 = [chr v n 0, chr v n 1, chr v n 2, chr v n 3] := rfl
theorem get_data (s : ByteArray) (i : Nat) (h : i < s.size) : s.data.toList[i]'(by rw [data_length]; exact h) = s[i]'h := rfl
theorem sgs_sB : ∀ (k : Nat) (s : ByteArray), s.size < k → sgs k s = sB s.data.toList
  | 0, s, h => by omega
  | k + 1, s, h => by
    rw [sgs]
    by_cases h0 : s.size = 0
    · rw [if_pos h0]
      have : s.data.toList = [] := List.length_eq_zero_iff.1 ((data_length s).trans h0)
      rw [this, sB]
    · rw [if_neg h0, out4]
      have hx : (s.extract (min 3 s.size) s.size).data.toList = s.data.toList.drop (min 3 s.size) := by
        rw [Lib.extract_data]; exact List.take_of_length_le (by simp)
      have ih := sgs_sB k (s.extract (min 3 s.size) s.size) (by rw [ByteArray.size_extract]; omega)
      rw [ih, hx]
      have hl := data_length s
      by_cases h1 : s.size = 1
      · have b0 := (s[0]'(by omega)).toNat_lt
        have hd : s.data.toList = [s[0]'(by omega)] := by
          apply List.ext_getElem
          · exact hl.trans h1
          · intro i h2 h3
            have : i = 0 := by rw [hl] at h2; omega
            subst this; rfl
        rw [hd, vAt_1 s h1, show min 3 s.size = 1 by omega]
        generalize hq : (s[0]'(by omega)) = a at b0 ⊢
        rw [chr_of _ 1 0 (by omega) (by omega) (by omega), chr_of _ 1 1 (by omega) (by omega) (by omega)]
        have c2 : chr ((a.toNat * 65536 : Nat) : Int) 1 2 = 61 := by unfold chr; rw [if_pos (by omega)]
        have c3 : chr ((a.toNat * 65536 : Nat) : Int) 1 3 = 61 := by unfold chr; rw [if_pos (by omega)]
        rw [c2, c3, List.drop_succ_cons, List.drop_zero, sB, sB, List.append_nil]
        have e0 : a.toNat * 65536 / 2 ^ (18 - 6 * 0) % 64 = a.toNat / 4 := by omega
        have e1 : a.toNat * 65536 / 2 ^ (18 - 6 * 1) % 64 = a.toNat % 4 * 16 := by omega
        rw [e0, e1]
      · by_cases h2 : s.size = 2
        · have b0 := (s[0]'(by omega)).toNat_lt
          have b1 := (s[1]'(by omega)).toNat_lt
          have hd : s.data.toList = [s[0]'(by omega), s[1]'(by omega)] := by
            apply List.ext_getElem
            · exact hl.trans h2
            · intro i h3 h4
              rw [hl] at h3
              match i, h3 with
              | 0, _ => rfl
              | 1, _ => rfl
              | i + 2, h3 => omega
          rw [hd, vAt_2 s h2, show min 3 s.size = 2 by omega]
          generalize hq : (s[0]'(by omega)) = a at b0 ⊢
          generalize hq2 : (s[1]'(by omega)) = b at b1 ⊢
          rw [chr_of _ 2 0 (by omega) (by omega) (by omega), chr_of _ 2 1 (by omega) (by omega) (by omega), chr_of _ 2 2 (by omega) (by omega) (by omega)]
          have c3 : chr ((a.toNat * 65536 + b.toNat * 256 : Nat) : Int) 2 3 = 61 := by unfold chr; rw [if_pos (by omega)]
          rw [c3, List.drop_succ_cons, List.drop_succ_cons, List.drop_zero, sB, sB, List.append_nil]
          have e0 : (a.toNat * 65536 + b.toNat * 256) / 2 ^ (18 - 6 * 0) % 64 = a.toNat / 4 := by omega
          have e1 : (a.toNat * 65536 + b.toNat * 256) / 2 ^ (18 - 6 * 1) % 64 = a.toNat % 4 * 16 + b.toNat / 16 := by omega
          have e2 : (a.toNat * 65536 + b.toNat * 256) / 2 ^ (18 - 6 * 2) % 64 = b.toNat % 16 * 4 := by omega
          rw [e0, e1, e2]
        · have b0 := (s[0]'(by omega)).toNat_lt
          have b1 := (s[1]'(by omega)).toNat_lt
          have b2 := (s[2]'(by omega)).toNat_lt
          have hd : s.data.toList = (s[0]'(by omega)) :: (s[1]'(by omega)) :: (s[2]'(by omega)) :: s.data.toList.drop 3 := by
            rw [← get_data s 0 (by omega), ← get_data s 1 (by omega), ← get_data s 2 (by omega)]
            rw [← List.drop_eq_getElem_cons (i := 2) (by rw [hl]; omega), ← List.drop_eq_getElem_cons (i := 1) (by rw [hl]; omega), ← List.drop_eq_getElem_cons (i := 0) (by rw [hl]; omega), List.drop_zero]
          rw [vAt_3 s (by omega), show min 3 s.size = 3 by omega]
          conv => rhs; rw [hd]
          generalize s.data.toList.drop 3 = r
          generalize hq : (s[0]'(by omega)) = a at b0 ⊢
          generalize hq2 : (s[1]'(by omega)) = b at b1 ⊢
          generalize hq3 : (s[2]'(by omega)) = c at b2 ⊢
          rw [chr_of _ 3 0 (by omega) (by omega) (by omega), chr_of _ 3 1 (by omega) (by omega) (by omega), chr_of _ 3 2 (by omega) (by omega) (by omega), chr_of _ 3 3 (by omega) (by omega) (by omega), sB]
          have e0 : (a.toNat * 65536 + b.toNat * 256 + c.toNat) / 2 ^ (18 - 6 * 0) % 64 = a.toNat / 4 := by omega
          have e1 : (a.toNat * 65536 + b.toNat * 256 + c.toNat) / 2 ^ (18 - 6 * 1) % 64 = a.toNat % 4 * 16 + b.toNat / 16 := by omega
          have e2 : (a.toNat * 65536 + b.toNat * 256 + c.toNat) / 2 ^ (18 - 6 * 2) % 64 = b.toNat % 16 * 4 + c.toNat / 64 := by omega
          have e3 : (a.toNat * 65536 + b.toNat * 256 + c.toNat) / 2 ^ (18 - 6 * 3) % 64 = c.toNat % 64 := by omega
          rw [e0, e1, e2, e3]
          rfl
theorem signs_f (s : ByteArray) (h : s.size ≤ 1000000000) : armor_Signs.f s = some ⟨(sB s.data.toList).toArray⟩ := by
  unfold armor_Signs.f
  rw [if_pos h, sgs_sB _ _ (by omega)]
end Go.Proofs.YtdnahkeiidbihaaDoor.PArmor
