import Derived.Test.YtodeagijmfoojaaDoorCB
namespace Go.Proofs.YtodeagijmfoojaaDoor.PClock
open Go.RowKit Go.Proofs.YtodeagijmfoojaaDoorW.PrintWords Go.Proofs.YtodeagijmfoojaaDoorW.PrintLast Go.Proofs.YtodeagijmfoojaaDoorW.PrintMore
/-! ### F. Times as numbers -/
theorem nat_i64 (a : Nat) (ha : a < 9223372036854775808) : (BitVec.ofInt 64 (a : Int)).toNat = a := by
  rw [BitVec.ofInt_natCast, BitVec.toNat_ofNat]; exact Nat.mod_eq_of_lt (by omega)
theorem bits_or_i64_nat (a b : Nat) (ha : a < 9223372036854775808) (hb : b < 9223372036854775808) : Go.bits .or .i64 (a : Int) (b : Int) = ((a ||| b : Nat) : Int) := by
  have hx : a ||| b < 2 ^ 63 := Nat.or_lt_two_pow (by omega) (by omega)
  show IntKind.i64.wrap ((BitVec.ofInt 64 (a : Int) ||| BitVec.ofInt 64 (b : Int)).toNat : Int) = _
  rw [BitVec.toNat_or, nat_i64 a ha, nat_i64 b hb]
  rw [IntKind.wrap_i64]
  omega
theorem bits_and_i64_nat (a b : Nat) (ha : a < 9223372036854775808) (hb : b < 9223372036854775808) : Go.bits .and .i64 (a : Int) (b : Int) = ((a &&& b : Nat) : Int) := by
  have hx : a &&& b < 2 ^ 63 := Nat.and_lt_two_pow _ (by omega)
  show IntKind.i64.wrap ((BitVec.ofInt 64 (a : Int) &&& BitVec.ofInt 64 (b : Int)).toNat : Int) = _
  rw [BitVec.toNat_and, nat_i64 a ha, nat_i64 b hb]
  rw [IntKind.wrap_i64]
  omega
/-- Bits beside each other: a sum. -/
theorem or_add (k : Nat) (x b : Int) (h0 : 0 ≤ x) (hx : x * 2 ^ k < 9223372036854775808) (hb : 0 ≤ b) (hb2 : b < 2 ^ k) (hk : k < 63) : Go.bits .or .i64 (x * 2 ^ k) b = x * 2 ^ k + b := by
  obtain ⟨x, rfl⟩ : ∃ n : Nat, x = (n : Int) := ⟨x.toNat, by omega⟩
  obtain ⟨b, rfl⟩ : ∃ n : Nat, b = (n : Int) := ⟨b.toNat, by omega⟩
  have e : (x : Int) * 2 ^ k = ((2 ^ k * x : Nat) : Int) := by rw [Int.natCast_mul, Int.natCast_pow, Int.mul_comm]; rfl
  have hb3 : b < 2 ^ k := by
    have : (b : Int) < ((2 ^ k : Nat) : Int) := by rw [Int.natCast_pow]; exact hb2
    omega
  have hk2 : 2 ^ k < 2 ^ 63 := Nat.pow_lt_pow_right (by omega) hk
  rw [e] at hx ⊢
  rw [bits_or_i64_nat _ _ (by omega) (by omega), ← Nat.two_pow_add_eq_or_of_lt hb3, Int.natCast_add]
theorem and_mod (x k : Nat) (hx : x < 9223372036854775808) (hk : k < 63) : Go.bits .and .i64 (x : Int) ((2 ^ k - 1 : Nat) : Int) = ((x % 2 ^ k : Nat) : Int) := by
  have hk2 : 2 ^ k < 2 ^ 63 := Nat.pow_lt_pow_right (by omega) hk
  rw [bits_and_i64_nat _ _ hx (by omega), Nat.and_two_pow_sub_one_eq_mod]
theorem bits_f (n : Int) (h0 : 0 ≤ n) (h1 : n ≤ 4294967295) (a b : Nat) (ha : a ≤ 25) (hb : b ≤ 7) : clock_bits.f n (a : Int) (b : Int) = some (n / 2 ^ a % 2 ^ b) := by
  obtain ⟨n, rfl⟩ : ∃ x : Nat, n = (x : Int) := ⟨n.toNat, by omega⟩
  unfold clock_bits.f
  rw [if_pos (by omega), if_pos (by omega)]
  have hp : (2 : Nat) ^ b ≤ 2 ^ 7 := Nat.pow_le_pow_right (by omega) hb
  have hp1 : 0 < (2 : Nat) ^ b := Nat.pow_pos (by omega)
  have e1 : shl .i64 1 (b : Int) = ((2 ^ b : Nat) : Int) := by
    unfold shl
    rw [show min (b : Int).toNat IntKind.i64.bits = b by show min b 64 = b; omega, Int.one_mul]
    rw [show (2 : Int) ^ b = ((2 ^ b : Nat) : Int) by rw [Int.natCast_pow]; rfl]
    rw [IntKind.wrap_i64]
    omega
  have e2 : shr .i64 (n : Int) (a : Int) = ((n / 2 ^ a : Nat) : Int) := by
    unfold shr
    rw [show min (a : Int).toNat IntKind.i64.bits = a by show min a 64 = a; omega]
    rw [Int.natCast_ediv, Int.natCast_pow]; rfl
  have e3 : wrap64 (((2 ^ b : Nat) : Int) - 1) = ((2 ^ b - 1 : Nat) : Int) := by
    rw [wid2 _ (by omega) (by omega)]; omega
  have hq : n / 2 ^ a ≤ n := Nat.div_le_self _ _
  rw [e1, e2, e3, and_mod _ b (by omega) (by omega)]
  simp only [Int.natCast_emod, Int.natCast_ediv, Int.natCast_pow]
  rfl
/-- The date that a number says. -/
def ofV (n : Int) : Int × Int × Int × Int × Int × Int := (1980 + n / 33554432, n / 2097152 % 16, n / 65536 % 32, n / 2048 % 32, n / 32 % 64, n % 32 * 2)
def okV (x : Int × Int × Int × Int × Int × Int) : Bool := okD x.1 x.2.1 x.2.2.1 x.2.2.2.1 x.2.2.2.2.1 x.2.2.2.2.2
def ofR (n : Int) : Int × Int × Int × Int × Int × Int × Bool := if 0 ≤ n ∧ n ≤ 4294967295 ∧ okV (ofV n) = true then (1980 + n / 33554432, n / 2097152 % 16, n / 65536 % 32, n / 2048 % 32, n / 32 % 64, n % 32 * 2, true) else (0, 0, 0, 0, 0, 0, false)
theorem of_f (K : Nat) (hK : 0 < K) (n : Int) : clock_Of.f K n = some (ofR n) := by
  unfold clock_Of.f ofR
  rw [within_f, Option.bind_some]
  by_cases h0 : 0 ≤ n
  · by_cases h1 : n ≤ 4294967295
    · rw [decide_eq_true h0, decide_eq_true h1]
      have b1 := bits_f n h0 h1 25 7 (by omega) (by omega)
      have b2 := bits_f n h0 h1 21 4 (by omega) (by omega)
      have b3 := bits_f n h0 h1 16 5 (by omega) (by omega)
      have b4 := bits_f n h0 h1 11 5 (by omega) (by omega)
      have b5 := bits_f n h0 h1 5 6 (by omega) (by omega)
      have b6 := bits_f n h0 h1 0 5 (by omega) (by omega)
      have e1 : n / 2 ^ 25 % 2 ^ 7 = n / 33554432 := by omega
      have e6 : n / 2 ^ 0 % 2 ^ 5 = n % 32 := by omega
      rw [e1] at b1
      rw [e6] at b6
      rw [show ((25 : Nat) : Int) = 25 from rfl, show ((7 : Nat) : Int) = 7 from rfl] at b1
      rw [show ((21 : Nat) : Int) = 21 from rfl, show ((4 : Nat) : Int) = 4 from rfl] at b2
      rw [show ((16 : Nat) : Int) = 16 from rfl, show ((5 : Nat) : Int) = 5 from rfl] at b3
      rw [show ((11 : Nat) : Int) = 11 from rfl, show ((5 : Nat) : Int) = 5 from rfl] at b4
      rw [show ((5 : Nat) : Int) = 5 from rfl, show ((6 : Nat) : Int) = 6 from rfl] at b5
      rw [show ((0 : Nat) : Int) = 0 from rfl, show ((5 : Nat) : Int) = 5 from rfl] at b6
      simp only [Bool.and_self, if_true, b1, b2, b3, b4, b5, b6, Option.bind_some]
      rw [wid2 (1980 + n / 33554432) (by omega) (by omega), wid2 (2 * (n % 32)) (by omega) (by omega), Int.mul_comm 2 (n % 32)]
      rw [show (2 : Int) ^ 21 = 2097152 from rfl, show (2 : Int) ^ 4 = 16 from rfl, show (2 : Int) ^ 16 = 65536 from rfl, show (2 : Int) ^ 5 = 32 from rfl, show (2 : Int) ^ 11 = 2048 from rfl, show (2 : Int) ^ 6 = 64 from rfl]
      rw [right_f _ _ _ _ _ _ K hK, Option.bind_some]
      have ev : okV (ofV n) = okD (1980 + n / 33554432) (n / 2097152 % 16) (n / 65536 % 32) (n / 2048 % 32) (n / 32 % 64) (n % 32 * 2) := rfl
      rw [ev]
      by_cases hc : okD (1980 + n / 33554432) (n / 2097152 % 16) (n / 65536 % 32) (n / 2048 % 32) (n / 32 % 64) (n % 32 * 2) = true
      · rw [if_pos hc, if_pos ⟨h0, h1, hc⟩]
      · rw [if_neg hc, if_neg (fun h => hc h.2.2)]
    · rw [decide_eq_true h0, decide_eq_false h1, if_neg (by decide), if_neg (fun h => h1 h.2.1)]
  · rw [decide_eq_false h0, if_neg (by simp), if_neg (fun h => h0 h.1)]
/-! Put -/
def putV (y m d h mi s : Int) : Int := (y - 1980) * 33554432 + m * 2097152 + d * 65536 + h * 2048 + mi * 32 + s / 2
theorem put_or (Y M D H I S : Int) (y0 : 0 ≤ Y) (y1 : Y ≤ 127) (m0 : 0 ≤ M) (m1 : M ≤ 15) (d0 : 0 ≤ D) (d1 : D ≤ 31) (h0 : 0 ≤ H) (h1 : H ≤ 31) (i0 : 0 ≤ I) (i1 : I ≤ 63) (s0 : 0 ≤ S) (s1 : S ≤ 31) :
    Go.bits .or .i64 (Go.bits .or .i64 (Go.bits .or .i64 (Go.bits .or .i64 (Go.bits .or .i64 (Y * 33554432) (M * 2097152)) (D * 65536)) (H * 2048)) (I * 32)) S = Y * 33554432 + M * 2097152 + D * 65536 + H * 2048 + I * 32 + S := by
  have o1 := or_add 25 Y (M * 2097152) y0 (by omega) (by omega) (by omega) (by omega)
  have o2 := or_add 21 (Y * 16 + M) (D * 65536) (by omega) (by omega) (by omega) (by omega) (by omega)
  have o3 := or_add 16 (Y * 512 + M * 32 + D) (H * 2048) (by omega) (by omega) (by omega) (by omega) (by omega)
  have o4 := or_add 11 (Y * 16384 + M * 1024 + D * 32 + H) (I * 32) (by omega) (by omega) (by omega) (by omega) (by omega)
  have o5 := or_add 5 (Y * 1048576 + M * 65536 + D * 2048 + H * 64 + I) S (by omega) (by omega) (by omega) (by omega) (by omega)
  rw [show (2 : Int) ^ 25 = 33554432 from rfl] at o1
  rw [show (2 : Int) ^ 21 = 2097152 from rfl, show (Y * 16 + M) * 2097152 = Y * 33554432 + M * 2097152 by omega] at o2
  rw [show (2 : Int) ^ 16 = 65536 from rfl, show (Y * 512 + M * 32 + D) * 65536 = Y * 33554432 + M * 2097152 + D * 65536 by omega] at o3
  rw [show (2 : Int) ^ 11 = 2048 from rfl, show (Y * 16384 + M * 1024 + D * 32 + H) * 2048 = Y * 33554432 + M * 2097152 + D * 65536 + H * 2048 by omega] at o4
  rw [show (2 : Int) ^ 5 = 32 from rfl, show (Y * 1048576 + M * 65536 + D * 2048 + H * 64 + I) * 32 = Y * 33554432 + M * 2097152 + D * 65536 + H * 2048 + I * 32 by omega] at o5
  rw [o1, o2, o3, o4, o5]
theorem put_f (K : Nat) (hK : 0 < K) (y m d h mi s : Int) : clock_Put.f K y m d h mi s = some (if okD y m d h mi s = true then (putV y m d h mi s, 0) else (0, 1)) := by
  unfold clock_Put.f
  rw [right_f _ _ _ _ _ _ K hK, Option.bind_some]
  by_cases hok : okD y m d h mi s = true
  · rw [if_pos hok, if_pos hok]
    have o := (okD_iff _ _ _ _ _ _).1 hok
    clear hok
    have hd := (dim_le y m).2
    obtain ⟨y1, y2, m1, m2, d1, d2, h1, h2, i1, i2, s1, s2, s3⟩ := o
    have et : Int.tdiv s 2 = s / 2 := Int.tdiv_eq_ediv_of_nonneg s1
    have hd2 : d ≤ 31 := by omega
    clear d2 hd
    rw [et, wid2 (y - 1980) (by omega) (by omega), wid2 ((y - 1980) * 33554432) (by omega) (by omega), wid2 (m * 2097152) (by omega) (by omega), wid2 (d * 65536) (by omega) (by omega), wid2 (h * 2048) (by omega) (by omega), wid2 (mi * 32) (by omega) (by omega), wid2 (s / 2) (by omega) (by omega)]
    rw [put_or (y - 1980) m d h mi (s / 2) (by omega) (by omega) (by omega) (by omega) (by omega) (by omega) (by omega) (by omega) (by omega) (by omega) (by omega) (by omega)]
    rfl
  · rw [if_neg hok, if_neg hok]
end Go.Proofs.YtodeagijmfoojaaDoor.PClock
