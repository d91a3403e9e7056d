import Derived.Test.YtdnahkeiidbihaaDoorAH
import Derived.Test.YtdnahkeiidbihaaDoorPArmorx7
namespace Go.Proofs.YtdnahkeiidbihaaDoor.PArmor
set_option linter.unusedVariables false
set_option linter.unusedSimpArgs false
open Go.RowKit Go.Proofs.YtdnahkeiidbihaaDoorW.PrintWords Go.Proofs.YtdnahkeiidbihaaDoorW.PrintLast Go.Proofs.YtdnahkeiidbihaaDoorW.PrintMore
/-! ### F. The CRC: both are one -/
def refStep (c : Int) : Option Int := if Int.tmod c 2 = 1 then montageref03_xor.f 40 ((Int.tdiv c 2) % 4294967296) 3988292384 else some ((Int.tdiv c 2) % 4294967296)
def refIter : Nat → Int → Option Int
  | 0, c => some c
  | n + 1, c => (refStep c).bind (refIter n)
theorem refIter_c : ∀ i : Fin 256, refIter 8 (i.val : Int) = some (crcT i.val) := by decide +kernel
theorem rt_l1 : ∀ (n : Nat) (K : Nat) (x1 : List Int) (x2 c c' : Int), n ≤ 8 → 40 ≤ K → x1.length < 100000 → refIter n c = some c' →
    montageref03_table.l1 (K + n + 1) x1 x2 c ((8 - n : Nat) : Int) = montageref03_table.l0 K (x1 ++ [c']) (wrap64 (x2 + 1))
  | 0, K, x1, x2, c, c', _, hK, hl, h => by
    obtain rfl := Option.some.inj h
    rw [show K + 0 + 1 = K + 1 from rfl, montageref03_table.l1, if_neg (by decide), if_pos (by omega)]
  | n + 1, K, x1, x2, c, c', hn, hK, hl, h => by
    rw [refIter] at h
    obtain ⟨d, hd, h⟩ := Option.bind_eq_some_iff.mp h
    have ih := rt_l1 n K x1 x2 d c' (by omega) hK hl h
    have ew : wrap64 (((8 - (n + 1) : Nat) : Int) + 1) = ((8 - n : Nat) : Int) := by rw [wid2 _ (by omega) (by omega)]; omega
    rw [show K + (n + 1) + 1 = (K + n + 1) + 1 by omega, montageref03_table.l1, if_pos (by omega), ew]
    unfold refStep at hd
    by_cases hc : Int.tmod c 2 = 1
    · rw [if_pos hc] at hd
      rw [if_pos hc, at_rounds (montageref03_xor.mono _ _) (show 40 ≤ K + n + 1 by omega) hd, Option.bind_some, ih]
    · rw [if_neg hc] at hd
      rw [if_neg hc, Option.some.inj hd, ih]
theorem rt_l0 : ∀ (m i K : Nat) (x1 : List Int), i + m = 256 → x1.length = i → 40 ≤ K → montageref03_table.l0 (K + 10 * m + 1) x1 (i : Int) = some (x1 ++ (List.range' i m).map fun j => crcT j)
  | 0, i, K, x1, h, hl, hK => by
    rw [show K + 10 * 0 + 1 = K + 1 from rfl, montageref03_table.l0, if_neg (by omega)]
    simp
  | m + 1, i, K, x1, h, hl, hK => by
    have hc := refIter_c ⟨i, by omega⟩
    simp only [] at hc
    have h1 := rt_l1 8 (K + 10 * m + 1) x1 (i : Int) (i : Int) (crcT i) (Nat.le_refl 8) (by omega) (by omega) hc
    have ew : wrap64 ((i : Int) + 1) = ((i + 1 : Nat) : Int) := by rw [wid2 _ (by omega) (by omega)]; rfl
    rw [show K + 10 * (m + 1) + 1 = ((K + 10 * m + 1) + 8 + 1) + 1 by omega, montageref03_table.l0, if_pos (by omega)]
    rw [show ((i : Int)) % 4294967296 = (i : Int) by omega]
    rw [show (0 : Int) = ((8 - 8 : Nat) : Int) from rfl, h1, ew, rt_l0 m (i + 1) K (x1 ++ [crcT i]) (by omega) (by rw [List.length_append, hl]; rfl) hK]
    rw [List.append_assoc, List.range'_succ]
    rfl
def crcTab : List Int := (List.range' 0 256).map fun j => crcT j
theorem rtable_f (K : Nat) (hK : 3000 ≤ K) : montageref03_table.f K = some crcTab := by
  unfold montageref03_table.f
  obtain ⟨q, rfl⟩ : ∃ q, K = q + 10 * 256 + 1 := ⟨K - 2561, by omega⟩
  have h := rt_l0 256 0 q [] rfl rfl (by omega)
  rw [List.nil_append] at h
  exact h
theorem crcTab_get (i : Nat) (h : i < 256) : rd crcTab (i : Int) = crcT i := by
  unfold rd crcTab
  rw [Int.toNat_natCast, List.getD_eq_getElem?_getD, List.getElem?_map, List.getElem?_range' h]
  simp
theorem xor_u32_range (x y : Int) : 0 ≤ Go.bits .xor .u32 x y ∧ Go.bits .xor .u32 x y < 4294967296 := by
  show 0 ≤ IntKind.u32.wrap _ ∧ IntKind.u32.wrap _ < 4294967296
  rw [IntKind.wrap_u32]
  omega
theorem xor_u32_nat (a b : Nat) (ha : a < 4294967296) (hb : b < 4294967296) : Go.bits .xor .u32 (a : Int) (b : Int) = ((a ^^^ b : Nat) : Int) := by
  have hx : a ^^^ b < 2 ^ 32 := Nat.xor_lt_two_pow (by omega) (by omega)
  show IntKind.u32.wrap ((BitVec.ofInt 32 (a : Int) ^^^ BitVec.ofInt 32 (b : Int)).toNat : Int) = _
  rw [BitVec.toNat_xor, nat_u32 a ha, nat_u32 b hb, IntKind.wrap_u32]
  omega
theorem xor_u8_nat (a b : Nat) (ha : a < 256) (hb : b < 256) : Go.bits .xor .u8 (a : Int) (b : Int) = ((a ^^^ b : Nat) : Int) := by
  have hx : a ^^^ b < 2 ^ 8 := Nat.xor_lt_two_pow (by omega) (by omega)
  have e : ∀ n : Nat, n < 256 → (BitVec.ofInt 8 (n : Int)).toNat = n := fun n hn => by rw [BitVec.ofInt_natCast, BitVec.toNat_ofNat]; exact Nat.mod_eq_of_lt (by omega)
  show IntKind.u8.wrap ((BitVec.ofInt 8 (a : Int) ^^^ BitVec.ofInt 8 (b : Int)).toNat : Int) = _
  rw [BitVec.toNat_xor, e a ha, e b hb, IntKind.wrap_u8]
  omega
theorem int_nat (x : Int) (h : 0 ≤ x ∧ x < 4294967296) : ∃ n : Nat, x = (n : Int) ∧ n < 4294967296 := ⟨x.toNat, by omega, by omega⟩
theorem ro_l0 (s : ByteArray) (hs : s.size ≤ 1000000) : ∀ (m i K : Nat) (c : Nat), i + m = s.size → c < 4294967296 →
    montageref03_Of.l0 (K + m + 1) s crcTab (c : Int) (i : Int) = some (Go.bits .xor .u32 ((s.data.toList.drop i).foldl crcStep (c : Int)) 4294967295)
  | 0, i, K, c, h, hc => by
    have hd : s.data.toList.drop i = [] := List.drop_eq_nil_iff.2 (by rw [data_length]; omega)
    rw [show K + 0 + 1 = K + 1 from rfl, montageref03_Of.l0, if_neg (by omega), hd]
    rfl
  | m + 1, i, K, c, h, hc => by
    have hi : i < s.size := by omega
    have c1 : (i : Int) < (s.size : Int) := by omega
    have c2 : (0 : Int) ≤ (i : Int) := by omega
    have c3 : c % 256 < 4294967296 := by omega
    have hb := (s[i]'hi).toNat_lt
    have c4 : (s[i]'hi).toNat < 4294967296 := Nat.lt_trans hb (by decide)
    have e1 : Int.tmod (c : Int) 256 = ((c % 256 : Nat) : Int) := by rw [Int.tmod_eq_emod_of_nonneg (Int.natCast_nonneg _)]; rfl
    have e2 : (((s[i]'hi).toNat : Nat) : Int) % 4294967296 = (((s[i]'hi).toNat : Nat) : Int) := by omega
    have e3 : (Int.tdiv (c : Int) 256) % 4294967296 = ((c / 256 : Nat) : Int) := by
      rw [Int.tdiv_eq_ediv_of_nonneg (Int.natCast_nonneg _)]
      omega
    have hx : (c % 256) ^^^ (s[i]'hi).toNat < 256 := Nat.xor_lt_two_pow (n := 8) (Nat.mod_lt _ (by decide)) hb
    have ew : wrap64 ((i : Int) + 1) = ((i + 1 : Nat) : Int) := by rw [wid2 _ (by omega) (by omega)]; rfl
    have hlen : crcTab.length = 256 := by unfold crcTab; rw [List.length_map, List.length_range']
    have ek : K + (m + 1) + 1 = (K + m + 1) + 1 := rfl
    rw [ek, montageref03_Of.l0, if_pos c1, if_pos c2, bt_nat s i hi, e1, e2, xor_u32_nat _ _ c3 c4, if_pos (Int.natCast_nonneg _), if_pos (by rw [hlen]; exact Int.ofNat_lt.2 hx), e3, crcTab_get _ hx, ew]
    have hstep : crcStep (c : Int) (s[i]'hi) = Go.bits .xor .u32 ((c / 256 : Nat) : Int) (crcT ((c % 256) ^^^ (s[i]'hi).toNat)) := by
      unfold crcStep
      have e4 : (c : Int) % 256 = ((c % 256 : Nat) : Int) := rfl
      have e5 : (c : Int) / 256 = ((c / 256 : Nat) : Int) := rfl
      rw [e4, e5, xor_u8_nat _ _ (Nat.mod_lt _ (by decide)) hb, Int.toNat_natCast]
    rw [← hstep]
    have hr := crcStep_range (c : Int) (s[i]'hi)
    obtain ⟨c2, hc2, hc3⟩ := int_nat _ hr
    rw [hc2, ro_l0 s hs m (i + 1) K c2 (by omega) hc3, List.drop_eq_getElem_cons (i := i) (by rw [data_length]; exact hi), List.foldl_cons, get_data s i hi, hc2]
theorem xor_comm_u32 (x y : Int) : Go.bits .xor .u32 x y = Go.bits .xor .u32 y x := by
  show IntKind.u32.wrap ((BitVec.ofInt 32 x ^^^ BitVec.ofInt 32 y).toNat : Int) = IntKind.u32.wrap ((BitVec.ofInt 32 y ^^^ BitVec.ofInt 32 x).toNat : Int)
  rw [BitVec.xor_comm]
def crcV (s : ByteArray) : Int := Go.bits .xor .u32 4294967295 (crcFold s.data.toList)
theorem crc_f (s : ByteArray) (h : s.size ≤ 1000000) : crc_Of.f s = some (crcV s) := by unfold crc_Of.f; rw [if_pos (by omega)]; rfl
theorem rcrc_f (s : ByteArray) (h : s.size ≤ 1000000) (K : Nat) (hK : 3000 + s.size ≤ K) : montageref03_Of.f K s = some (crcV s) := by
  unfold montageref03_Of.f
  rw [rtable_f K (by omega), Option.bind_some]
  obtain ⟨q, rfl⟩ : ∃ q, K = q + s.size + 1 := ⟨K - s.size - 1, by omega⟩
  have h1 := ro_l0 s h s.size 0 q 4294967295 (by omega) (by omega)
  rw [List.drop_zero] at h1
  rw [show (4294967295 : Int) = ((4294967295 : Nat) : Int) from rfl, show (0 : Int) = ((0 : Nat) : Int) from rfl, h1]
  unfold crcV crcFold
  rw [xor_comm_u32]
  rfl
theorem crcV_range (s : ByteArray) : 0 ≤ crcV s ∧ crcV s < 4294967296 := xor_u32_range _ _
/-- The line of the sum. -/
def sumB (s : ByteArray) : List UInt8 := [UInt8.ofNat ((crcV s).toNat / 65536 % 256), UInt8.ofNat ((crcV s).toNat / 256 % 256), UInt8.ofNat ((crcV s).toNat % 256)]
theorem sum_nums (s : ByteArray) : strOfNums ([(crcV s / 65536) % 256, (crcV s / 256) % 256, (crcV s) % 256] : List Int) = ⟨(sumB s).toArray⟩ := by
  have h := crcV_range s
  unfold strOfNums sumB
  have e1 : ((crcV s / 65536) % 256).toNat = (crcV s).toNat / 65536 % 256 := by omega
  have e2 : ((crcV s / 256) % 256).toNat = (crcV s).toNat / 256 % 256 := by omega
  have e3 : ((crcV s) % 256).toNat = (crcV s).toNat % 256 := by omega
  simp only [List.map_cons, List.map_nil, e1, e2, e3]
def sumL (s : ByteArray) : ByteArray := (⟨#[61]⟩ : ByteArray) ++ ⟨(sB (sumB s)).toArray⟩
theorem sumL_size (s : ByteArray) : (sumL s).size = 5 := rfl
theorem sum_f (s : ByteArray) (h : s.size ≤ 1000000) : armor_sum.f s = some (sumL s) := by
  unfold armor_sum.f
  rw [crc_f s h, Option.bind_some, sum_nums, signs_f _ (by show 3 ≤ _; omega), Option.bind_some, if_pos (by show 1 + 4 ≤ _; omega)]
  rfl
theorem rsum_f (s : ByteArray) (h : s.size ≤ 1000000) (K : Nat) (hK : 3000 + s.size ≤ K) : montageref42_sum.f K s = some (sumL s) := by
  unfold montageref42_sum.f
  rw [rcrc_f s h K hK, Option.bind_some, sum_nums, rsigns_f _ (by show 3 ≤ _; omega) K (by show 40 * 3 + 100 ≤ K; omega), Option.bind_some, if_pos (by show 1 + 4 ≤ _; omega)]
  rfl
end Go.Proofs.YtdnahkeiidbihaaDoor.PArmor
