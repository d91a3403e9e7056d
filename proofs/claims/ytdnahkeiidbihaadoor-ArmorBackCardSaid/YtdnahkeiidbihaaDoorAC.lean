import Derived.Test.YtdnahkeiidbihaaDoorAB
namespace Go.Proofs.YtdnahkeiidbihaaDoor.PArmor
set_option linter.unusedVariables false
set_option linter.unusedSimpArgs false
open Go.RowKit Go.Proofs.YtdnahkeiidbihaaDoorW.PrintWords Go.Proofs.YtdnahkeiidbihaaDoorW.PrintLast Go.Proofs.YtdnahkeiidbihaaDoorW.PrintMore
/-! ### C. The program's Bytes -/
def ix (c : UInt8) : Int := Lib.indexByte alphaB.data.toList c
theorem ix_A_c : ∀ n : Fin 64, ix (A n.val) = (n.val : Int) := by decide +kernel
theorem ix_A (n : Nat) (h : n < 64) : ix (A n) = (n : Int) := ix_A_c ⟨n, h⟩
theorem A_ne_c : ∀ n : Fin 64, A n.val ≠ 61 := by decide +kernel
theorem A_ne (n : Nat) (h : n < 64) : A n ≠ 61 := A_ne_c ⟨n, h⟩
theorem ix_range_c : ∀ n : Fin 256, ix (UInt8.ofNat n.val) < 0 ∨ (0 ≤ ix (UInt8.ofNat n.val) ∧ ix (UInt8.ofNat n.val) < 64 ∧ A (ix (UInt8.ofNat n.val)).toNat = UInt8.ofNat n.val) := by decide +kernel
theorem ix_range (c : UInt8) : ix c < 0 ∨ ∃ n : Nat, ix c = (n : Int) ∧ n < 64 ∧ A n = c := by
  have h := ix_range_c ⟨c.toNat, c.toNat_lt⟩
  simp only [UInt8.ofNat_toNat] at h
  rcases h with h | ⟨h1, h2, h3⟩
  · exact Or.inl h
  · exact Or.inr ⟨(ix c).toNat, by omega, by omega, h3⟩
theorem or6 (x b : Nat) (hx : x < 67108864) (hb : b < 64) : Go.bits .or .u32 (((x : Int) * 64) % 4294967296) ((b : Int) % 4294967296) = ((x * 64 + b : Nat) : Int) := by
  have e1 : ((x : Int) * 64) % 4294967296 = ((2 ^ 6 * x : Nat) : Int) := by omega
  have e2 : (b : Int) % 4294967296 = ((b : Nat) : Int) := by omega
  rw [e1, e2, bits_or_u32_nat _ _ (by omega) (by omega), ← Nat.two_pow_add_eq_or_of_lt (show b < 2 ^ 6 by omega)]
  omega
theorem shl6 (x : Nat) (hx : x < 67108864) : ((x : Int) * 64) % 4294967296 = ((x * 64 : Nat) : Int) := by omega
theorem q_in (k : Nat) (sg : ByteArray) (n : Int) (v i : Nat) (hi4 : i < 4) (hi : i < sg.size) (hv : v < 67108864) :
    armor_quad.l0 (k + 1) sg n (v : Int) (i : Int) = if ix (sg[i]'hi) < 0 then some (⟨#[]⟩, false) else armor_quad.l0 k sg n ((v * 64 + (ix (sg[i]'hi)).toNat : Nat) : Int) ((i + 1 : Nat) : Int) := by
  rw [armor_quad.l0, if_pos (by omega), if_neg (by omega), if_pos (by omega), if_pos (by omega), bt_nat sg i hi]
  unfold strings_IndexByte.f
  rw [Option.bind_some]
  have e : (((sg[i]'hi).toNat : Nat) : Int).toNat.toUInt8 = sg[i]'hi := by rw [Int.toNat_natCast]; exact UInt8.ofNat_toNat
  rw [e, wid2 ((i : Int) + 1) (by omega) (by omega)]
  show (if ix (sg[i]'hi) < 0 then _ else _) = _
  by_cases h : ix (sg[i]'hi) < 0
  · rw [if_pos h, if_pos h]
  · rw [if_neg h, if_neg h]
    rcases ix_range (sg[i]'hi) with h2 | ⟨m, h2, h3, _⟩
    · exact absurd h2 h
    · show armor_quad.l0 k sg n (Go.bits .or .u32 _ (ix (sg[i]'hi) % 4294967296)) _ = _
      rw [h2, or6 v m hv h3, Int.toNat_natCast]
      rfl
theorem q_out (k : Nat) (sg : ByteArray) (n : Int) (v i : Nat) (hi4 : i < 4) (hi : sg.size ≤ i) (hv : v < 67108864) :
    armor_quad.l0 (k + 1) sg n (v : Int) (i : Int) = armor_quad.l0 k sg n ((v * 64 : Nat) : Int) ((i + 1 : Nat) : Int) := by
  rw [armor_quad.l0, if_pos (by omega), if_pos (by omega), shl6 v hv, wid2 ((i : Int) + 1) (by omega) (by omega)]
  rfl
def b3 (v : Nat) : ByteArray := ⟨#[UInt8.ofNat (v / 65536 % 256), UInt8.ofNat (v / 256 % 256), UInt8.ofNat (v % 256)]⟩
theorem b3_nums (v : Nat) : strOfNums [((v : Int) / 65536) % 256, ((v : Int) / 256) % 256, (v : Int) % 256] = b3 v := by
  unfold strOfNums b3
  have e1 : (((v : Int) / 65536) % 256).toNat = v / 65536 % 256 := by omega
  have e2 : (((v : Int) / 256) % 256).toNat = v / 256 % 256 := by omega
  have e3 : ((v : Int) % 256).toNat = v % 256 := by omega
  simp only [List.map_cons, List.map_nil, e1, e2, e3]
theorem q_end (k : Nat) (sg : ByteArray) (n v : Nat) (hn : n ≤ 3) :
    armor_quad.l0 (k + 1) sg (n : Int) (v : Int) 4 = some ((b3 v).extract 0 n, (Lib.trimS (((b3 v).extract n 3).data.toList) [0]).isEmpty) := by
  rw [armor_quad.l0, if_neg (by decide), Option.bind_some, b3_nums, if_pos (by omega), show (b3 v).size = 3 from rfl, if_pos (by omega), Int.toNat_natCast]
  unfold strings_Trim.f
  rw [if_pos ⟨by rw [ByteArray.size_extract]; show min 3 3 - n ≤ _; omega, by decide, by decide⟩, Option.bind_some]
  congr 1
  rw [ByteArray.toList_eq]
  show ((b3 v).extract 0 n, Lib.trimS _ _ == ([] : List UInt8)) = _
  congr 1
  generalize Lib.trimS ((b3 v).extract n 3).data.toList _ = l
  cases l <;> rfl
/-! the four signs of a group -/
theorem trim4 (c0 c1 c2 c3 : UInt8) (h : c3 ≠ 61) : Lib.trimRightB [c0, c1, c2, c3] 61 = [c0, c1, c2, c3] := by
  have hb : (c3 == 61) = false := beq_eq_false_iff_ne.mpr h
  simp [Lib.trimRightB, List.dropWhile, hb]
theorem trim3 (c0 c1 c2 : UInt8) (h : c2 ≠ 61) : Lib.trimRightB [c0, c1, c2, 61] 61 = [c0, c1, c2] := by
  have hb : (c2 == 61) = false := beq_eq_false_iff_ne.mpr h
  simp [Lib.trimRightB, List.dropWhile, hb]
theorem trim2 (c0 c1 : UInt8) (h : c1 ≠ 61) : Lib.trimRightB [c0, c1, 61, 61] 61 = [c0, c1] := by
  have hb : (c1 == 61) = false := beq_eq_false_iff_ne.mpr h
  simp [Lib.trimRightB, List.dropWhile, hb]
theorem trim1 (c0 : UInt8) : (Lib.trimRightB [c0, 61, 61, 61] 61).length ≤ 1 := by
  by_cases h : c0 = 61
  · subst h; simp [Lib.trimRightB, List.dropWhile]
  · have hb : (c0 == 61) = false := beq_eq_false_iff_ne.mpr h
    simp [Lib.trimRightB, List.dropWhile, hb]
theorem quad_head (c0 c1 c2 c3 : UInt8) (last : Bool) (sg : List UInt8) (h : Lib.trimRightB [c0, c1, c2, c3] 61 = sg) (hl : sg.length ≤ 4) :
    armor_quad.f 10 ⟨#[c0, c1, c2, c3]⟩ last = if sg.length ≤ 1 then some (⟨#[]⟩, false) else if sg.length ≤ 3 ∧ last = false then some (⟨#[]⟩, false) else armor_quad.l0 9 ⟨sg.toArray⟩ ((sg.length - 1 : Nat) : Int) 0 0 := by
  unfold armor_quad.f strings_TrimRight.f
  rw [if_pos ⟨rfl, by show 4 ≤ _; omega, by decide⟩, Option.bind_some]
  have e : Lib.trimRightB (⟨#[c0, c1, c2, c3]⟩ : ByteArray).data.toList ((⟨#[61]⟩ : ByteArray).data.toList.headD 0) = sg := h
  rw [e]
  have es : (⟨sg.toArray⟩ : ByteArray).size = sg.length := rfl
  rw [es]
  have ew : wrap64 ((sg.length : Int) - 1) = (sg.length : Int) - 1 := by unfold wrap64; omega
  rw [ew]
  by_cases h1 : sg.length ≤ 1
  · rw [if_pos (by omega), if_pos h1, armor_quad.j0, if_pos rfl]
  · rw [if_neg (by omega), if_neg h1]
    have en : (sg.length : Int) - 1 = ((sg.length - 1 : Nat) : Int) := by omega
    by_cases h3 : sg.length ≤ 3
    · rw [if_pos (by omega), armor_quad.j0]
      cases last with
      | true => rw [if_neg (by decide), if_neg (by simp), en]
      | false => rw [if_pos (by decide), if_pos ⟨h3, rfl⟩]
    · rw [if_neg (by omega), armor_quad.j0, if_neg (by decide), if_neg (fun h => h3 h.1), en]
theorem b3_full (v : Nat) : (b3 v).extract 0 3 = b3 v := rfl
theorem trim_nil : Lib.trimS [] [0] = [] := rfl
theorem q_good (k : Nat) (sg : ByteArray) (n : Int) (v i m : Nat) (hi4 : i < 4) (hi : i < sg.size) (hv : v < 67108864) (h : ix (sg[i]'hi) = (m : Int)) :
    armor_quad.l0 (k + 1) sg n (v : Int) (i : Int) = armor_quad.l0 k sg n ((v * 64 + m : Nat) : Int) ((i + 1 : Nat) : Int) := by
  rw [q_in k sg n v i hi4 hi hv, h, if_neg (by omega), Int.toNat_natCast]
theorem q_bad (k : Nat) (sg : ByteArray) (n : Int) (v i : Nat) (hi4 : i < 4) (hi : i < sg.size) (hv : v < 67108864) (h : ix (sg[i]'hi) < 0) :
    armor_quad.l0 (k + 1) sg n (v : Int) (i : Int) = some (⟨#[]⟩, false) := by
  rw [q_in k sg n v i hi4 hi hv, if_pos h]
theorem quad4 (c0 c1 c2 c3 : UInt8) (last : Bool) (h : c3 ≠ 61) :
    (∃ n0 n1 n2 n3 : Nat, n0 < 64 ∧ n1 < 64 ∧ n2 < 64 ∧ n3 < 64 ∧ A n0 = c0 ∧ A n1 = c1 ∧ A n2 = c2 ∧ A n3 = c3 ∧ armor_quad.f 10 ⟨#[c0, c1, c2, c3]⟩ last = some (b3 ((((0 * 64 + n0) * 64 + n1) * 64 + n2) * 64 + n3), true)) ∨
    ((ix c0 < 0 ∨ ix c1 < 0 ∨ ix c2 < 0 ∨ ix c3 < 0) ∧ armor_quad.f 10 ⟨#[c0, c1, c2, c3]⟩ last = some (⟨#[]⟩, false)) := by
  have hh := quad_head c0 c1 c2 c3 last [c0, c1, c2, c3] (trim4 c0 c1 c2 c3 h) (Nat.le_refl 4)
  rw [if_neg (by simp), if_neg (by simp)] at hh
  rw [hh]
  rcases ix_range c0 with h0 | ⟨n0, e0, l0, a0⟩
  · exact Or.inr ⟨Or.inl h0, q_bad 8 _ _ 0 0 (by omega) (by show 0 < 4; omega) (by omega) h0⟩
  · have s0 := q_good 8 ⟨[c0, c1, c2, c3].toArray⟩ ((4 - 1 : Nat) : Int) 0 0 n0 (by omega) (by show 0 < 4; omega) (by omega) e0
    rcases ix_range c1 with h1 | ⟨n1, e1, l1, a1⟩
    · exact Or.inr ⟨Or.inr (Or.inl h1), s0.trans (q_bad 7 _ _ _ 1 (by omega) (by show 1 < 4; omega) (by omega) h1)⟩
    · have s1 := q_good 7 ⟨[c0, c1, c2, c3].toArray⟩ ((4 - 1 : Nat) : Int) (0 * 64 + n0) 1 n1 (by omega) (by show 1 < 4; omega) (by omega) e1
      rcases ix_range c2 with h2 | ⟨n2, e2, l2, a2⟩
      · exact Or.inr ⟨Or.inr (Or.inr (Or.inl h2)), (s0.trans s1).trans (q_bad 6 _ _ _ 2 (by omega) (by show 2 < 4; omega) (by omega) h2)⟩
      · have s2 := q_good 6 ⟨[c0, c1, c2, c3].toArray⟩ ((4 - 1 : Nat) : Int) ((0 * 64 + n0) * 64 + n1) 2 n2 (by omega) (by show 2 < 4; omega) (by omega) e2
        rcases ix_range c3 with h3 | ⟨n3, e3, l3, a3⟩
        · exact Or.inr ⟨Or.inr (Or.inr (Or.inr h3)), ((s0.trans s1).trans s2).trans (q_bad 5 _ _ _ 3 (by omega) (by show 3 < 4; omega) (by omega) h3)⟩
        · have s3 := q_good 5 ⟨[c0, c1, c2, c3].toArray⟩ ((4 - 1 : Nat) : Int) (((0 * 64 + n0) * 64 + n1) * 64 + n2) 3 n3 (by omega) (by show 3 < 4; omega) (by omega) e3
          exact Or.inl ⟨n0, n1, n2, n3, l0, l1, l2, l3, a0, a1, a2, a3, ((((s0.trans s1).trans s2).trans s3).trans (q_end 4 _ 3 _ (by omega)))⟩
theorem trimS_one (x : UInt8) : (Lib.trimS [x] [0]).isEmpty = (x == 0) := by
  by_cases h : x = 0
  · subst h; rfl
  · have hb : (x == 0) = false := beq_eq_false_iff_ne.mpr h
    rw [hb]
    simp [Lib.trimS, Lib.trimLeftS, Lib.trimRightS, List.dropWhile, hb, h]
theorem trimS_two (x y : UInt8) : (Lib.trimS [x, y] [0]).isEmpty = (x == 0 && y == 0) := by
  by_cases h : y = 0
  · subst h
    by_cases h2 : x = 0
    · subst h2; rfl
    · have hb : (x == 0) = false := beq_eq_false_iff_ne.mpr h2
      rw [hb]
      simp [Lib.trimS, Lib.trimLeftS, Lib.trimRightS, List.dropWhile, hb, h2]
  · have hb : (y == 0) = false := beq_eq_false_iff_ne.mpr h
    rw [hb, Bool.and_false]
    by_cases h2 : x = 0
    · subst h2
      simp [Lib.trimS, Lib.trimLeftS, Lib.trimRightS, List.dropWhile, hb, h]
    · have hb2 : (x == 0) = false := beq_eq_false_iff_ne.mpr h2
      simp [Lib.trimS, Lib.trimLeftS, Lib.trimRightS, List.dropWhile, hb, h, hb2, h2]
theorem b3_tail2 (v : Nat) : ((b3 v).extract 2 3).data.toList = [UInt8.ofNat (v % 256)] := rfl
theorem b3_tail1 (v : Nat) : ((b3 v).extract 1 3).data.toList = [UInt8.ofNat (v / 256 % 256), UInt8.ofNat (v % 256)] := rfl
theorem quad3 (c0 c1 c2 : UInt8) (h : c2 ≠ 61) :
    (∃ n0 n1 n2 : Nat, n0 < 64 ∧ n1 < 64 ∧ n2 < 64 ∧ A n0 = c0 ∧ A n1 = c1 ∧ A n2 = c2 ∧ armor_quad.f 10 ⟨#[c0, c1, c2, 61]⟩ true = some ((b3 ((((0 * 64 + n0) * 64 + n1) * 64 + n2) * 64)).extract 0 2, UInt8.ofNat ((((0 * 64 + n0) * 64 + n1) * 64 + n2) * 64 % 256) == 0)) ∨
    ((ix c0 < 0 ∨ ix c1 < 0 ∨ ix c2 < 0) ∧ armor_quad.f 10 ⟨#[c0, c1, c2, 61]⟩ true = some (⟨#[]⟩, false)) := by
  have hh := quad_head c0 c1 c2 61 true [c0, c1, c2] (trim3 c0 c1 c2 h) (by show 3 ≤ 4; omega)
  rw [if_neg (by simp), if_neg (by simp)] at hh
  rw [hh]
  rcases ix_range c0 with h0 | ⟨n0, e0, l0, a0⟩
  · exact Or.inr ⟨Or.inl h0, q_bad 8 _ _ 0 0 (by omega) (by show 0 < 3; omega) (by omega) h0⟩
  · have s0 := q_good 8 ⟨[c0, c1, c2].toArray⟩ ((3 - 1 : Nat) : Int) 0 0 n0 (by omega) (by show 0 < 3; omega) (by omega) e0
    rcases ix_range c1 with h1 | ⟨n1, e1, l1, a1⟩
    · exact Or.inr ⟨Or.inr (Or.inl h1), s0.trans (q_bad 7 _ _ _ 1 (by omega) (by show 1 < 3; omega) (by omega) h1)⟩
    · have s1 := q_good 7 ⟨[c0, c1, c2].toArray⟩ ((3 - 1 : Nat) : Int) (0 * 64 + n0) 1 n1 (by omega) (by show 1 < 3; omega) (by omega) e1
      rcases ix_range c2 with h2 | ⟨n2, e2, l2, a2⟩
      · exact Or.inr ⟨Or.inr (Or.inr h2), (s0.trans s1).trans (q_bad 6 _ _ _ 2 (by omega) (by show 2 < 3; omega) (by omega) h2)⟩
      · have s2 := q_good 6 ⟨[c0, c1, c2].toArray⟩ ((3 - 1 : Nat) : Int) ((0 * 64 + n0) * 64 + n1) 2 n2 (by omega) (by show 2 < 3; omega) (by omega) e2
        have s3 := q_out 5 ⟨[c0, c1, c2].toArray⟩ ((3 - 1 : Nat) : Int) (((0 * 64 + n0) * 64 + n1) * 64 + n2) 3 (by omega) (by show 3 ≤ 3; omega) (by omega)
        have s4 := q_end 4 ⟨[c0, c1, c2].toArray⟩ 2 ((((0 * 64 + n0) * 64 + n1) * 64 + n2) * 64) (by omega)
        rw [b3_tail2, trimS_one] at s4
        exact Or.inl ⟨n0, n1, n2, l0, l1, l2, a0, a1, a2, (((s0.trans s1).trans s2).trans s3).trans s4⟩
theorem quad2 (c0 c1 : UInt8) (h : c1 ≠ 61) :
    (∃ n0 n1 : Nat, n0 < 64 ∧ n1 < 64 ∧ A n0 = c0 ∧ A n1 = c1 ∧ armor_quad.f 10 ⟨#[c0, c1, 61, 61]⟩ true = some ((b3 (((0 * 64 + n0) * 64 + n1) * 64 * 64)).extract 0 1, UInt8.ofNat (((0 * 64 + n0) * 64 + n1) * 64 * 64 / 256 % 256) == 0 && UInt8.ofNat (((0 * 64 + n0) * 64 + n1) * 64 * 64 % 256) == 0)) ∨
    ((ix c0 < 0 ∨ ix c1 < 0) ∧ armor_quad.f 10 ⟨#[c0, c1, 61, 61]⟩ true = some (⟨#[]⟩, false)) := by
  have hh := quad_head c0 c1 61 61 true [c0, c1] (trim2 c0 c1 h) (by show 2 ≤ 4; omega)
  rw [if_neg (by simp), if_neg (by simp)] at hh
  rw [hh]
  rcases ix_range c0 with h0 | ⟨n0, e0, l0, a0⟩
  · exact Or.inr ⟨Or.inl h0, q_bad 8 _ _ 0 0 (by omega) (by show 0 < 2; omega) (by omega) h0⟩
  · have s0 := q_good 8 ⟨[c0, c1].toArray⟩ ((2 - 1 : Nat) : Int) 0 0 n0 (by omega) (by show 0 < 2; omega) (by omega) e0
    rcases ix_range c1 with h1 | ⟨n1, e1, l1, a1⟩
    · exact Or.inr ⟨Or.inr h1, s0.trans (q_bad 7 _ _ _ 1 (by omega) (by show 1 < 2; omega) (by omega) h1)⟩
    · have s1 := q_good 7 ⟨[c0, c1].toArray⟩ ((2 - 1 : Nat) : Int) (0 * 64 + n0) 1 n1 (by omega) (by show 1 < 2; omega) (by omega) e1
      have s2 := q_out 6 ⟨[c0, c1].toArray⟩ ((2 - 1 : Nat) : Int) ((0 * 64 + n0) * 64 + n1) 2 (by omega) (by show 2 ≤ 2; omega) (by omega)
      have s3 := q_out 5 ⟨[c0, c1].toArray⟩ ((2 - 1 : Nat) : Int) (((0 * 64 + n0) * 64 + n1) * 64) 3 (by omega) (by show 2 ≤ 3; omega) (by omega)
      have s4 := q_end 4 ⟨[c0, c1].toArray⟩ 1 (((0 * 64 + n0) * 64 + n1) * 64 * 64) (by omega)
      rw [b3_tail1, trimS_two] at s4
      exact Or.inl ⟨n0, n1, l0, l1, a0, a1, (((s0.trans s1).trans s2).trans s3).trans s4⟩
end Go.Proofs.YtdnahkeiidbihaaDoor.PArmor
