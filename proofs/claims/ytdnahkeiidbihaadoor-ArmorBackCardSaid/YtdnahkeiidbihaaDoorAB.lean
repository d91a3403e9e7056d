import Derived.Test.YtdnahkeiidbihaaDoorAA
namespace Go.Proofs.YtdnahkeiidbihaaDoor.PArmor
set_option linter.unusedVariables false
set_option linter.unusedSimpArgs false
open Go.RowKit Go.Proofs.YtdnahkeiidbihaaDoorW.PrintWords Go.Proofs.YtdnahkeiidbihaaDoorW.PrintLast Go.Proofs.YtdnahkeiidbihaaDoorW.PrintMore
/-! ### B. The reference's Signs -/
theorem wid2 (x : Int) (h0 : 0 ≤ x) (h1 : x ≤ 10000000000000) : wrap64 x = x := by unfold wrap64; omega
theorem bt_nat (s : ByteArray) (i : Nat) (h : i < s.size) : bt s (i : Int) = (((s[i]'h).toNat : Nat) : Int) := by
  unfold bt
  rw [dif_pos (by rw [Int.toNat_natCast]; exact h)]
  rfl
def bitN (b : UInt8) (j : Nat) : Int := ((b.toNat / 2 ^ j % 2 : Nat) : Int)
theorem bit_eq (b : UInt8) (j : Nat) (hj : j ≤ 7) : Int.tmod (shr .u8 ((b.toNat : Nat) : Int) (j : Int)) 2 = bitN b j := by
  unfold shr bitN
  rw [show min (j : Int).toNat IntKind.u8.bits = j by show min j 8 = j; omega]
  rw [show ((b.toNat : Nat) : Int) / 2 ^ j = ((b.toNat / 2 ^ j : Nat) : Int) by rw [Int.natCast_ediv, Int.natCast_pow]; rfl]
  rw [Int.tmod_eq_emod_of_nonneg (Int.natCast_nonneg _)]
  rfl
def bits8 (b : UInt8) : List Int := [bitN b 7, bitN b 6, bitN b 5, bitN b 4, bitN b 3, bitN b 2, bitN b 1, bitN b 0]
def bitsOf : List UInt8 → List Int
  | [] => []
  | b :: r => bits8 b ++ bitsOf r
theorem bitsOf_length : ∀ l, (bitsOf l).length = 8 * l.length
  | [] => rfl
  | b :: r => by rw [bitsOf, List.length_append, bitsOf_length r, List.length_cons]; show 8 + 8 * r.length = _; omega
theorem rl1_step (k : Nat) (s : ByteArray) (B : List Int) (i j : Nat) (hi : i < s.size) (hj : j ≤ 7) (hB : B.length < 100000000000000) :
    montageref42_Signs.l1 (k + 1) s B (i : Int) (j : Int) = montageref42_Signs.l1 k s (B ++ [bitN (s[i]'hi) j]) (i : Int) ((j : Int) - 1) := by
  rw [montageref42_Signs.l1, if_pos (by omega), if_pos (by omega), if_pos (by omega), if_pos (by omega), if_pos (by omega), bt_nat s i hi, bit_eq _ j hj]
  rw [show wrap64 ((j : Int) - 1) = (j : Int) - 1 by unfold wrap64; omega]
theorem rl1 (k : Nat) (s : ByteArray) (B : List Int) (i : Nat) (hi : i < s.size) (hs : s.size ≤ 1000000) (hB : B.length + 8 < 100000000000000) :
    montageref42_Signs.l1 (k + 9) s B (i : Int) 7 = montageref42_Signs.l0 k s (B ++ bits8 (s[i]'hi)) ((i + 1 : Nat) : Int) := by
  have st := fun k B j (hj : j ≤ 7) hB => rl1_step k s B i j hi hj hB
  have h7 := st (k + 8) B 7 (by omega) (by omega)
  have h6 := st (k + 7) (B ++ [bitN (s[i]'hi) 7]) 6 (by omega) (by simp only [List.length_append, List.length_cons, List.length_nil]; omega)
  have h5 := st (k + 6) (B ++ [bitN (s[i]'hi) 7] ++ [bitN (s[i]'hi) 6]) 5 (by omega) (by simp only [List.length_append, List.length_cons, List.length_nil]; omega)
  have h4 := st (k + 5) (B ++ [bitN (s[i]'hi) 7] ++ [bitN (s[i]'hi) 6] ++ [bitN (s[i]'hi) 5]) 4 (by omega) (by simp only [List.length_append, List.length_cons, List.length_nil]; omega)
  have h3 := st (k + 4) (B ++ [bitN (s[i]'hi) 7] ++ [bitN (s[i]'hi) 6] ++ [bitN (s[i]'hi) 5] ++ [bitN (s[i]'hi) 4]) 3 (by omega) (by simp only [List.length_append, List.length_cons, List.length_nil]; omega)
  have h2 := st (k + 3) (B ++ [bitN (s[i]'hi) 7] ++ [bitN (s[i]'hi) 6] ++ [bitN (s[i]'hi) 5] ++ [bitN (s[i]'hi) 4] ++ [bitN (s[i]'hi) 3]) 2 (by omega) (by simp only [List.length_append, List.length_cons, List.length_nil]; omega)
  have h1 := st (k + 2) (B ++ [bitN (s[i]'hi) 7] ++ [bitN (s[i]'hi) 6] ++ [bitN (s[i]'hi) 5] ++ [bitN (s[i]'hi) 4] ++ [bitN (s[i]'hi) 3] ++ [bitN (s[i]'hi) 2]) 1 (by omega) (by simp only [List.length_append, List.length_cons, List.length_nil]; omega)
  have h0 := st (k + 1) (B ++ [bitN (s[i]'hi) 7] ++ [bitN (s[i]'hi) 6] ++ [bitN (s[i]'hi) 5] ++ [bitN (s[i]'hi) 4] ++ [bitN (s[i]'hi) 3] ++ [bitN (s[i]'hi) 2] ++ [bitN (s[i]'hi) 1]) 0 (by omega) (by simp only [List.length_append, List.length_cons, List.length_nil]; omega)
  rw [show k + 9 = k + 8 + 1 from rfl, show (7 : Int) = ((7 : Nat) : Int) from rfl, h7]
  rw [show ((7 : Nat) : Int) - 1 = ((6 : Nat) : Int) from rfl, show k + 8 = k + 7 + 1 from rfl, h6]
  rw [show ((6 : Nat) : Int) - 1 = ((5 : Nat) : Int) from rfl, show k + 7 = k + 6 + 1 from rfl, h5]
  rw [show ((5 : Nat) : Int) - 1 = ((4 : Nat) : Int) from rfl, show k + 6 = k + 5 + 1 from rfl, h4]
  rw [show ((4 : Nat) : Int) - 1 = ((3 : Nat) : Int) from rfl, show k + 5 = k + 4 + 1 from rfl, h3]
  rw [show ((3 : Nat) : Int) - 1 = ((2 : Nat) : Int) from rfl, show k + 4 = k + 3 + 1 from rfl, h2]
  rw [show ((2 : Nat) : Int) - 1 = ((1 : Nat) : Int) from rfl, show k + 3 = k + 2 + 1 from rfl, h1]
  rw [show ((1 : Nat) : Int) - 1 = ((0 : Nat) : Int) from rfl, show k + 2 = k + 1 + 1 from rfl, h0]
  rw [montageref42_Signs.l1, if_neg (by decide), wid2 ((i : Int) + 1) (by omega) (by omega)]
  simp only [List.append_assoc, List.cons_append, List.nil_append, bits8]
  rfl
theorem rl0 (s : ByteArray) (hs : s.size ≤ 1000000) : ∀ (r i k : Nat) (B : List Int), i + r = s.size → B.length ≤ 8 * i →
    montageref42_Signs.l0 (k + 10 * r + 1) s B (i : Int) = montageref42_Signs.l2 k (B ++ bitsOf (s.data.toList.drop i)) := by
  intro r
  induction r with
  | zero =>
    intro i k B h hB
    have : s.data.toList.drop i = [] := List.drop_eq_nil_iff.2 (by rw [data_length]; omega)
    rw [show k + 10 * 0 + 1 = k + 1 from rfl, montageref42_Signs.l0, if_neg (by omega), this, bitsOf, List.append_nil]
  | succ r ih =>
    intro i k B h hB
    have hi : i < s.size := by omega
    rw [show k + 10 * (r + 1) + 1 = (k + 10 * r + 1 + 9) + 1 by omega, montageref42_Signs.l0, if_pos (by omega), rl1 _ s B i hi hs (by omega)]
    rw [ih (i + 1) k _ (by omega) (by rw [List.length_append]; show B.length + 8 ≤ _; omega)]
    rw [List.drop_eq_getElem_cons (i := i) (by rw [data_length]; exact hi), bitsOf, get_data s i hi, List.append_assoc]
/-- The value of six bits. -/
def val6 (a b c d e f : Int) : Int := 2 * (2 * (2 * (2 * (2 * a + b) + c) + d) + e) + f
def sext : List Int → List UInt8
  | a :: b :: c :: d :: e :: f :: r => A (val6 a b c d e f).toNat :: sext r
  | _ => []
def Bit (x : Int) : Prop := x = 0 ∨ x = 1
theorem bitN_bit (b : UInt8) (j : Nat) : Bit (bitN b j) := by
  unfold Bit bitN
  have : b.toNat / 2 ^ j % 2 < 2 := Nat.mod_lt _ (by omega)
  omega
theorem bits8_bit (b : UInt8) : ∀ x ∈ bits8 b, Bit x := by
  intro x hx
  simp only [bits8, List.mem_cons, List.not_mem_nil, or_false] at hx
  rcases hx with rfl | rfl | rfl | rfl | rfl | rfl | rfl | rfl <;> exact bitN_bit _ _
theorem bitsOf_bit : ∀ l, ∀ x ∈ bitsOf l, Bit x
  | [], x, hx => by cases hx
  | b :: r, x, hx => by
    rw [bitsOf, List.mem_append] at hx
    rcases hx with hx | hx
    · exact bits8_bit b x hx
    · exact bitsOf_bit r x hx
theorem rl4_step (k : Nat) (X : List Int) (out : ByteArray) (i j : Nat) (v : Int) (hi : i + j < X.length) (hX : X.length ≤ 100000000) (hj : j < 6) (hv : 0 ≤ v ∧ v ≤ 1000) (hb : Bit (X[i + j]'hi)) :
    montageref42_Signs.l4 (k + 1) X out (i : Int) v (j : Int) = montageref42_Signs.l4 k X out (i : Int) (2 * v + X[i + j]'hi) ((j + 1 : Nat) : Int) := by
  have e : wrap64 ((i : Int) + (j : Int)) = ((i + j : Nat) : Int) := by rw [wid2 _ (by omega) (by omega)]; omega
  have hr : rd X ((i + j : Nat) : Int) = X[i + j]'hi := by
    unfold rd
    rw [Int.toNat_natCast, List.getD_eq_getElem?_getD, List.getElem?_eq_getElem hi]
    rfl
  have hb2 : 0 ≤ X[i + j]'hi ∧ X[i + j]'hi ≤ 1 := by rcases hb with h | h <;> omega
  rw [montageref42_Signs.l4, if_pos (by omega), e, if_pos (by omega), if_pos (by omega), hr, wid2 (2 * v) (by omega) (by omega)]
  rw [wid2 (X[i + j]'hi) (by omega) (by omega), wid2 (2 * v + X[i + j]'hi) (by omega) (by omega), wid2 ((j : Int) + 1) (by omega) (by omega)]
  rfl
theorem alpha_f : montageref42_alphabet.f = some alphaB := rfl
theorem alpha_size : alphaB.size = 64 := rfl
theorem alpha_ext (n : Nat) (h : n < 64) : (alphaB.extract n (n + 1)) = ⟨#[A n]⟩ := by
  have : ∀ i : Fin 64, (alphaB.extract i.val (i.val + 1)) = ⟨#[A i.val]⟩ := by decide +kernel
  exact this ⟨n, h⟩
theorem val6_range (a b c d e f : Int) (ha : Bit a) (hb : Bit b) (hc : Bit c) (hd : Bit d) (he : Bit e) (hf : Bit f) : 0 ≤ val6 a b c d e f ∧ val6 a b c d e f < 64 := by
  unfold Bit val6 at *
  omega
theorem rl4 (k : Nat) (X : List Int) (out : ByteArray) (i : Nat) (a b c d e f : Int) (r : List Int) (hX : X.length ≤ 100000000) (hd : X.drop i = a :: b :: c :: d :: e :: f :: r) (hb : ∀ x ∈ X, Bit x) (ho : out.size ≤ 1000000000) :
    montageref42_Signs.l4 (k + 7) X out (i : Int) 0 0 = montageref42_Signs.l3 k X (out ++ ⟨#[A (val6 a b c d e f).toNat]⟩) ((i + 6 : Nat) : Int) := by
  have hl : (X.drop i).length = r.length + 6 := by rw [hd]; rfl
  rw [List.length_drop] at hl
  have gx : ∀ (j : Nat) (x : Int), (X.drop i)[j]? = some x → ∀ h : i + j < X.length, X[i + j]'h = x := by
    intro j x hj h
    rw [List.getElem?_drop, List.getElem?_eq_getElem h] at hj
    exact Option.some.inj hj
  have g0 := gx 0 a (by rw [hd]; rfl) (by omega)
  have g1 := gx 1 b (by rw [hd]; rfl) (by omega)
  have g2 := gx 2 c (by rw [hd]; rfl) (by omega)
  have g3 := gx 3 d (by rw [hd]; rfl) (by omega)
  have g4 := gx 4 e (by rw [hd]; rfl) (by omega)
  have g5 := gx 5 f (by rw [hd]; rfl) (by omega)
  have b0 : Bit a := g0 ▸ hb _ (List.getElem_mem _)
  have b1 : Bit b := g1 ▸ hb _ (List.getElem_mem _)
  have b2 : Bit c := g2 ▸ hb _ (List.getElem_mem _)
  have b3 : Bit d := g3 ▸ hb _ (List.getElem_mem _)
  have b4 : Bit e := g4 ▸ hb _ (List.getElem_mem _)
  have b5 : Bit f := g5 ▸ hb _ (List.getElem_mem _)
  have s0 := rl4_step (k + 6) X out i 0 0 (by omega) hX (by omega) (by omega) (by rw [g0]; exact b0)
  rw [g0] at s0
  have s1 := rl4_step (k + 5) X out i 1 (2 * 0 + a) (by omega) hX (by omega) (by unfold Bit at *; omega) (by rw [g1]; exact b1)
  rw [g1] at s1
  have s2 := rl4_step (k + 4) X out i 2 (2 * (2 * 0 + a) + b) (by omega) hX (by omega) (by unfold Bit at *; omega) (by rw [g2]; exact b2)
  rw [g2] at s2
  have s3 := rl4_step (k + 3) X out i 3 (2 * (2 * (2 * 0 + a) + b) + c) (by omega) hX (by omega) (by unfold Bit at *; omega) (by rw [g3]; exact b3)
  rw [g3] at s3
  have s4 := rl4_step (k + 2) X out i 4 (2 * (2 * (2 * (2 * 0 + a) + b) + c) + d) (by omega) hX (by omega) (by unfold Bit at *; omega) (by rw [g4]; exact b4)
  rw [g4] at s4
  have s5 := rl4_step (k + 1) X out i 5 (2 * (2 * (2 * (2 * (2 * 0 + a) + b) + c) + d) + e) (by omega) hX (by omega) (by unfold Bit at *; omega) (by rw [g5]; exact b5)
  rw [g5] at s5
  have hv := val6_range a b c d e f b0 b1 b2 b3 b4 b5
  have ev : 2 * (2 * (2 * (2 * (2 * (2 * 0 + a) + b) + c) + d) + e) + f = val6 a b c d e f := by unfold val6; omega
  rw [ev] at s5
  rw [show (0 : Int) = ((0 : Nat) : Int) from rfl] at *
  rw [show k + 7 = k + 6 + 1 from rfl, s0, show k + 6 = k + 5 + 1 from rfl, s1, show k + 5 = k + 4 + 1 from rfl, s2, show k + 4 = k + 3 + 1 from rfl, s3, show k + 3 = k + 2 + 1 from rfl, s4, show k + 2 = k + 1 + 1 from rfl, s5]
  obtain ⟨n, hn⟩ : ∃ n : Nat, val6 a b c d e f = (n : Int) := ⟨(val6 a b c d e f).toNat, by omega⟩
  rw [hn] at hv ⊢
  rw [montageref42_Signs.l4, if_neg (by decide), alpha_f, Option.bind_some, alpha_size, wid2 ((n : Int) + 1) (by omega) (by omega), if_pos (by omega), if_pos (by omega), if_pos (by omega), wid2 ((i : Int) + 6) (by omega) (by omega)]
  rw [Int.toNat_natCast, show ((n : Int) + 1).toNat = n + 1 by omega, alpha_ext n (by omega)]
  rw [if_pos (show out.size + (⟨#[A n]⟩ : ByteArray).size ≤ 9223372036854775807 by show out.size + 1 ≤ _; omega)]
  rfl
theorem sext_step (a b c d e f : Int) (r : List Int) : sext (a :: b :: c :: d :: e :: f :: r) = A (val6 a b c d e f).toNat :: sext r := rfl
theorem bytes_snoc (out : ByteArray) (c : UInt8) : out ++ (⟨#[c]⟩ : ByteArray) = ⟨(out.data.toList ++ [c]).toArray⟩ := by
  apply ByteArray.ext
  rw [ByteArray.data_append]
  apply Array.toList_inj.1
  rw [Array.toList_append]
theorem bytes_eta2 (out : ByteArray) : (⟨out.data.toList.toArray⟩ : ByteArray) = out := rfl
theorem rl3 (X : List Int) (hX : X.length ≤ 100000000) (hb : ∀ x ∈ X, Bit x) : ∀ (m i k : Nat) (out : ByteArray), i + 6 * m = X.length → out.size ≤ i →
    montageref42_Signs.l3 (k + 8 * m + 1) X out (i : Int) = montageref42_Signs.l5 k ⟨(out.data.toList ++ sext (X.drop i)).toArray⟩ := by
  intro m
  induction m with
  | zero =>
    intro i k out h ho
    have hn : X.drop i = [] := List.drop_eq_nil_iff.2 (by omega)
    rw [show k + 8 * 0 + 1 = k + 1 from rfl, montageref42_Signs.l3, if_neg (by omega), hn, show sext [] = [] from rfl, List.append_nil]
  | succ m ih =>
    intro i k out h ho
    have hl : (X.drop i).length = 6 * m + 6 := by rw [List.length_drop]; omega
    match hd : X.drop i, hl with
    | a :: b :: c :: d :: e :: f :: r, hl =>
      have hr : X.drop (i + 6) = r := by rw [← List.drop_drop, hd]; rfl
      rw [show k + 8 * (m + 1) + 1 = (k + 8 * m + 1 + 7) + 1 by omega, montageref42_Signs.l3, if_pos (by omega), rl4 _ X out i a b c d e f r hX hd hb (by omega)]
      rw [ih (i + 6) k _ (by omega) (by rw [ByteArray.size_append]; show out.size + 1 ≤ _; omega), hr, sext_step, bytes_snoc]
      simp only [List.append_assoc, List.cons_append, List.nil_append]
theorem rl2 (k : Nat) : ∀ (p : Nat) (X : List Int), (X.length + p) % 6 = 0 → p < 6 → (0 < p → X.length % 6 ≠ 0) → (∀ q, 0 < q → q < p → (X.length + q) % 6 ≠ 0) → X.length + p ≤ 100000000 →
    montageref42_Signs.l2 (k + p + 1) X = montageref42_Signs.l3 k (X ++ List.replicate p 0) ⟨#[]⟩ 0 := by
  intro p
  induction p with
  | zero =>
    intro X h _ _ _ _
    rw [show k + 0 + 1 = k + 1 from rfl, montageref42_Signs.l2, if_pos (by omega), List.replicate_zero, List.append_nil]
  | succ p ih =>
    intro X h hp h0 hq hX
    have h1 := h0 (by omega)
    rw [show k + (p + 1) + 1 = (k + p + 1) + 1 by omega, montageref42_Signs.l2, if_neg (by omega), if_pos (by omega)]
    have hl : (X ++ [(0 : Int)]).length = X.length + 1 := by rw [List.length_append]; rfl
    have ih2 := ih (X ++ [0])
    rw [hl] at ih2
    have a1 : 0 < p → (X.length + 1) % 6 ≠ 0 := fun hp0 => hq 1 (by omega) (by omega)
    have a2 : ∀ q, 0 < q → q < p → (X.length + 1 + q) % 6 ≠ 0 := fun q hq0 hqp => by have := hq (q + 1) (by omega) (by omega); omega
    rw [ih2 (by omega) (by omega) a1 a2 (by omega), List.append_assoc]
    rfl
theorem bit_sum (b : UInt8) : bitN b 7 = ((b.toNat / 128 % 2 : Nat) : Int) ∧ bitN b 6 = ((b.toNat / 64 % 2 : Nat) : Int) ∧ bitN b 5 = ((b.toNat / 32 % 2 : Nat) : Int) ∧ bitN b 4 = ((b.toNat / 16 % 2 : Nat) : Int) ∧ bitN b 3 = ((b.toNat / 8 % 2 : Nat) : Int) ∧ bitN b 2 = ((b.toNat / 4 % 2 : Nat) : Int) ∧ bitN b 1 = ((b.toNat / 2 % 2 : Nat) : Int) ∧ bitN b 0 = ((b.toNat / 1 % 2 : Nat) : Int) := ⟨rfl, rfl, rfl, rfl, rfl, rfl, rfl, rfl⟩
theorem n0_of (a : Nat) (h : a < 256) : (val6 ((a / 128 % 2 : Nat) : Int) ((a / 64 % 2 : Nat) : Int) ((a / 32 % 2 : Nat) : Int) ((a / 16 % 2 : Nat) : Int) ((a / 8 % 2 : Nat) : Int) ((a / 4 % 2 : Nat) : Int)).toNat = a / 4 := by unfold val6; omega
theorem n1_of (a b : Nat) (h : b < 256) : (val6 ((a / 2 % 2 : Nat) : Int) ((a / 1 % 2 : Nat) : Int) ((b / 128 % 2 : Nat) : Int) ((b / 64 % 2 : Nat) : Int) ((b / 32 % 2 : Nat) : Int) ((b / 16 % 2 : Nat) : Int)).toNat = a % 4 * 16 + b / 16 := by unfold val6; omega
theorem n1_last (a : Nat) : (val6 ((a / 2 % 2 : Nat) : Int) ((a / 1 % 2 : Nat) : Int) 0 0 0 0).toNat = a % 4 * 16 := by unfold val6; omega
theorem n2_of (b c : Nat) (h : c < 256) : (val6 ((b / 8 % 2 : Nat) : Int) ((b / 4 % 2 : Nat) : Int) ((b / 2 % 2 : Nat) : Int) ((b / 1 % 2 : Nat) : Int) ((c / 128 % 2 : Nat) : Int) ((c / 64 % 2 : Nat) : Int)).toNat = b % 16 * 4 + c / 64 := by unfold val6; omega
theorem n2_last (b : Nat) : (val6 ((b / 8 % 2 : Nat) : Int) ((b / 4 % 2 : Nat) : Int) ((b / 2 % 2 : Nat) : Int) ((b / 1 % 2 : Nat) : Int) 0 0).toNat = b % 16 * 4 := by unfold val6; omega
theorem n3_of (c : Nat) : (val6 ((c / 32 % 2 : Nat) : Int) ((c / 16 % 2 : Nat) : Int) ((c / 8 % 2 : Nat) : Int) ((c / 4 % 2 : Nat) : Int) ((c / 2 % 2 : Nat) : Int) ((c / 1 % 2 : Nat) : Int)).toNat = c % 64 := by unfold val6; omega
theorem v0_of (a : UInt8) : (val6 (bitN a 7) (bitN a 6) (bitN a 5) (bitN a 4) (bitN a 3) (bitN a 2)).toNat = a.toNat / 4 := n0_of a.toNat a.toNat_lt
theorem v1_of (a b : UInt8) : (val6 (bitN a 1) (bitN a 0) (bitN b 7) (bitN b 6) (bitN b 5) (bitN b 4)).toNat = a.toNat % 4 * 16 + b.toNat / 16 := n1_of a.toNat b.toNat b.toNat_lt
theorem v1_last (a : UInt8) : (val6 (bitN a 1) (bitN a 0) 0 0 0 0).toNat = a.toNat % 4 * 16 := n1_last a.toNat
theorem v2_of (b c : UInt8) : (val6 (bitN b 3) (bitN b 2) (bitN b 1) (bitN b 0) (bitN c 7) (bitN c 6)).toNat = b.toNat % 16 * 4 + c.toNat / 64 := n2_of b.toNat c.toNat c.toNat_lt
theorem v2_last (b : UInt8) : (val6 (bitN b 3) (bitN b 2) (bitN b 1) (bitN b 0) 0 0).toNat = b.toNat % 16 * 4 := n2_last b.toNat
theorem v3_of (c : UInt8) : (val6 (bitN c 5) (bitN c 4) (bitN c 3) (bitN c 2) (bitN c 1) (bitN c 0)).toNat = c.toNat % 64 := n3_of c.toNat
/-- How many bits and signs are wanted behind. -/
def padB (n : Nat) : Nat := if n % 3 = 0 then 0 else if n % 3 = 1 then 4 else 2
def padS (n : Nat) : Nat := if n % 3 = 0 then 0 else if n % 3 = 1 then 2 else 1
theorem pad_cases (n : Nat) : (n % 3 = 0 ∧ padB n = 0 ∧ padS n = 0) ∨ (n % 3 = 1 ∧ padB n = 4 ∧ padS n = 2) ∨ (n % 3 = 2 ∧ padB n = 2 ∧ padS n = 1) := by
  unfold padB padS
  by_cases h0 : n % 3 = 0
  · rw [if_pos h0, if_pos h0]; exact Or.inl ⟨h0, rfl, rfl⟩
  · rw [if_neg h0, if_neg h0]
    by_cases h1 : n % 3 = 1
    · rw [if_pos h1, if_pos h1]; exact Or.inr (Or.inl ⟨h1, rfl, rfl⟩)
    · rw [if_neg h1, if_neg h1]; exact Or.inr (Or.inr ⟨by omega, rfl, rfl⟩)
theorem sext_sB : ∀ l : List UInt8, sext (bitsOf l ++ List.replicate (padB l.length) 0) ++ List.replicate (padS l.length) 61 = sB l
  | [] => rfl
  | [a] => by
    show [A (val6 (bitN a 7) (bitN a 6) (bitN a 5) (bitN a 4) (bitN a 3) (bitN a 2)).toNat, A (val6 (bitN a 1) (bitN a 0) 0 0 0 0).toNat, 61, 61] = _
    rw [v0_of, v1_last]; rfl
  | [a, b] => by
    show [A (val6 (bitN a 7) (bitN a 6) (bitN a 5) (bitN a 4) (bitN a 3) (bitN a 2)).toNat, A (val6 (bitN a 1) (bitN a 0) (bitN b 7) (bitN b 6) (bitN b 5) (bitN b 4)).toNat, A (val6 (bitN b 3) (bitN b 2) (bitN b 1) (bitN b 0) 0 0).toNat, 61] = _
    rw [v0_of, v1_of, v2_last]; rfl
  | a :: b :: c :: r => by
    have ih := sext_sB r
    have p1 : padB (a :: b :: c :: r).length = padB r.length := by
      have e : (r.length + 1 + 1 + 1) % 3 = r.length % 3 := by omega
      simp only [padB, List.length_cons, e]
    have p2 : padS (a :: b :: c :: r).length = padS r.length := by
      have e : (r.length + 1 + 1 + 1) % 3 = r.length % 3 := by omega
      simp only [padS, List.length_cons, e]
    rw [p1, p2]
    show A (val6 (bitN a 7) (bitN a 6) (bitN a 5) (bitN a 4) (bitN a 3) (bitN a 2)).toNat :: A (val6 (bitN a 1) (bitN a 0) (bitN b 7) (bitN b 6) (bitN b 5) (bitN b 4)).toNat :: A (val6 (bitN b 3) (bitN b 2) (bitN b 1) (bitN b 0) (bitN c 7) (bitN c 6)).toNat :: A (val6 (bitN c 5) (bitN c 4) (bitN c 3) (bitN c 2) (bitN c 1) (bitN c 0)).toNat :: (sext (bitsOf r ++ List.replicate (padB r.length) 0) ++ List.replicate (padS r.length) 61) = _
    rw [v0_of, v1_of, v2_of, v3_of, ih]; rfl
theorem rl5 (k : Nat) : ∀ (p : Nat) (out : ByteArray), (out.size + p) % 4 = 0 → p < 4 → (0 < p → out.size % 4 ≠ 0) → (∀ q, 0 < q → q < p → (out.size + q) % 4 ≠ 0) → out.size + p ≤ 100000000 →
    montageref42_Signs.l5 (k + p + 1) out = some ⟨(out.data.toList ++ List.replicate p 61).toArray⟩ := by
  intro p
  induction p with
  | zero =>
    intro out h _ _ _ _
    rw [show k + 0 + 1 = k + 1 from rfl, montageref42_Signs.l5, if_pos (by omega), List.replicate_zero, List.append_nil]
  | succ p ih =>
    intro out h hp h0 hq hX
    have h1 := h0 (by omega)
    have hl : (out ++ (⟨#[61]⟩ : ByteArray)).size = out.size + 1 := by rw [ByteArray.size_append]; rfl
    rw [show k + (p + 1) + 1 = (k + p + 1) + 1 by omega, montageref42_Signs.l5, if_neg (by omega), if_pos (by omega)]
    have ih2 := ih (out ++ (⟨#[61]⟩ : ByteArray))
    rw [hl] at ih2
    have a1 : 0 < p → (out.size + 1) % 4 ≠ 0 := fun hp0 => hq 1 (by omega) (by omega)
    have a2 : ∀ q, 0 < q → q < p → (out.size + 1 + q) % 4 ≠ 0 := fun q hq0 hqp => by have := hq (q + 1) (by omega) (by omega); omega
    rw [ih2 (by omega) (by omega) a1 a2 (by omega), bytes_snoc]
    simp only [List.append_assoc, List.cons_append, List.nil_append]
    rfl
theorem sext_length : ∀ (m : Nat) (X : List Int), X.length = 6 * m → (sext X).length = m
  | 0, X, h => by rw [List.length_eq_zero_iff.1 h]; rfl
  | m + 1, X, h => by
    match X, h with
    | a :: b :: c :: d :: e :: f :: r, h =>
      rw [sext_step, List.length_cons, sext_length m r (by simp only [List.length_cons] at h; omega)]
theorem rsigns_f (s : ByteArray) (hs : s.size ≤ 100000) (K : Nat) (hK : 40 * s.size + 100 ≤ K) : montageref42_Signs.f K s = some ⟨(sB s.data.toList).toArray⟩ := by
  unfold montageref42_Signs.f
  have hl := data_length s
  have hpc := pad_cases s.size
  have hb : (bitsOf s.data.toList).length = 8 * s.size := by rw [bitsOf_length, hl]
  obtain ⟨m, hm⟩ : ∃ m, 8 * s.size + padB s.size = 6 * m := ⟨(8 * s.size + padB s.size) / 6, by omega⟩
  have hm4 : (m + padS s.size) % 4 = 0 := by omega
  have hX : (bitsOf s.data.toList ++ List.replicate (padB s.size) 0).length = 6 * m := by rw [List.length_append, hb, List.length_replicate, hm]
  have hbit : ∀ x ∈ bitsOf s.data.toList ++ List.replicate (padB s.size) 0, Bit x := by
    intro x hx
    rw [List.mem_append] at hx
    rcases hx with hx | hx
    · exact bitsOf_bit _ x hx
    · rw [List.mem_replicate] at hx; exact Or.inl hx.2
  obtain ⟨k, hk⟩ : ∃ k, K = (((k + padS s.size + 1) + 8 * m + 1) + padB s.size + 1) + 10 * s.size + 1 := ⟨K - padS s.size - 1 - 8 * m - 1 - padB s.size - 1 - 10 * s.size - 1, by omega⟩
  have h0 := rl0 s (by omega) s.size 0 (((k + padS s.size + 1) + 8 * m + 1) + padB s.size + 1) [] (by omega) (Nat.zero_le _)
  rw [List.drop_zero, List.nil_append, ← hk] at h0
  have h2 := rl2 ((k + padS s.size + 1) + 8 * m + 1) (padB s.size) (bitsOf s.data.toList) (by rw [hb, hm]; omega) (by omega) (fun h => by rw [hb]; omega) (fun q h1 h2 => by rw [hb]; omega) (by rw [hb]; omega)
  have h3 := rl3 _ (by rw [hX]; omega) hbit m 0 (k + padS s.size + 1) ⟨#[]⟩ (by rw [hX]; omega) (Nat.le_refl _)
  have hsz : (⟨(([] : List UInt8) ++ sext (bitsOf s.data.toList ++ List.replicate (padB s.size) 0)).toArray⟩ : ByteArray).size = m := sext_length m _ hX
  have h5 := rl5 k (padS s.size) ⟨(([] : List UInt8) ++ sext (bitsOf s.data.toList ++ List.replicate (padB s.size) 0)).toArray⟩ (by rw [hsz]; exact hm4) (by omega) (fun h => by rw [hsz]; omega) (fun q h1 h2 => by rw [hsz]; omega) (by rw [hsz]; omega)
  rw [show ((0 : Nat) : Int) = 0 from rfl] at h0 h3
  rw [List.drop_zero] at h3
  rw [h0, h2, h3]
  have e := sext_sB s.data.toList
  rw [hl] at e
  rw [← e]
  exact h5
end Go.Proofs.YtdnahkeiidbihaaDoor.PArmor
