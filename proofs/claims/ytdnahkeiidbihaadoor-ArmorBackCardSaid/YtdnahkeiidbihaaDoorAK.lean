import Derived.Test.YtdnahkeiidbihaaDoorAJ
namespace Go.Proofs.YtdnahkeiidbihaaDoor.PArmor
set_option linter.unusedVariables false
set_option linter.unusedSimpArgs false
open Go.RowKit Go.Proofs.YtdnahkeiidbihaaDoorW.PrintWords Go.Proofs.YtdnahkeiidbihaaDoorW.PrintLast Go.Proofs.YtdnahkeiidbihaaDoorW.PrintMore
/-! ### I. Armor is decoded -/
def mkB (l : List UInt8) : ByteArray := ⟨l.toArray⟩
theorem mkB_size (l : List UInt8) : (mkB l).size = l.length := rfl
theorem mkB_data (l : List UInt8) : (mkB l).data.toList = l := rfl
theorem mkB_toList (l : List UInt8) : (mkB l).toList = l := by rw [ByteArray.toList_eq]; rfl
theorem wrapN (a : Nat) (h : a ≤ 1000000000) (c : Nat) (hc : c ≤ a) : wrap64 ((a : Int) - (c : Int)) = ((a - c : Nat) : Int) := by unfold wrap64; omega
theorem ext_head (p x : List UInt8) : (mkB (p ++ x)).extract 0 p.length = mkB p := by
  apply of_data
  rw [Lib.extract_data]
  show (List.drop 0 (p ++ x)).take (p.length - 0) = p
  rw [List.drop_zero, Nat.sub_zero, List.take_left']; rfl
theorem ext_tail (p x : List UInt8) : (mkB (p ++ x)).extract p.length (p ++ x).length = mkB x := by
  apply of_data
  rw [Lib.extract_data]
  show (List.drop p.length (p ++ x)).take ((p ++ x).length - p.length) = x
  rw [List.drop_left' rfl, List.length_append, Nat.add_sub_cancel_left, List.take_length]
theorem ext_head' (p x : List UInt8) : (mkB (p ++ x)).extract 0 (mkB p).size = mkB p := ext_head p x
theorem ext_tail' (p x : List UInt8) : (mkB (p ++ x)).extract (mkB p).size (mkB (p ++ x)).size = mkB x := ext_tail p x
theorem app_size (p x : List UInt8) : (mkB (p ++ x)).size = (mkB p).size + (mkB x).size := List.length_append
theorem cutPrefix_ok (p x : List UInt8) (h : (mkB p).size + (mkB x).size ≤ 1000000000) : strings_CutPrefix.f (mkB (p ++ x)) (mkB p) = some (mkB x, true) := by
  have hl := app_size p x
  unfold strings_CutPrefix.f stringslite_CutPrefix.f stringslite_HasPrefix.f
  rw [if_pos (by omega), if_pos (by omega), if_pos (by omega), Int.toNat_natCast, ext_head', Option.bind_some, beq_self_eq_true, if_pos rfl, if_pos (by omega), if_pos (by omega), Option.bind_some, ext_tail']
theorem cutSuffix_ok (x q : List UInt8) (h : (mkB x).size + (mkB q).size ≤ 1000000000) : strings_CutSuffix.f (mkB (x ++ q)) (mkB q) = some (mkB x, true) := by
  have hl := app_size x q
  have hw : wrap64 (((mkB (x ++ q)).size : Int) - ((mkB q).size : Int)) = (((mkB x).size : Nat) : Int) := by unfold wrap64; omega
  unfold strings_CutSuffix.f stringslite_CutSuffix.f stringslite_HasSuffix.f
  rw [hw, if_pos (by omega), if_pos (by omega), if_pos (by omega), Int.toNat_natCast, ext_tail', Option.bind_some, beq_self_eq_true, if_pos rfl, if_pos (by omega), if_pos (by omega), Option.bind_some, ext_head']
/-- The lines of a text. -/
def chunks (n : Nat) : Nat → List UInt8 → List (List UInt8)
  | 0, _ => []
  | k + 1, t => if t.length = 0 then [] else t.take (min n t.length) :: chunks n k (t.drop (min n t.length))
theorem lns_chunks (n : Nat) : ∀ (k : Nat) (t : ByteArray), lns n k t = (chunks n k t.data.toList).flatMap (· ++ [10])
  | 0, t => rfl
  | k + 1, t => by
    have hl := data_length t
    rw [lns, chunks, hl]
    by_cases h : t.size = 0
    · rw [if_pos h, if_pos h]; rfl
    · rw [if_neg h, if_neg h, List.flatMap_cons, lns_chunks n k]
      have e1 : (t.extract 0 (min n t.size)).data.toList = t.data.toList.take (min n t.size) := by
        rw [Lib.extract_data, List.drop_zero, Nat.sub_zero]
      have e2 : (t.extract (min n t.size) t.size).data.toList = t.data.toList.drop (min n t.size) := by
        rw [Lib.extract_data]; exact List.take_of_length_le (by simp)
      rw [e1, e2]
theorem chunks_flat (n : Nat) : ∀ (k : Nat) (t : List UInt8), t.length < k → 1 ≤ n → (chunks n k t).flatten = t
  | 0, t, h, _ => by omega
  | k + 1, t, h, hn => by
    rw [chunks]
    by_cases h0 : t.length = 0
    · rw [if_pos h0, List.length_eq_zero_iff.1 h0]; rfl
    · rw [if_neg h0, List.flatten_cons, chunks_flat n k _ (by rw [List.length_drop]; omega) hn, List.take_append_drop]
theorem chunks_mem (n : Nat) : ∀ (k : Nat) (t l : List UInt8), l ∈ chunks n k t → ∀ x ∈ l, x ∈ t
  | 0, t, l, h => by cases h
  | k + 1, t, l, h => by
    rw [chunks] at h
    by_cases h0 : t.length = 0
    · rw [if_pos h0] at h; cases h
    · rw [if_neg h0, List.mem_cons] at h
      rcases h with rfl | h
      · exact fun x hx => List.mem_of_mem_take hx
      · exact fun x hx => List.mem_of_mem_drop (chunks_mem n k _ l h x hx)
/-- Each line but the last one is full; the last one is a multiple of four, too. -/
theorem chunks_size (n : Nat) (hn : 4 ≤ n) (hn4 : n % 4 = 0) : ∀ (k : Nat) (t : List UInt8), t.length < k → t.length % 4 = 0 → ∀ (i : Nat) l, (chunks n k t)[i]? = some l → (i + 1 < (chunks n k t).length → l.length = n) ∧ l.length ≤ n ∧ 4 ≤ l.length ∧ l.length % 4 = 0
  | 0, t, h, _, i, l, hi => by omega
  | k + 1, t, h, h4, i, l, hi => by
    rw [chunks] at hi ⊢
    by_cases h0 : t.length = 0
    · rw [if_pos h0] at hi; cases hi
    · rw [if_neg h0] at hi ⊢
      have hl : (t.take (min n t.length)).length = min n t.length := by rw [List.length_take]; omega
      cases i with
      | zero =>
        obtain rfl : t.take (min n t.length) = l := by simpa using hi
        rw [hl]
        refine ⟨fun h1 => ?_, by omega, by omega, by omega⟩
        rw [List.length_cons] at h1
        by_cases hlt : n < t.length
        · omega
        · exfalso
          have : (chunks n k (t.drop (min n t.length))).length = 0 := by
            have hd : (t.drop (min n t.length)).length = 0 := by rw [List.length_drop]; omega
            cases k with
            | zero => rfl
            | succ k => rw [chunks, if_pos hd]; rfl
          omega
      | succ i =>
        rw [List.getElem?_cons_succ] at hi
        have ih := chunks_size n hn hn4 k (t.drop (min n t.length)) (by rw [List.length_drop]; omega) (by rw [List.length_drop]; omega) i l hi
        refine ⟨fun h1 => ih.1 (by rw [List.length_cons] at h1; omega), ih.2⟩
theorem splitL_chunks (r : List UInt8) : ∀ (ch : List (List UInt8)), (∀ l ∈ ch, (10 : UInt8) ∉ l) → splitL 10 (ch.flatMap (· ++ [10]) ++ r) = ch ++ splitL 10 r
  | [], _ => rfl
  | l :: ch, h => by
    rw [List.flatMap_cons, List.append_assoc, List.append_assoc]
    show splitL 10 (l ++ 10 :: (ch.flatMap (· ++ [10]) ++ r)) = _
    rw [splitL_cut 10 l _ (h l List.mem_cons_self), splitL_chunks r ch (fun x hx => h x (List.mem_cons_of_mem _ hx))]
    rfl
theorem A_ne10_c : ∀ n : Fin 64, A n.val ≠ 10 := by decide +kernel
theorem A_ne10 (n : Nat) : A n ≠ 10 := by
  by_cases h : n < 64
  · exact A_ne10_c ⟨n, h⟩
  · unfold A
    rw [List.getD_eq_getElem?_getD, List.getElem?_eq_none (by show 64 ≤ n; omega)]
    decide
theorem sB_no10 : ∀ l, (10 : UInt8) ∉ sB l
  | [] => by simp [sB]
  | [a] => by
    simp only [sB, List.mem_cons, List.not_mem_nil, or_false, not_or]
    exact ⟨(A_ne10 _).symm, (A_ne10 _).symm, by decide, by decide⟩
  | [a, b] => by
    simp only [sB, List.mem_cons, List.not_mem_nil, or_false, not_or]
    exact ⟨(A_ne10 _).symm, (A_ne10 _).symm, (A_ne10 _).symm, by decide⟩
  | a :: b :: c :: r => by
    simp only [sB, List.mem_cons, not_or]
    exact ⟨(A_ne10 _).symm, (A_ne10 _).symm, (A_ne10 _).symm, (A_ne10 _).symm, sB_no10 r⟩
theorem name_no10 (l : List UInt8) (h : nameOk l = true) : (10 : UInt8) ∉ l := by
  intro hc
  unfold nameOk at h
  simp only [Bool.and_eq_true] at h
  have := List.all_eq_true.1 h.2.2 10 hc
  exact absurd this (by decide)
end Go.Proofs.YtdnahkeiidbihaaDoor.PArmor
