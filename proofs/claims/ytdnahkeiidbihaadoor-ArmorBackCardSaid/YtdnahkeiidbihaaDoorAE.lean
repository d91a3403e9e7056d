import Derived.Test.YtdnahkeiidbihaaDoorAD
namespace Go.Proofs.YtdnahkeiidbihaaDoor.PArmor
set_option linter.unusedVariables false
set_option linter.unusedSimpArgs false
open Go.RowKit Go.Proofs.YtdnahkeiidbihaaDoorW.PrintWords Go.Proofs.YtdnahkeiidbihaaDoorW.PrintLast Go.Proofs.YtdnahkeiidbihaaDoorW.PrintMore
theorem byte_eq {a b : UInt8} (h : a.toNat = b.toNat) : a = b := UInt8.toNat_inj.1 h
theorem sB_inj : ∀ (b b' : List UInt8), sB b = sB b' → b = b'
  | [], b', h => by
    match b', h with
    | [], _ => rfl
    | [x], h => cases h
    | [x, y], h => cases h
    | x :: y :: z :: r, h => cases h
  | [a], b', h => by
    have ha := a.toNat_lt
    match b', h with
    | [], h => cases h
    | [x], h =>
      have hx := x.toNat_lt
      have e : [A (a.toNat / 4), A (a.toNat % 4 * 16), (61 : UInt8), 61] = [A (x.toNat / 4), A (x.toNat % 4 * 16), 61, 61] := h
      simp only [List.cons.injEq, and_true] at e
      have e0 := A_inj _ _ (by omega) (by omega) e.1
      have e1 := A_inj _ _ (by omega) (by omega) e.2
      rw [byte_eq (a := a) (b := x) (by omega)]
    | [x, y], h =>
      have hy := y.toNat_lt
      have e : [A (a.toNat / 4), A (a.toNat % 4 * 16), (61 : UInt8), 61] = [A (x.toNat / 4), A (x.toNat % 4 * 16 + y.toNat / 16), A (y.toNat % 16 * 4), 61] := h
      simp only [List.cons.injEq, and_true] at e
      exact absurd e.2.2.symm (A_ne _ (by omega))
    | x :: y :: z :: r, h =>
      have e : [A (a.toNat / 4), A (a.toNat % 4 * 16), (61 : UInt8), 61] = A (x.toNat / 4) :: A (x.toNat % 4 * 16 + y.toNat / 16) :: A (y.toNat % 16 * 4 + z.toNat / 64) :: A (z.toNat % 64) :: sB r := h
      simp only [List.cons.injEq] at e
      exact absurd e.2.2.2.1.symm (A_ne _ (Nat.mod_lt _ (by omega)))
  | [a, b], b', h => by
    have ha := a.toNat_lt
    have hb := b.toNat_lt
    match b', h with
    | [], h => cases h
    | [x], h =>
      have e : [A (a.toNat / 4), A (a.toNat % 4 * 16 + b.toNat / 16), A (b.toNat % 16 * 4), (61 : UInt8)] = [A (x.toNat / 4), A (x.toNat % 4 * 16), 61, 61] := h
      simp only [List.cons.injEq, and_true] at e
      exact absurd e.2.2 (A_ne _ (by omega))
    | [x, y], h =>
      have hx := x.toNat_lt
      have hy := y.toNat_lt
      have e : [A (a.toNat / 4), A (a.toNat % 4 * 16 + b.toNat / 16), A (b.toNat % 16 * 4), (61 : UInt8)] = [A (x.toNat / 4), A (x.toNat % 4 * 16 + y.toNat / 16), A (y.toNat % 16 * 4), 61] := h
      simp only [List.cons.injEq, and_true] at e
      have e0 := A_inj _ _ (by omega) (by omega) e.1
      have e1 := A_inj _ _ (by omega) (by omega) e.2.1
      have e2 := A_inj _ _ (by omega) (by omega) e.2.2
      rw [byte_eq (a := a) (b := x) (by omega), byte_eq (a := b) (b := y) (by omega)]
    | x :: y :: z :: r, h =>
      have e : [A (a.toNat / 4), A (a.toNat % 4 * 16 + b.toNat / 16), A (b.toNat % 16 * 4), (61 : UInt8)] = A (x.toNat / 4) :: A (x.toNat % 4 * 16 + y.toNat / 16) :: A (y.toNat % 16 * 4 + z.toNat / 64) :: A (z.toNat % 64) :: sB r := h
      simp only [List.cons.injEq] at e
      exact absurd e.2.2.2.1.symm (A_ne _ (Nat.mod_lt _ (by omega)))
  | a :: b :: c :: r, b', h => by
    have ha := a.toNat_lt
    have hb := b.toNat_lt
    have hc := c.toNat_lt
    match b', h with
    | [], h => cases h
    | [x], h =>
      have e : A (a.toNat / 4) :: A (a.toNat % 4 * 16 + b.toNat / 16) :: A (b.toNat % 16 * 4 + c.toNat / 64) :: A (c.toNat % 64) :: sB r = [A (x.toNat / 4), A (x.toNat % 4 * 16), 61, 61] := h
      simp only [List.cons.injEq] at e
      exact absurd e.2.2.2.1 (A_ne _ (Nat.mod_lt _ (by omega)))
    | [x, y], h =>
      have e : A (a.toNat / 4) :: A (a.toNat % 4 * 16 + b.toNat / 16) :: A (b.toNat % 16 * 4 + c.toNat / 64) :: A (c.toNat % 64) :: sB r = [A (x.toNat / 4), A (x.toNat % 4 * 16 + y.toNat / 16), A (y.toNat % 16 * 4), 61] := h
      simp only [List.cons.injEq] at e
      exact absurd e.2.2.2.1 (A_ne _ (Nat.mod_lt _ (by omega)))
    | x :: y :: z :: r', h =>
      have hx := x.toNat_lt
      have hy := y.toNat_lt
      have hz := z.toNat_lt
      have e : A (a.toNat / 4) :: A (a.toNat % 4 * 16 + b.toNat / 16) :: A (b.toNat % 16 * 4 + c.toNat / 64) :: A (c.toNat % 64) :: sB r = A (x.toNat / 4) :: A (x.toNat % 4 * 16 + y.toNat / 16) :: A (y.toNat % 16 * 4 + z.toNat / 64) :: A (z.toNat % 64) :: sB r' := h
      simp only [List.cons.injEq] at e
      have e0 := A_inj _ _ (by omega) (by omega) e.1
      have e1 := A_inj _ _ (by omega) (by omega) e.2.1
      have e2 := A_inj _ _ (by omega) (by omega) e.2.2.1
      have e3 := A_inj _ _ (by omega) (by omega) e.2.2.2.1
      have er := sB_inj r r' e.2.2.2.2
      rw [byte_eq (a := a) (b := x) (by omega), byte_eq (a := b) (b := y) (by omega), byte_eq (a := c) (b := z) (by omega), er]
theorem sB_length : ∀ b : List UInt8, (sB b).length % 4 = 0 ∧ b.length ≤ (sB b).length ∧ (sB b).length ≤ 4 * b.length
  | [] => by simp [sB]
  | [a] => by show 4 % 4 = 0 ∧ 1 ≤ 4 ∧ 4 ≤ 4; omega
  | [a, b] => by show 4 % 4 = 0 ∧ 2 ≤ 4 ∧ 4 ≤ 8; omega
  | a :: b :: c :: r => by
    have := sB_length r
    show ((sB r).length + 4) % 4 = 0 ∧ r.length + 3 ≤ (sB r).length + 4 ∧ (sB r).length + 4 ≤ 4 * (r.length + 3)
    omega
theorem sB_app (q r : List UInt8) (h : q.length = 3) : sB (q ++ r) = sB q ++ sB r := by
  match q, h with
  | [a, b, c], _ => rfl
theorem take4 (s : ByteArray) (h : 4 ≤ s.size) : ∃ c0 c1 c2 c3 r, s.data.toList = c0 :: c1 :: c2 :: c3 :: r ∧ s.extract 0 4 = ⟨#[c0, c1, c2, c3]⟩ ∧ (s.extract 4 s.size).data.toList = r := by
  have hl := data_length s
  match hs : s.data.toList, (by rw [hl]; exact h : 4 ≤ s.data.toList.length) with
  | c0 :: c1 :: c2 :: c3 :: r, _ =>
    refine ⟨c0, c1, c2, c3, r, rfl, ?_, ?_⟩
    · refine of_data ?_
      rw [Lib.extract_data, hs]; rfl
    · rw [Lib.extract_data, hs]
      exact List.take_of_length_le (by rw [hs] at hl; simp only [List.length_cons] at hl ⊢; simp only [List.drop_succ_cons, List.drop_zero]; omega)
theorem bys_ok : ∀ (k : Nat) (s : ByteArray) (acc b : List UInt8), s.data.toList = sB b → s.size < k → acc.length + s.size ≤ 10000000000 → bys k s acc = some (⟨(acc ++ b).toArray⟩, 0)
  | 0, s, acc, b, _, h, _ => by omega
  | k + 1, s, acc, b, hs, hk, hacc => by
    have hl := data_length s
    rw [bys]
    by_cases h0 : s.size = 0
    · rw [if_pos h0]
      have : b = [] := by
        have h1 := (sB_length b).2.1
        rw [← hs, hl, h0] at h1
        exact List.length_eq_zero_iff.1 (by omega)
      rw [this, List.append_nil]
    · have h4 := (sB_length b).1
      rw [← hs, hl] at h4
      rw [if_neg h0, if_neg (by omega)]
      obtain ⟨c0, c1, c2, c3, r, e, e1, e2⟩ := take4 s (by omega)
      rw [e1]
      have hxs : (s.extract 4 s.size).size = s.size - 4 := by rw [ByteArray.size_extract]; omega
      have hr : r.length = s.size - 4 := by rw [← e2, data_length, hxs]
      -- the first bytes of b
      have hb : ∃ b1 b2, b = b1 ++ b2 ∧ sB b1 = [c0, c1, c2, c3] ∧ sB b2 = r ∧ (b1.length = 3 ∨ (r = [] ∧ b2 = [])) := by
        rw [hs] at e
        match b, e with
        | [], e => cases e
        | [x], e => exact ⟨[x], [], rfl, by simp only [sB, List.cons.injEq] at e ⊢; exact ⟨e.1, e.2.1, e.2.2.1, e.2.2.2.1, trivial⟩, by simp only [sB, List.cons.injEq] at e; rw [← e.2.2.2.2]; rfl, Or.inr ⟨by simp only [sB, List.cons.injEq] at e; exact e.2.2.2.2.symm, rfl⟩⟩
        | [x, y], e => exact ⟨[x, y], [], rfl, by simp only [sB, List.cons.injEq] at e ⊢; exact ⟨e.1, e.2.1, e.2.2.1, e.2.2.2.1, trivial⟩, by simp only [sB, List.cons.injEq] at e; rw [← e.2.2.2.2]; rfl, Or.inr ⟨by simp only [sB, List.cons.injEq] at e; exact e.2.2.2.2.symm, rfl⟩⟩
        | x :: y :: z :: q, e => exact ⟨[x, y, z], q, rfl, by simp only [sB, List.cons.injEq] at e ⊢; exact ⟨e.1, e.2.1, e.2.2.1, e.2.2.2.1, trivial⟩, by simp only [sB, List.cons.injEq] at e; exact e.2.2.2.2, Or.inl rfl⟩
      obtain ⟨b1, b2, rfl, hb1, hb2, hb3⟩ := hb
      rcases quad_says c0 c1 c2 c3 ((s.size : Int) == 4) with ⟨q, hq, hqs, hqz⟩ | ⟨q, hq, hno⟩
      · have hqb : q.data.toList = b1 := sB_inj _ _ (hqs.trans hb1.symm)
        have hql := data_length q
        rw [hq, Option.bind_some, if_pos rfl, if_pos (by show acc.length + q.size ≤ _; omega)]
        show bys k (s.extract 4 s.size) (acc ++ q.data.toList) = _
        rw [bys_ok k (s.extract 4 s.size) (acc ++ q.data.toList) b2 (by rw [e2, hb2]) (by omega) (by rw [List.length_append, hql, hxs]; omega), hqb, List.append_assoc]
      · exfalso
        refine hno b1 ?_ hb1
        rcases hb3 with hb3 | ⟨hb3, _⟩
        · exact Or.inl hb3
        · refine Or.inr (beq_iff_eq.2 ?_)
          rw [hb3] at hr
          simp only [List.length_nil] at hr
          omega
theorem bys_bad : ∀ (k : Nat) (s : ByteArray) (acc : List UInt8), s.size % 4 = 0 → s.size < k → acc.length + s.size ≤ 10000000000 → (∀ b, sB b ≠ s.data.toList) → bys k s acc = some (⟨#[]⟩, 2)
  | 0, s, acc, _, h, _, _ => by omega
  | k + 1, s, acc, h4, hk, hacc, hno => by
    have hl := data_length s
    rw [bys]
    by_cases h0 : s.size = 0
    · exact absurd (List.length_eq_zero_iff.1 (hl.trans h0)).symm (hno [])
    · rw [if_neg h0, if_neg (by omega)]
      obtain ⟨c0, c1, c2, c3, r, e, e1, e2⟩ := take4 s (by omega)
      rw [e1]
      have hxs : (s.extract 4 s.size).size = s.size - 4 := by rw [ByteArray.size_extract]; omega
      rcases quad_says c0 c1 c2 c3 ((s.size : Int) == 4) with ⟨q, hq, hqs, hqz⟩ | ⟨q, hq, _⟩
      · have hql := data_length q
        rw [hq, Option.bind_some, if_pos rfl, if_pos (by show acc.length + q.size ≤ _; omega)]
        show bys k (s.extract 4 s.size) (acc ++ q.data.toList) = _
        by_cases hlast : s.size = 4
        · exfalso
          have hr : r = [] := List.length_eq_zero_iff.1 (by rw [← e2, data_length, hxs]; omega)
          rw [hr] at e
          exact hno q.data.toList (by rw [hqs, e])
        · have h3 : q.size = 3 := by
            rcases hqz with h | ⟨h, _⟩
            · exact h
            · exact absurd (eq_of_beq h) (by omega)
          refine bys_bad k _ _ (by omega) (by omega) (by rw [List.length_append, hql, hxs]; omega) (fun b hb => ?_)
          refine hno (q.data.toList ++ b) ?_
          rw [sB_app _ _ (hql.trans h3), hqs, hb, e2, e]
          rfl
      · rw [hq, Option.bind_some, if_neg (by simp)]
/-- The program's Bytes, by the signs. -/
theorem bytes_ok (s : ByteArray) (b : List UInt8) (h : s.data.toList = sB b) (hs : s.size ≤ 1000000000) : armor_Bytes.f s = some (⟨b.toArray⟩, 0) := by
  unfold armor_Bytes.f
  have h4 := (sB_length b).1
  rw [← h, data_length] at h4
  rw [if_pos hs, if_pos h4, bys_ok _ s [] b h (by omega) (by simp only [List.length_nil]; omega), List.nil_append]
theorem bytes_bad (s : ByteArray) (h : ∀ b, sB b ≠ s.data.toList) (hs : s.size ≤ 1000000000) : armor_Bytes.f s = some (⟨#[]⟩, 2) := by
  unfold armor_Bytes.f
  rw [if_pos hs]
  by_cases h4 : s.size % 4 = 0
  · rw [if_pos h4, bys_bad _ s [] h4 (by omega) (by simp only [List.length_nil]; omega) h]
  · rw [if_neg h4]
end Go.Proofs.YtdnahkeiidbihaaDoor.PArmor
