import Derived.Test.YtdnahkeiidbihaaDoorAC
namespace Go.Proofs.YtdnahkeiidbihaaDoor.PArmor
set_option linter.unusedVariables false
set_option linter.unusedSimpArgs false
open Go.RowKit Go.Proofs.YtdnahkeiidbihaaDoorW.PrintWords Go.Proofs.YtdnahkeiidbihaaDoorW.PrintLast Go.Proofs.YtdnahkeiidbihaaDoorW.PrintMore
/-! ### D. What four signs say; the program's Bytes, whole -/
theorem of_data {s : ByteArray} {l : List UInt8} (h : s.data.toList = l) : s = ⟨l.toArray⟩ := by subst h; rfl
theorem ofNat_toNat (n : Nat) (h : n < 256) : (UInt8.ofNat n).toNat = n := by rw [UInt8.toNat_ofNat']; exact Nat.mod_eq_of_lt (by omega)
theorem ofNat_eq (c : UInt8) (n : Nat) (h : n = c.toNat) : UInt8.ofNat n = c := by rw [h]; exact UInt8.ofNat_toNat
theorem ofNat_zero (n : Nat) (h : n < 256) (h0 : (UInt8.ofNat n == 0) = true) : n = 0 := by
  have h1 := eq_of_beq h0
  have h2 := congrArg UInt8.toNat h1
  rw [ofNat_toNat n h] at h2
  exact h2
theorem A_inj (m n : Nat) (hm : m < 64) (hn : n < 64) (h : A m = A n) : m = n := by
  have := congrArg ix h
  rw [ix_A m hm, ix_A n hn] at this
  omega
theorem sB4 (v n0 n1 n2 n3 : Nat) (h0 : n0 < 64) (h1 : n1 < 64) (h2 : n2 < 64) (h3 : n3 < 64) (hv : v = (((0 * 64 + n0) * 64 + n1) * 64 + n2) * 64 + n3) :
    sB (b3 v).data.toList = [A n0, A n1, A n2, A n3] := by
  show [A ((UInt8.ofNat (v / 65536 % 256)).toNat / 4), A ((UInt8.ofNat (v / 65536 % 256)).toNat % 4 * 16 + (UInt8.ofNat (v / 256 % 256)).toNat / 16), A ((UInt8.ofNat (v / 256 % 256)).toNat % 16 * 4 + (UInt8.ofNat (v % 256)).toNat / 64), A ((UInt8.ofNat (v % 256)).toNat % 64)] = _
  rw [ofNat_toNat _ (by omega), ofNat_toNat _ (by omega), ofNat_toNat _ (by omega)]
  have e0 : v / 65536 % 256 / 4 = n0 := by omega
  have e1 : v / 65536 % 256 % 4 * 16 + v / 256 % 256 / 16 = n1 := by omega
  have e2 : v / 256 % 256 % 16 * 4 + v % 256 / 64 = n2 := by omega
  have e3 : v % 256 % 64 = n3 := by omega
  rw [e0, e1, e2, e3]
theorem sB3 (v n0 n1 n2 : Nat) (h0 : n0 < 64) (h1 : n1 < 64) (h2 : n2 < 64) (hv : v = (((0 * 64 + n0) * 64 + n1) * 64 + n2) * 64) (hz : v % 256 = 0) :
    sB ((b3 v).extract 0 2).data.toList = [A n0, A n1, A n2, 61] := by
  show [A ((UInt8.ofNat (v / 65536 % 256)).toNat / 4), A ((UInt8.ofNat (v / 65536 % 256)).toNat % 4 * 16 + (UInt8.ofNat (v / 256 % 256)).toNat / 16), A ((UInt8.ofNat (v / 256 % 256)).toNat % 16 * 4), 61] = _
  rw [ofNat_toNat _ (by omega), ofNat_toNat _ (by omega)]
  have e0 : v / 65536 % 256 / 4 = n0 := by omega
  have e1 : v / 65536 % 256 % 4 * 16 + v / 256 % 256 / 16 = n1 := by omega
  have e2 : v / 256 % 256 % 16 * 4 = n2 := by omega
  rw [e0, e1, e2]
theorem sB2 (v n0 n1 : Nat) (h0 : n0 < 64) (h1 : n1 < 64) (hv : v = ((0 * 64 + n0) * 64 + n1) * 64 * 64) (hz : v / 256 % 256 = 0) :
    sB ((b3 v).extract 0 1).data.toList = [A n0, A n1, 61, 61] := by
  show [A ((UInt8.ofNat (v / 65536 % 256)).toNat / 4), A ((UInt8.ofNat (v / 65536 % 256)).toNat % 4 * 16), 61, 61] = _
  rw [ofNat_toNat _ (by omega)]
  have e0 : v / 65536 % 256 / 4 = n0 := by omega
  have e1 : v / 65536 % 256 % 4 * 16 = n1 := by omega
  rw [e0, e1]
theorem quad_nl (c0 c1 c2 : UInt8) : armor_quad.f 10 ⟨#[c0, c1, c2, 61]⟩ false = some (⟨#[]⟩, false) := by
  have hl : (Lib.trimRightB [c0, c1, c2, 61] 61).length ≤ 3 := by
    by_cases h2 : c2 = 61
    · subst h2
      by_cases h1 : c1 = 61
      · subst h1; have := trim1 c0; omega
      · rw [trim2 c0 c1 h1]; show 2 ≤ 3; omega
    · rw [trim3 c0 c1 c2 h2]; exact Nat.le_refl 3
  rw [quad_head c0 c1 c2 61 false _ rfl (by omega)]
  by_cases h : (Lib.trimRightB [c0, c1, c2, 61] 61).length ≤ 1
  · rw [if_pos h]
  · rw [if_neg h, if_pos ⟨hl, rfl⟩]
theorem quad_one (c0 : UInt8) (last : Bool) : armor_quad.f 10 ⟨#[c0, 61, 61, 61]⟩ last = some (⟨#[]⟩, false) := by
  have := trim1 c0
  rw [quad_head c0 61 61 61 last _ rfl (by omega), if_pos this]
/-- What a group says: either bytes of which it is the signs, or nothing. -/
theorem quad_says (c0 c1 c2 c3 : UInt8) (last : Bool) :
    (∃ q : ByteArray, armor_quad.f 10 ⟨#[c0, c1, c2, c3]⟩ last = some (q, true) ∧ sB q.data.toList = [c0, c1, c2, c3] ∧ (q.size = 3 ∨ (last = true ∧ 1 ≤ q.size ∧ q.size ≤ 2))) ∨
    (∃ q : ByteArray, armor_quad.f 10 ⟨#[c0, c1, c2, c3]⟩ last = some (q, false) ∧ ∀ b : List UInt8, (b.length = 3 ∨ last = true) → sB b ≠ [c0, c1, c2, c3]) := by
  by_cases h3 : c3 = 61
  · subst h3
    cases last with
    | false =>
      refine Or.inr ⟨_, quad_nl c0 c1 c2, fun b hb hc => ?_⟩
      match b, hb with
      | [x, y, z], _ => 
        have e : [A (x.toNat / 4), A (x.toNat % 4 * 16 + y.toNat / 16), A (y.toNat % 16 * 4 + z.toNat / 64), A (z.toNat % 64)] = [c0, c1, c2, 61] := hc
        simp only [List.cons.injEq, and_true] at e
        exact A_ne _ (Nat.mod_lt _ (by omega)) e.2.2.2
    | true =>
      by_cases h2 : c2 = 61
      · subst h2
        by_cases h1 : c1 = 61
        · subst h1
          refine Or.inr ⟨_, quad_one c0 true, fun b _ hc => ?_⟩
          match b with
          | [] => cases hc
          | [x] =>
            have e : [A (x.toNat / 4), A (x.toNat % 4 * 16), 61, 61] = [c0, 61, 61, 61] := hc
            simp only [List.cons.injEq, and_true] at e
            exact A_ne _ (by omega) e.2
          | [x, y] =>
            have e : [A (x.toNat / 4), A (x.toNat % 4 * 16 + y.toNat / 16), A (y.toNat % 16 * 4), 61] = [c0, 61, 61, 61] := hc
            simp only [List.cons.injEq, and_true] at e
            exact A_ne _ (by omega) e.2.2
          | x :: y :: z :: r =>
            have e : A (x.toNat / 4) :: A (x.toNat % 4 * 16 + y.toNat / 16) :: A (y.toNat % 16 * 4 + z.toNat / 64) :: A (z.toNat % 64) :: sB r = [c0, 61, 61, 61] := hc
            simp only [List.cons.injEq] at e
            exact A_ne _ (Nat.mod_lt _ (by omega)) e.2.2.2.1
        · rcases quad2 c0 c1 h1 with ⟨n0, n1, l0, l1, rfl, rfl, hq⟩ | ⟨hb, hq⟩
          · generalize hv : ((0 * 64 + n0) * 64 + n1) * 64 * 64 = v at hq
            have hv' := hv.symm
            cases hz : (UInt8.ofNat (v / 256 % 256) == 0 && UInt8.ofNat (v % 256) == 0) with
            | true =>
              rw [hz] at hq
              rw [Bool.and_eq_true] at hz
              exact Or.inl ⟨_, hq, sB2 v n0 n1 l0 l1 hv' (ofNat_zero _ (by omega) hz.1), Or.inr ⟨rfl, by show 1 ≤ 1; omega, by show 1 ≤ 2; omega⟩⟩
            | false =>
              rw [hz] at hq
              refine Or.inr ⟨_, hq, fun b _ hc => ?_⟩
              have hcase : ∀ x : UInt8, sB [x] = [A n0, A n1, 61, 61] → False := by
                intro x hx
                have e : [A (x.toNat / 4), A (x.toNat % 4 * 16), 61, 61] = [A n0, A n1, 61, 61] := hx
                simp only [List.cons.injEq, and_true] at e
                have e1 := A_inj _ _ (by omega) l1 e.2
                have z1 : v / 256 % 256 = 0 := by omega
                have z2 : v % 256 = 0 := by omega
                rw [z1, z2] at hz
                exact absurd hz (by decide)
              match b with
              | [] => cases hc
              | [x] => exact hcase x hc
              | [x, y] =>
                have e : [A (x.toNat / 4), A (x.toNat % 4 * 16 + y.toNat / 16), A (y.toNat % 16 * 4), 61] = [A n0, A n1, 61, 61] := hc
                simp only [List.cons.injEq, and_true] at e
                exact A_ne _ (by omega) e.2.2
              | x :: y :: z :: r =>
                have e : A (x.toNat / 4) :: A (x.toNat % 4 * 16 + y.toNat / 16) :: A (y.toNat % 16 * 4 + z.toNat / 64) :: A (z.toNat % 64) :: sB r = [A n0, A n1, 61, 61] := hc
                simp only [List.cons.injEq] at e
                exact A_ne _ (Nat.mod_lt _ (by omega)) e.2.2.2.1
          · refine Or.inr ⟨_, hq, fun b _ hc => ?_⟩
            have bad : ∀ n : Nat, n < 64 → ¬ ix (A n) < 0 := fun n hn h => by rw [ix_A n hn] at h; omega
            match b with
            | [] => cases hc
            | [x] =>
              have e : [A (x.toNat / 4), A (x.toNat % 4 * 16), 61, 61] = [c0, c1, 61, 61] := hc
              simp only [List.cons.injEq, and_true] at e
              rw [← e.1, ← e.2] at hb
              have := x.toNat_lt
              rcases hb with hb | hb <;> exact bad _ (by omega) hb
            | [x, y] =>
              have e : [A (x.toNat / 4), A (x.toNat % 4 * 16 + y.toNat / 16), A (y.toNat % 16 * 4), 61] = [c0, c1, 61, 61] := hc
              simp only [List.cons.injEq, and_true] at e
              exact A_ne _ (by omega) e.2.2
            | x :: y :: z :: r =>
              have e : A (x.toNat / 4) :: A (x.toNat % 4 * 16 + y.toNat / 16) :: A (y.toNat % 16 * 4 + z.toNat / 64) :: A (z.toNat % 64) :: sB r = [c0, c1, 61, 61] := hc
              simp only [List.cons.injEq] at e
              exact A_ne _ (Nat.mod_lt _ (by omega)) e.2.2.2.1
      · rcases quad3 c0 c1 c2 h2 with ⟨n0, n1, n2, l0, l1, l2, rfl, rfl, rfl, hq⟩ | ⟨hb, hq⟩
        · generalize hv : (((0 * 64 + n0) * 64 + n1) * 64 + n2) * 64 = v at hq
          have hv' := hv.symm
          cases hz : (UInt8.ofNat (v % 256) == 0) with
          | true =>
            rw [hz] at hq
            exact Or.inl ⟨_, hq, sB3 v n0 n1 n2 l0 l1 l2 hv' (ofNat_zero _ (by omega) hz), Or.inr ⟨rfl, by show 1 ≤ 2; omega, by show 2 ≤ 2; omega⟩⟩
          | false =>
            rw [hz] at hq
            refine Or.inr ⟨_, hq, fun b _ hc => ?_⟩
            match b with
            | [] => cases hc
            | [x] =>
              have e : [A (x.toNat / 4), A (x.toNat % 4 * 16), 61, 61] = [A n0, A n1, A n2, 61] := hc
              simp only [List.cons.injEq, and_true] at e
              exact A_ne _ l2 e.2.2.symm
            | [x, y] =>
              have e : [A (x.toNat / 4), A (x.toNat % 4 * 16 + y.toNat / 16), A (y.toNat % 16 * 4), 61] = [A n0, A n1, A n2, 61] := hc
              simp only [List.cons.injEq, and_true] at e
              have e2 := A_inj _ _ (by omega) l2 e.2.2
              have z2 : v % 256 = 0 := by omega
              rw [z2] at hz
              exact absurd hz (by decide)
            | x :: y :: z :: r =>
              have e : A (x.toNat / 4) :: A (x.toNat % 4 * 16 + y.toNat / 16) :: A (y.toNat % 16 * 4 + z.toNat / 64) :: A (z.toNat % 64) :: sB r = [A n0, A n1, A n2, 61] := hc
              simp only [List.cons.injEq] at e
              exact A_ne _ (Nat.mod_lt _ (by omega)) e.2.2.2.1
        · refine Or.inr ⟨_, hq, fun b _ hc => ?_⟩
          have bad : ∀ n : Nat, n < 64 → ¬ ix (A n) < 0 := fun n hn h => by rw [ix_A n hn] at h; omega
          match b with
          | [] => cases hc
          | [x] =>
            have e : [A (x.toNat / 4), A (x.toNat % 4 * 16), 61, 61] = [c0, c1, c2, 61] := hc
            simp only [List.cons.injEq, and_true] at e
            exact h2 e.2.2.symm
          | [x, y] =>
            have e : [A (x.toNat / 4), A (x.toNat % 4 * 16 + y.toNat / 16), A (y.toNat % 16 * 4), 61] = [c0, c1, c2, 61] := hc
            simp only [List.cons.injEq, and_true] at e
            rw [← e.1, ← e.2.1, ← e.2.2] at hb
            have := x.toNat_lt
            have := y.toNat_lt
            rcases hb with hb | hb | hb <;> exact bad _ (by omega) hb
          | x :: y :: z :: r =>
            have e : A (x.toNat / 4) :: A (x.toNat % 4 * 16 + y.toNat / 16) :: A (y.toNat % 16 * 4 + z.toNat / 64) :: A (z.toNat % 64) :: sB r = [c0, c1, c2, 61] := hc
            simp only [List.cons.injEq] at e
            exact A_ne _ (Nat.mod_lt _ (by omega)) e.2.2.2.1
  · rcases quad4 c0 c1 c2 c3 last h3 with ⟨n0, n1, n2, n3, l0, l1, l2, l3, rfl, rfl, rfl, rfl, hq⟩ | ⟨hb, hq⟩
    · exact Or.inl ⟨_, hq, sB4 _ n0 n1 n2 n3 l0 l1 l2 l3 rfl, Or.inl rfl⟩
    · refine Or.inr ⟨_, hq, fun b _ hc => ?_⟩
      have bad : ∀ n : Nat, n < 64 → ¬ ix (A n) < 0 := fun n hn h => by rw [ix_A n hn] at h; omega
      match b with
      | [] => cases hc
      | [x] =>
        have e : [A (x.toNat / 4), A (x.toNat % 4 * 16), 61, 61] = [c0, c1, c2, c3] := hc
        simp only [List.cons.injEq, and_true] at e
        exact h3 e.2.2.2.symm
      | [x, y] =>
        have e : [A (x.toNat / 4), A (x.toNat % 4 * 16 + y.toNat / 16), A (y.toNat % 16 * 4), 61] = [c0, c1, c2, c3] := hc
        simp only [List.cons.injEq, and_true] at e
        exact h3 e.2.2.2.symm
      | x :: y :: z :: r =>
        have e : A (x.toNat / 4) :: A (x.toNat % 4 * 16 + y.toNat / 16) :: A (y.toNat % 16 * 4 + z.toNat / 64) :: A (z.toNat % 64) :: sB r = [c0, c1, c2, c3] := hc
        simp only [List.cons.injEq] at e
        rw [← e.1, ← e.2.1, ← e.2.2.1, ← e.2.2.2.1] at hb
        have := x.toNat_lt
        have := y.toNat_lt
        have := z.toNat_lt
        rcases hb with hb | hb | hb | hb <;> exact bad _ (by omega) hb
end Go.Proofs.YtdnahkeiidbihaaDoor.PArmor
