import Derived.Test.YtdnahkeiidbihaaDoorAF
namespace Go.Proofs.YtdnahkeiidbihaaDoor.PArmor
set_option linter.unusedVariables false
set_option linter.unusedSimpArgs false
open Go.RowKit Go.Proofs.YtdnahkeiidbihaaDoorW.PrintWords Go.Proofs.YtdnahkeiidbihaaDoorW.PrintLast Go.Proofs.YtdnahkeiidbihaaDoorW.PrintMore
def nm (o : List UInt8) : List Int := o.map fun b => ((b.toNat : Nat) : Int)
theorem nm_str (o : List UInt8) : strOfNums (nm o) = ⟨o.toArray⟩ := by
  unfold strOfNums nm
  congr 2
  rw [List.map_map]
  have : ((fun n : Int => UInt8.ofNat n.toNat) ∘ fun b : UInt8 => ((b.toNat : Nat) : Int)) = id := by
    funext b
    simp only [Function.comp_def, Int.toNat_natCast, id_eq, UInt8.ofNat_toNat]
  rw [this, List.map_id]
theorem nm_snoc (o : List UInt8) (n : Nat) (h : n < 256) : nm o ++ [(n : Int)] = nm (o ++ [UInt8.ofNat n]) := by
  unfold nm
  rw [List.map_append, List.map_cons, List.map_nil, ofNat_toNat n h]
theorem nm_length (o : List UInt8) : (nm o).length = o.length := by unfold nm; rw [List.length_map]
theorem rb_end (t : ByteArray) (o : List UInt8) (x4 : Nat) (acc hv : Int) (ho : o.length ≤ 100000) :
    E (fun K => montageref42_Bytes.l1 K t (x4 : Int) (nm o) acc hv (x4 : Int)) (if sB o = t.data.toList then (⟨o.toArray⟩, 0) else (⟨#[]⟩, 2)) := by
  refine E.done (40 * o.length + 100) (fun K hK => ?_)
  show montageref42_Bytes.l1 (K + 1) t (x4 : Int) (nm o) acc hv (x4 : Int) = _
  rw [montageref42_Bytes.l1, if_neg (by omega), nm_str, rsigns_f ⟨o.toArray⟩ ho K hK, Option.bind_some, ByteArray.toList_eq, ByteArray.toList_eq]
  show (if sB o = t.data.toList then _ else _) = _
  by_cases h : sB o = t.data.toList
  · rw [if_pos h, if_pos h]
  · rw [if_neg h, if_neg h]
theorem acc_lt (acc hv : Nat) (h : acc < 2 ^ hv) (hh : hv = 0 ∨ hv = 2 ∨ hv = 4 ∨ hv = 6) : acc < 64 ∧ (hv = 0 → acc = 0) := by
  rcases hh with rfl | rfl | rfl | rfl
  · exact ⟨by omega, fun _ => by omega⟩
  · exact ⟨by omega, fun h => by omega⟩
  · exact ⟨by omega, fun h => by omega⟩
  · exact ⟨by omega, fun h => by omega⟩
theorem rb_total (t : ByteArray) (x4 : Nat) (hx : x4 ≤ t.size) (ht : t.size ≤ 100000) : ∀ (d i : Nat) (o : List UInt8) (acc hv : Nat), i + d = x4 → o.length ≤ i → acc < 2 ^ hv → (hv = 0 ∨ hv = 2 ∨ hv = 4 ∨ hv = 6) →
    ∃ r, E (fun K => montageref42_Bytes.l1 K t (x4 : Int) (nm o) (acc : Int) (hv : Int) (i : Int)) r ∧ (r = (⟨#[]⟩, 2) ∨ ∃ o', sB o' = t.data.toList ∧ r = (⟨o'.toArray⟩, 0)) := by
  intro d
  induction d with
  | zero =>
    intro i o acc hv hi ho hac hh
    obtain rfl : i = x4 := by omega
    refine ⟨_, rb_end t o i acc hv (by omega), ?_⟩
    by_cases h : sB o = t.data.toList
    · rw [if_pos h]; exact Or.inr ⟨o, h, rfl⟩
    · rw [if_neg h]; exact Or.inl rfl
  | succ d ih =>
    intro i o acc hv hi ho hac hh
    have hi4 : i < x4 := by omega
    obtain ⟨ha64, ha0⟩ := acc_lt acc hv hac hh
    rcases ix_range (t[i]'(by omega)) with hneg | ⟨m, hm, hm64, _⟩
    · refine ⟨(⟨#[]⟩, 2), E.done 70 (fun K hK => ?_), Or.inl rfl⟩
      show montageref42_Bytes.l1 (K + 1) t (x4 : Int) (nm o) (acc : Int) (hv : Int) (i : Int) = _
      rw [rb_in t x4 (nm o) acc hv i hi4 hx ha64 (by omega) K hK, if_pos hneg]
    · by_cases h0 : hv = 0
      · obtain ⟨r, hr, hr2⟩ := ih (i + 1) o (acc * 64 + m) 6 (by omega) (by omega) (by have := ha0 h0; omega) (by omega)
        exact ⟨r, rb_step t x4 (nm o) acc hv i m hi4 hx (by omega) ha64 hh (by rw [nm_length]; omega) hm hm64 r (by simp only [h0, if_true]; exact hr), hr2⟩
      · have hp : 0 < 2 ^ (hv - 2) := Nat.pow_pos (by omega)
        obtain ⟨r, hr, hr2⟩ := ih (i + 1) (o ++ [UInt8.ofNat ((acc * 64 + m) / 2 ^ (hv - 2) % 256)]) ((acc * 64 + m) % 2 ^ (hv - 2)) (hv - 2) (by omega) (by rw [List.length_append]; show o.length + 1 ≤ _; omega) (Nat.mod_lt _ hp) (by omega)
        rw [← nm_snoc _ _ (Nat.mod_lt _ (by omega))] at hr
        exact ⟨r, rb_step t x4 (nm o) acc hv i m hi4 hx (by omega) ha64 hh (by rw [nm_length]; omega) hm hm64 r (by simp only [h0, if_false]; exact hr), hr2⟩
/-! the signs, without those at the end -/
def core : List UInt8 → List UInt8
  | [] => []
  | [a] => [A (a.toNat / 4), A (a.toNat % 4 * 16)]
  | [a, b] => [A (a.toNat / 4), A (a.toNat % 4 * 16 + b.toNat / 16), A (b.toNat % 16 * 4)]
  | a :: b :: c :: r => A (a.toNat / 4) :: A (a.toNat % 4 * 16 + b.toNat / 16) :: A (b.toNat % 16 * 4 + c.toNat / 64) :: A (c.toNat % 64) :: core r
theorem core_sB : ∀ l, ∃ p, p ≤ 2 ∧ sB l = core l ++ List.replicate p 61
  | [] => ⟨0, by omega, rfl⟩
  | [a] => ⟨2, by omega, rfl⟩
  | [a, b] => ⟨1, by omega, rfl⟩
  | a :: b :: c :: r => by
    obtain ⟨p, hp, h⟩ := core_sB r
    exact ⟨p, hp, by rw [sB, core, h]; rfl⟩
theorem core_ne : ∀ l, ∀ x ∈ core l, x ≠ 61
  | [], x, h => by cases h
  | [a], x, h => by
    have := a.toNat_lt
    simp only [core, List.mem_cons, List.not_mem_nil, or_false] at h
    rcases h with rfl | rfl <;> exact A_ne _ (by omega)
  | [a, b], x, h => by
    have := a.toNat_lt
    have := b.toNat_lt
    simp only [core, List.mem_cons, List.not_mem_nil, or_false] at h
    rcases h with rfl | rfl | rfl <;> exact A_ne _ (by omega)
  | a :: b :: c :: r, x, h => by
    have := a.toNat_lt
    have := b.toNat_lt
    have := c.toNat_lt
    simp only [core, List.mem_cons] at h
    rcases h with rfl | rfl | rfl | rfl | h
    · exact A_ne _ (by omega)
    · exact A_ne _ (by omega)
    · exact A_ne _ (by omega)
    · exact A_ne _ (by omega)
    · exact core_ne r x h
/-- Signs that are read: the bytes. -/
theorem rb_ok (t : ByteArray) (x4 : Nat) (hx : x4 ≤ t.size) (ht : t.size ≤ 100000) : ∀ (b o : List UInt8) (i : Nat), i + (core b).length = x4 → (∀ (j : Nat) x, (core b)[j]? = some x → t.data.toList[i + j]? = some x) → sB (o ++ b) = t.data.toList → o.length ≤ i →
    E (fun K => montageref42_Bytes.l1 K t (x4 : Int) (nm o) ((0 : Nat) : Int) ((0 : Nat) : Int) (i : Int)) (⟨(o ++ b).toArray⟩, 0)
  | [], o, i, hi, hc, hs, ho => by
    have : i = x4 := by simpa [core] using hi
    subst this
    have h := rb_end t o i ((0 : Nat) : Int) ((0 : Nat) : Int) (by omega)
    rw [List.append_nil] at hs ⊢
    rw [if_pos hs] at h
    exact h
  | [a], o, i, hi, hc, hs, ho => by
    have ha := a.toNat_lt
    have hl : (core [a]).length = 2 := rfl
    have g : ∀ (j : Nat) x (h : i + j < t.size), (core [a])[j]? = some x → t[i + j]'h = x := fun j x h hj => by
      have := hc j x hj
      rw [List.getElem?_eq_getElem (by rw [data_length]; exact h)] at this
      exact Option.some.inj this
    have e0 : ix (t[i]'(by omega)) = ((a.toNat / 4 : Nat) : Int) := by
      have := g 0 _ (by omega) rfl
      rw [show t[i]'(by omega) = A (a.toNat / 4) from this]; exact ix_A _ (by omega)
    have e1 : ix (t[i + 1]'(by omega)) = ((a.toNat % 4 * 16 : Nat) : Int) := by
      rw [g 1 _ (by omega) rfl]; exact ix_A _ (by omega)
    have last : E (fun K => montageref42_Bytes.l1 K t (x4 : Int) (nm (o ++ [a])) ((0 : Nat) : Int) ((4 : Nat) : Int) ((i + 2 : Nat) : Int)) (⟨(o ++ [a]).toArray⟩, 0) := by
      have h := rb_end t (o ++ [a]) x4 ((0 : Nat) : Int) ((4 : Nat) : Int) (by rw [List.length_append]; show o.length + 1 ≤ _; omega)
      rw [if_pos hs, show x4 = i + 2 by omega] at h
      rw [show x4 = i + 2 by omega]
      exact h
    have s1 := rb_step t x4 (nm o) (0 * 64 + a.toNat / 4) 6 (i + 1) (a.toNat % 4 * 16) (by omega) hx (by omega) (by omega) (by omega) (by rw [nm_length]; omega) e1 (by omega) _ (by
      simp only [show ((6 : Nat) = 0) = False by simp, if_false]
      rw [nm_snoc _ _ (Nat.mod_lt _ (by omega)), ofNat_eq a _ (by omega), show ((0 * 64 + a.toNat / 4) * 64 + a.toNat % 4 * 16) % 2 ^ (6 - 2) = 0 by omega]
      exact last)
    exact rb_step t x4 (nm o) 0 0 i (a.toNat / 4) (by omega) hx (by omega) (by omega) (by omega) (by rw [nm_length]; omega) e0 (by omega) _ (by simp only [if_true]; exact s1)
  | [a, b], o, i, hi, hc, hs, ho => by
    have ha := a.toNat_lt
    have hb := b.toNat_lt
    have hl : (core [a, b]).length = 3 := rfl
    have g : ∀ (j : Nat) x (h : i + j < t.size), (core [a, b])[j]? = some x → t[i + j]'h = x := fun j x h hj => by
      have := hc j x hj
      rw [List.getElem?_eq_getElem (by rw [data_length]; exact h)] at this
      exact Option.some.inj this
    have e0 : ix (t[i]'(by omega)) = ((a.toNat / 4 : Nat) : Int) := by
      have := g 0 _ (by omega) rfl
      rw [show t[i]'(by omega) = A (a.toNat / 4) from this]; exact ix_A _ (by omega)
    have e1 : ix (t[i + 1]'(by omega)) = ((a.toNat % 4 * 16 + b.toNat / 16 : Nat) : Int) := by
      rw [g 1 _ (by omega) rfl]; exact ix_A _ (by omega)
    have e2 : ix (t[i + 2]'(by omega)) = ((b.toNat % 16 * 4 : Nat) : Int) := by
      rw [g 2 _ (by omega) rfl]; exact ix_A _ (by omega)
    have last : E (fun K => montageref42_Bytes.l1 K t (x4 : Int) (nm (o ++ [a, b])) ((0 : Nat) : Int) ((2 : Nat) : Int) ((i + 3 : Nat) : Int)) (⟨(o ++ [a, b]).toArray⟩, 0) := by
      have h := rb_end t (o ++ [a, b]) x4 ((0 : Nat) : Int) ((2 : Nat) : Int) (by rw [List.length_append]; show o.length + 2 ≤ _; omega)
      rw [if_pos hs, show x4 = i + 3 by omega] at h
      rw [show x4 = i + 3 by omega]
      exact h
    have s2 := rb_step t x4 (nm (o ++ [a])) (b.toNat / 16) 4 (i + 2) (b.toNat % 16 * 4) (by omega) hx (by omega) (by omega) (by omega) (by rw [nm_length, List.length_append]; show o.length + 1 < _; omega) e2 (by omega) _ (by
      simp only [show ((4 : Nat) = 0) = False by simp, if_false]
      rw [nm_snoc _ _ (Nat.mod_lt _ (by omega)), ofNat_eq b _ (by omega), show (b.toNat / 16 * 64 + b.toNat % 16 * 4) % 2 ^ (4 - 2) = 0 by omega, List.append_assoc]
      exact last)
    have s1 := rb_step t x4 (nm o) (0 * 64 + a.toNat / 4) 6 (i + 1) (a.toNat % 4 * 16 + b.toNat / 16) (by omega) hx (by omega) (by omega) (by omega) (by rw [nm_length]; omega) e1 (by omega) _ (by
      simp only [show ((6 : Nat) = 0) = False by simp, if_false]
      rw [nm_snoc _ _ (Nat.mod_lt _ (by omega)), ofNat_eq a _ (by omega), show ((0 * 64 + a.toNat / 4) * 64 + (a.toNat % 4 * 16 + b.toNat / 16)) % 2 ^ (6 - 2) = b.toNat / 16 by omega]
      exact s2)
    exact rb_step t x4 (nm o) 0 0 i (a.toNat / 4) (by omega) hx (by omega) (by omega) (by omega) (by rw [nm_length]; omega) e0 (by omega) _ (by simp only [if_true]; exact s1)
  | a :: b :: c :: r, o, i, hi, hc, hs, ho => by
    have ha := a.toNat_lt
    have hb := b.toNat_lt
    have hcc := c.toNat_lt
    have hl : (core (a :: b :: c :: r)).length = (core r).length + 4 := rfl
    have g : ∀ (j : Nat) x (h : i + j < t.size), (core (a :: b :: c :: r))[j]? = some x → t[i + j]'h = x := fun j x h hj => by
      have := hc j x hj
      rw [List.getElem?_eq_getElem (by rw [data_length]; exact h)] at this
      exact Option.some.inj this
    have e0 : ix (t[i]'(by omega)) = ((a.toNat / 4 : Nat) : Int) := by
      have := g 0 _ (by omega) rfl
      rw [show t[i]'(by omega) = A (a.toNat / 4) from this]; exact ix_A _ (by omega)
    have e1 : ix (t[i + 1]'(by omega)) = ((a.toNat % 4 * 16 + b.toNat / 16 : Nat) : Int) := by
      rw [g 1 _ (by omega) rfl]; exact ix_A _ (by omega)
    have e2 : ix (t[i + 2]'(by omega)) = ((b.toNat % 16 * 4 + c.toNat / 64 : Nat) : Int) := by
      rw [g 2 _ (by omega) rfl]; exact ix_A _ (by omega)
    have e3 : ix (t[i + 3]'(by omega)) = ((c.toNat % 64 : Nat) : Int) := by
      rw [g 3 _ (by omega) rfl]; exact ix_A _ (Nat.mod_lt _ (by omega))
    have eo : o ++ a :: b :: c :: r = (o ++ [a, b, c]) ++ r := by simp
    have ih := rb_ok t x4 hx ht r (o ++ [a, b, c]) (i + 4) (by omega) (fun j x hj => by
      have := hc (j + 4) x hj
      rw [← this]; congr 1; omega) (by rw [← eo]; exact hs) (by rw [List.length_append]; show o.length + 3 ≤ _; omega)
    rw [← eo] at ih
    have s3 := rb_step t x4 (nm (o ++ [a, b])) (c.toNat / 64) 2 (i + 3) (c.toNat % 64) (by omega) hx (by omega) (by omega) (by omega) (by rw [nm_length, List.length_append]; show o.length + 2 < _; omega) e3 (by omega) _ (by
      simp only [show ((2 : Nat) = 0) = False by simp, if_false]
      rw [nm_snoc _ _ (Nat.mod_lt _ (by omega)), ofNat_eq c _ (by omega), show (c.toNat / 64 * 64 + c.toNat % 64) % 2 ^ (2 - 2) = 0 by omega, List.append_assoc]
      exact ih)
    have s2 := rb_step t x4 (nm (o ++ [a])) (b.toNat / 16) 4 (i + 2) (b.toNat % 16 * 4 + c.toNat / 64) (by omega) hx (by omega) (by omega) (by omega) (by rw [nm_length, List.length_append]; show o.length + 1 < _; omega) e2 (by omega) _ (by
      simp only [show ((4 : Nat) = 0) = False by simp, if_false]
      rw [nm_snoc _ _ (Nat.mod_lt _ (by omega)), ofNat_eq b _ (by omega), show (b.toNat / 16 * 64 + (b.toNat % 16 * 4 + c.toNat / 64)) % 2 ^ (4 - 2) = c.toNat / 64 by omega, List.append_assoc]
      exact s3)
    have s1 := rb_step t x4 (nm o) (0 * 64 + a.toNat / 4) 6 (i + 1) (a.toNat % 4 * 16 + b.toNat / 16) (by omega) hx (by omega) (by omega) (by omega) (by rw [nm_length]; omega) e1 (by omega) _ (by
      simp only [show ((6 : Nat) = 0) = False by simp, if_false]
      rw [nm_snoc _ _ (Nat.mod_lt _ (by omega)), ofNat_eq a _ (by omega), show ((0 * 64 + a.toNat / 4) * 64 + (a.toNat % 4 * 16 + b.toNat / 16)) % 2 ^ (6 - 2) = b.toNat / 16 by omega]
      exact s2)
    exact rb_step t x4 (nm o) 0 0 i (a.toNat / 4) (by omega) hx (by omega) (by omega) (by omega) (by rw [nm_length]; omega) e0 (by omega) _ (by simp only [if_true]; exact s1)
/-! how many signs stand ahead of those at the end -/
theorem rb_strip (t : ByteArray) (ht : t.size ≤ 100000) (r : ByteArray × Int) : ∀ (d x4 : Nat), x4 + d ≤ t.size → (∀ j (h : j < t.size), x4 ≤ j → j < x4 + d → t[j]'h = 61) → (∀ h : 0 < x4, ∀ h2 : x4 - 1 < t.size, t[x4 - 1]'h2 ≠ 61) →
    E (fun K => montageref42_Bytes.l1 K t (x4 : Int) (nm []) ((0 : Nat) : Int) ((0 : Nat) : Int) ((0 : Nat) : Int)) r → E (fun K => montageref42_Bytes.l0 K t ((x4 + d : Nat) : Int)) r := by
  intro d
  induction d with
  | zero =>
    intro x4 hx h61 hne h
    have hj : E (fun K => montageref42_Bytes.j1 K t (x4 : Int)) r := E.step 0 (fun K _ => rfl) h
    refine E.step 0 (fun K _ => ?_) hj
    show montageref42_Bytes.l0 (K + 1) t ((x4 : Nat) : Int) = _
    rw [montageref42_Bytes.l0]
    by_cases h0 : 0 < x4
    · have ew : wrap64 ((x4 : Int) - 1) = ((x4 - 1 : Nat) : Int) := by rw [wid2 _ (by omega) (by omega)]; omega
      rw [if_pos (by omega), ew, if_pos (by omega), if_pos (by omega), bt_nat t (x4 - 1) (by omega), if_neg]
      intro hc
      exact hne h0 (by omega) (byte_eq (by show _ = 61; omega))
    · rw [if_neg (by omega)]
  | succ d ih =>
    intro x4 hx h61 hne h
    have h2 := ih x4 (by omega) (fun j hj h1 h3 => h61 j hj h1 (by omega)) hne h
    refine E.step 0 (fun K _ => ?_) h2
    show montageref42_Bytes.l0 (K + 1) t ((x4 + (d + 1) : Nat) : Int) = _
    have ew : wrap64 (((x4 + (d + 1) : Nat) : Int) - 1) = ((x4 + d : Nat) : Int) := by rw [wid2 _ (by omega) (by omega)]; omega
    have hb : (((t[x4 + d]'(by omega)).toNat : Nat) : Int) = 61 := by rw [h61 (x4 + d) (by omega) (by omega) (by omega)]; rfl
    rw [montageref42_Bytes.l0, if_pos (by omega), ew, if_pos (by omega), if_pos (by omega), bt_nat t (x4 + d) (by omega), hb, if_pos rfl]
theorem strip_some (t : ByteArray) : ∀ n, n ≤ t.size → ∃ x4 d, x4 + d = n ∧ (∀ j (h : j < t.size), x4 ≤ j → j < x4 + d → t[j]'h = 61) ∧ (∀ h : 0 < x4, ∀ h2 : x4 - 1 < t.size, t[x4 - 1]'h2 ≠ 61)
  | 0, _ => ⟨0, 0, rfl, fun j _ h1 h2 => by omega, fun h => by omega⟩
  | n + 1, hn => by
    by_cases h : t[n]'(by omega) = 61
    · obtain ⟨x4, d, h1, h2, h3⟩ := strip_some t n (by omega)
      refine ⟨x4, d + 1, by omega, fun j hj h4 h5 => ?_, h3⟩
      by_cases e : j = n
      · subst e; exact h
      · exact h2 j hj h4 (by omega)
    · exact ⟨n + 1, 0, rfl, fun j _ h1 h2 => by omega, fun _ _ => h⟩
theorem rbytes_bad (t : ByteArray) (ht : t.size ≤ 100000) (h : ∀ b, sB b ≠ t.data.toList) : E (fun K => montageref42_Bytes.f K t) (⟨#[]⟩, 2) := by
  obtain ⟨x4, d, h1, h2, h3⟩ := strip_some t t.size (Nat.le_refl _)
  obtain ⟨r, hr, hr2⟩ := rb_total t x4 (by omega) ht x4 0 [] 0 0 (by omega) (Nat.le_refl _) (by decide) (Or.inl rfl)
  rcases hr2 with rfl | ⟨o, ho, _⟩
  · have h4 := rb_strip t ht _ d x4 (by omega) h2 h3 hr
    rw [h1] at h4
    exact h4
  · exact absurd ho (h o)
theorem rbytes_ok (t : ByteArray) (ht : t.size ≤ 100000) (b : List UInt8) (h : t.data.toList = sB b) : E (fun K => montageref42_Bytes.f K t) (⟨b.toArray⟩, 0) := by
  obtain ⟨p, hp, e⟩ := core_sB b
  have hl := data_length t
  have hlen : t.size = (core b).length + p := by rw [← hl, h, e, List.length_append, List.length_replicate]
  have hat : ∀ (j : Nat) x, (core b)[j]? = some x → t.data.toList[0 + j]? = some x := by
    intro j x hj
    rw [h, e, Nat.zero_add]
    have hjl : j < (core b).length := by
      rcases Nat.lt_or_ge j (core b).length with h' | h'
      · exact h'
      · rw [List.getElem?_eq_none h'] at hj; cases hj
    rw [List.getElem?_append_left hjl]
    exact hj
  have hok := rb_ok t (core b).length (by omega) ht b [] 0 (by omega) hat (by rw [List.nil_append]; exact h.symm) (Nat.le_refl _)
  rw [List.nil_append] at hok
  have h4 := rb_strip t ht _ p (core b).length (by omega) (fun j hj h1 h2 => ?_) (fun h0 h2 => ?_) hok
  · rw [← hlen] at h4
    exact h4
  · have hq : t.data.toList[j]? = some (t[j]'hj) := List.getElem?_eq_getElem (by rw [hl]; exact hj)
    rw [h, e, List.getElem?_append_right h1] at hq
    have := List.mem_of_getElem? hq
    exact (List.mem_replicate.1 this).2
  · have hq := hat ((core b).length - 1) _ (List.getElem?_eq_getElem (by omega))
    rw [Nat.zero_add, List.getElem?_eq_getElem (by rw [hl]; exact h2)] at hq
    have e2 : t[(core b).length - 1]'h2 = (core b)[(core b).length - 1]'(by omega) := Option.some.inj hq
    rw [e2]
    exact core_ne b _ (List.getElem_mem _)
end Go.Proofs.YtdnahkeiidbihaaDoor.PArmor
