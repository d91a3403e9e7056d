import Derived.Test.YtdnahkeiidbihaaDoorAE
import Derived.Test.YtdnahkeiidbihaaDoorPArmorx6
namespace Go.Proofs.YtdnahkeiidbihaaDoor.PArmor
set_option linter.unusedVariables false
set_option linter.unusedSimpArgs false
open Go.RowKit Go.Proofs.YtdnahkeiidbihaaDoorW.PrintWords Go.Proofs.YtdnahkeiidbihaaDoorW.PrintLast Go.Proofs.YtdnahkeiidbihaaDoorW.PrintMore
/-! ### E. The reference's Bytes -/
/-- With enough rounds. -/
def E {α : Type} (g : Nat → Option α) (r : α) : Prop := ∃ k, ∀ K, k ≤ K → g K = some r
theorem E.step {α : Type} {g h : Nat → Option α} {r : α} (c : Nat) (hs : ∀ K, c ≤ K → h (K + 1) = g K) (hg : E g r) : E h r := by
  obtain ⟨k, hk⟩ := hg
  refine ⟨max k c + 1, fun K hK => ?_⟩
  obtain ⟨K, rfl⟩ : ∃ q, K = q + 1 := ⟨K - 1, by omega⟩
  rw [hs K (by omega), hk K (by omega)]
theorem E.done {α : Type} {h : Nat → Option α} {r : α} (c : Nat) (hs : ∀ K, c ≤ K → h (K + 1) = some r) : E h r :=
  ⟨c + 1, fun K hK => by obtain ⟨K, rfl⟩ : ∃ q, K = q + 1 := ⟨K - 1, by omega⟩; exact hs K (by omega)⟩
theorem value_c : ∀ c : Fin 256, montageref42_value.f 70 (c.val : Int) = some (ix (UInt8.ofNat c.val)) := by decide +kernel
theorem value_f (K : Nat) (hK : 70 ≤ K) (c : UInt8) : montageref42_value.f K ((c.toNat : Nat) : Int) = some (ix c) := by
  have h := value_c ⟨c.toNat, c.toNat_lt⟩
  simp only [UInt8.ofNat_toNat] at h
  exact at_rounds (montageref42_value.mono _) hK h
theorem rb_in (t : ByteArray) (x4 : Nat) (x5 : List Int) (acc hv i : Nat) (hi : i < x4) (hx : x4 ≤ t.size) (hac : acc < 64) (hh : hv ≤ 6) (K : Nat) (hK : 70 ≤ K) :
    montageref42_Bytes.l1 (K + 1) t (x4 : Int) x5 (acc : Int) (hv : Int) (i : Int) = if ix (t[i]'(by omega)) < 0 then some (⟨#[]⟩, 2) else if 2 ≤ hv then montageref42_Bytes.l2 K t (x4 : Int) x5 ((acc * 64 + (ix (t[i]'(by omega))).toNat : Nat) : Int) ((hv - 2 : Nat) : Int) (i : Int) 1 0 else montageref42_Bytes.l1 K t (x4 : Int) x5 ((acc * 64 + (ix (t[i]'(by omega))).toNat : Nat) : Int) ((hv + 6 : Nat) : Int) (wrap64 ((i : Int) + 1)) := by
  rw [montageref42_Bytes.l1, if_pos (by omega), if_pos (by omega), if_pos (by omega), bt_nat t i (by omega), value_f K hK, Option.bind_some]
  by_cases h : ix (t[i]'(by omega)) < 0
  · rw [if_pos h, if_pos h]
  · rw [if_neg h, if_neg h]
    rcases ix_range (t[i]'(by omega)) with h2 | ⟨m, h2, h3, _⟩
    · exact absurd h2 h
    · rw [h2, Int.toNat_natCast, wid2 ((acc : Int) * 64) (by omega) (by omega), wid2 ((acc : Int) * 64 + (m : Int)) (by omega) (by omega), wid2 ((hv : Int) + 6) (by omega) (by omega)]
      have ea : (acc : Int) * 64 + (m : Int) = ((acc * 64 + m : Nat) : Int) := by omega
      rw [ea]
      by_cases h2v : 2 ≤ hv
      · rw [if_pos (by omega), if_pos h2v, wid2 ((hv : Int) + 6 - 8) (by omega) (by omega)]
        congr 1
        omega
      · rw [if_neg (by omega), if_neg h2v]
        rfl
theorem rb_l2 (t : ByteArray) (x4 : Int) (x5 : List Int) (v hv : Nat) (i : Int) (hh : hv = 0 ∨ hv = 2 ∨ hv = 4) (hvv : v < 4096) (hl : x5.length < 10000000) (r : ByteArray × Int)
    (h : E (fun K => montageref42_Bytes.l1 K t x4 (x5 ++ [((v / 2 ^ hv % 256 : Nat) : Int)]) ((v % 2 ^ hv : Nat) : Int) (hv : Int) (wrap64 (i + 1))) r) :
    E (fun K => montageref42_Bytes.l2 K t x4 x5 (v : Int) (hv : Int) i 1 0) r := by
  have last : ∀ (p : Nat), p = 2 ^ hv → 0 < p → E (fun K => montageref42_Bytes.l2 K t x4 x5 (v : Int) (hv : Int) i (p : Int) (hv : Int)) r := by
    intro p hp h0
    refine E.step 0 (fun K _ => ?_) h
    have e1 : Int.tdiv (v : Int) (p : Int) = ((v / p : Nat) : Int) := by rw [Int.tdiv_eq_ediv_of_nonneg (Int.natCast_nonneg _)]; rfl
    have e2 : Int.tmod (v : Int) (p : Int) = ((v % p : Nat) : Int) := by rw [Int.tmod_eq_emod_of_nonneg (Int.natCast_nonneg _)]; rfl
    have hd : v / p ≤ v := Nat.div_le_self _ _
    show montageref42_Bytes.l2 (K + 1) t x4 x5 (v : Int) (hv : Int) i (p : Int) (hv : Int) = _
    rw [montageref42_Bytes.l2, if_neg (by omega), if_neg (by omega), if_pos (by omega), e1, e2, ← hp]
    revert hd
    generalize v / p = q
    intro hd
    rw [wid2 (q : Int) (by omega) (by omega)]
    rfl
  rcases hh with rfl | rfl | rfl
  · exact last 1 rfl (by omega)
  · have s1 : E (fun K => montageref42_Bytes.l2 K t x4 x5 (v : Int) ((2 : Nat) : Int) i 2 1) r := E.step 0 (fun K _ => by
      show montageref42_Bytes.l2 (K + 1) _ _ _ _ _ _ _ _ = _
      rw [montageref42_Bytes.l2, if_pos (by decide), wid2 (2 * 2) (by omega) (by omega), wid2 (1 + 1) (by omega) (by omega)]; rfl) (last 4 rfl (by omega))
    exact E.step 0 (fun K _ => by
      show montageref42_Bytes.l2 (K + 1) _ _ _ _ _ _ _ _ = _
      rw [montageref42_Bytes.l2, if_pos (by decide), wid2 (2 * 1) (by omega) (by omega), wid2 (0 + 1) (by omega) (by omega)]; rfl) s1
  · have s3 : E (fun K => montageref42_Bytes.l2 K t x4 x5 (v : Int) ((4 : Nat) : Int) i 8 3) r := E.step 0 (fun K _ => by
      show montageref42_Bytes.l2 (K + 1) _ _ _ _ _ _ _ _ = _
      rw [montageref42_Bytes.l2, if_pos (by decide), wid2 (2 * 8) (by omega) (by omega), wid2 (3 + 1) (by omega) (by omega)]; rfl) (last 16 rfl (by omega))
    have s2 : E (fun K => montageref42_Bytes.l2 K t x4 x5 (v : Int) ((4 : Nat) : Int) i 4 2) r := E.step 0 (fun K _ => by
      show montageref42_Bytes.l2 (K + 1) _ _ _ _ _ _ _ _ = _
      rw [montageref42_Bytes.l2, if_pos (by decide), wid2 (2 * 4) (by omega) (by omega), wid2 (2 + 1) (by omega) (by omega)]; rfl) s3
    have s1 : E (fun K => montageref42_Bytes.l2 K t x4 x5 (v : Int) ((4 : Nat) : Int) i 2 1) r := E.step 0 (fun K _ => by
      show montageref42_Bytes.l2 (K + 1) _ _ _ _ _ _ _ _ = _
      rw [montageref42_Bytes.l2, if_pos (by decide), wid2 (2 * 2) (by omega) (by omega), wid2 (1 + 1) (by omega) (by omega)]; rfl) s2
    exact E.step 0 (fun K _ => by
      show montageref42_Bytes.l2 (K + 1) _ _ _ _ _ _ _ _ = _
      rw [montageref42_Bytes.l2, if_pos (by decide), wid2 (2 * 1) (by omega) (by omega), wid2 (0 + 1) (by omega) (by omega)]; rfl) s1
/-- One sign more. -/
theorem rb_step (t : ByteArray) (x4 : Nat) (x5 : List Int) (acc hv i m : Nat) (hi : i < x4) (hx : x4 ≤ t.size) (ht : t.size ≤ 1000000) (hac : acc < 64) (hh : hv = 0 ∨ hv = 2 ∨ hv = 4 ∨ hv = 6) (hl : x5.length < 10000000) (hm : ix (t[i]'(by omega)) = (m : Int)) (hm64 : m < 64) (r : ByteArray × Int)
    (h : E (fun K => if hv = 0 then montageref42_Bytes.l1 K t (x4 : Int) x5 ((acc * 64 + m : Nat) : Int) ((6 : Nat) : Int) ((i + 1 : Nat) : Int) else montageref42_Bytes.l1 K t (x4 : Int) (x5 ++ [(((acc * 64 + m) / 2 ^ (hv - 2) % 256 : Nat) : Int)]) (((acc * 64 + m) % 2 ^ (hv - 2) : Nat) : Int) ((hv - 2 : Nat) : Int) ((i + 1 : Nat) : Int)) r) :
    E (fun K => montageref42_Bytes.l1 K t (x4 : Int) x5 (acc : Int) (hv : Int) (i : Int)) r := by
  have ew : wrap64 ((i : Int) + 1) = ((i + 1 : Nat) : Int) := by rw [wid2 _ (by omega) (by omega)]; rfl
  by_cases h0 : hv = 0
  · subst h0
    simp only [if_true] at h
    refine E.step 70 (fun K hK => ?_) h
    show montageref42_Bytes.l1 (K + 1) t (x4 : Int) x5 (acc : Int) ((0 : Nat) : Int) (i : Int) = _
    rw [rb_in t x4 x5 acc 0 i hi hx hac (by omega) K hK, hm, if_neg (by omega), if_neg (by omega), Int.toNat_natCast, ew]
  · simp only [h0, if_false] at h
    have h2 := rb_l2 t (x4 : Int) x5 (acc * 64 + m) (hv - 2) (i : Int) (by omega) (by omega) hl r (by rw [ew]; exact h)
    refine E.step 70 (fun K hK => ?_) h2
    show montageref42_Bytes.l1 (K + 1) t (x4 : Int) x5 (acc : Int) (hv : Int) (i : Int) = _
    rw [rb_in t x4 x5 acc hv i hi hx hac (by omega) K hK, hm, if_neg (by omega), if_pos (by omega), Int.toNat_natCast]
end Go.Proofs.YtdnahkeiidbihaaDoor.PArmor
