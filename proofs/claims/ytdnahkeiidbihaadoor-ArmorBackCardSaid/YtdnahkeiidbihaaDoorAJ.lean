import Derived.Test.YtdnahkeiidbihaaDoorAI
import Derived.Test.YtdnahkeiidbihaaDoorPArmorx8
namespace Go.Proofs.YtdnahkeiidbihaaDoor.PArmor
set_option linter.unusedVariables false
set_option linter.unusedSimpArgs false
open Go.RowKit Go.Proofs.YtdnahkeiidbihaaDoorW.PrintWords Go.Proofs.YtdnahkeiidbihaaDoorW.PrintLast Go.Proofs.YtdnahkeiidbihaaDoorW.PrintMore
/-! ### G. Names and widths -/
def upper (b : UInt8) : Bool := decide (65 ≤ b.toNat) && decide (b.toNat ≤ 90)
def nameOk (l : List UInt8) : Bool := decide (1 ≤ l.length) && (decide (l.length ≤ 30) && l.all upper)
def letters : List UInt8 := [65, 66, 67, 68, 69, 70, 71, 72, 73, 74, 75, 76, 77, 78, 79, 80, 81, 82, 83, 84, 85, 86, 87, 88, 89, 90]
theorem letters_c : ∀ i : Fin 256, letters.contains (UInt8.ofNat i.val) = upper (UInt8.ofNat i.val) := by decide +kernel
theorem letters_f (b : UInt8) : letters.contains b = upper b := by
  have h := letters_c ⟨b.toNat, b.toNat_lt⟩
  simp only [UInt8.ofNat_toNat] at h
  exact h
theorem dropWhile_nil {p : UInt8 → Bool} : ∀ l : List UInt8, l.dropWhile p = [] ↔ ∀ x ∈ l, p x = true
  | [] => by simp
  | y :: ys => by
    have ih := dropWhile_nil (p := p) ys
    cases h : p y with
    | true => rw [List.dropWhile_cons_of_pos h, ih]; simp [h]
    | false => rw [List.dropWhile_cons_of_neg (by rw [h]; decide)]; simp [h]
theorem dropWhile_head {p : UInt8 → Bool} : ∀ (l : List UInt8) y ys, l.dropWhile p = y :: ys → p y = false
  | [], y, ys, h => by cases h
  | z :: zs, y, ys, h => by
    cases hz : p z with
    | true => rw [List.dropWhile_cons_of_pos hz] at h; exact dropWhile_head zs y ys h
    | false =>
      rw [List.dropWhile_cons_of_neg (by rw [hz]; decide)] at h
      rw [← (List.cons.inj h).1]; exact hz
theorem drop_all {p : UInt8 → Bool} (l : List UInt8) : (((l.reverse.dropWhile p).reverse).dropWhile p).isEmpty = l.all p := by
  by_cases h : l.all p = true
  · have h1 : l.reverse.dropWhile p = [] := by
      rw [dropWhile_nil]
      intro x hx
      exact List.all_eq_true.1 h x (List.mem_reverse.1 hx)
    rw [h1, h]; rfl
  · rw [Bool.not_eq_true] at h
    rw [h, Bool.eq_false_iff]
    intro hc
    rw [List.isEmpty_iff, dropWhile_nil] at hc
    cases hd : l.reverse.dropWhile p with
    | nil =>
      rw [dropWhile_nil] at hd
      have : l.all p = true := List.all_eq_true.2 fun x hx => hd x (List.mem_reverse.2 hx)
      rw [this] at h; cases h
    | cons y ys =>
      have h1 := hc y (by rw [hd]; exact List.mem_reverse.2 List.mem_cons_self)
      rw [dropWhile_head _ y ys hd] at h1
      cases h1
theorem right_f (s : ByteArray) (hs : s.size ≤ 1000000) : armor_right.f s = some (nameOk s.data.toList) := by
  have hl := data_length s
  unfold armor_right.f nameOk
  rw [ByteArray.toList_eq]
  by_cases h0 : s.data.toList = []
  · rw [if_pos h0, h0]; rfl
  · have h1 : 1 ≤ s.data.toList.length := by
      rcases Nat.eq_zero_or_pos s.data.toList.length with h | h
      · exact absurd (List.length_eq_zero_iff.1 h) h0
      · exact h
    rw [if_neg h0, decide_eq_true h1, Bool.true_and, hl]
    by_cases h30 : s.size ≤ 30
    · rw [if_pos (by omega), decide_eq_true h30, Bool.true_and]
      unfold strings_Trim.f
      rw [if_pos ⟨by omega, by decide, by decide⟩, Option.bind_some, ByteArray.toList_eq]
      congr 1
      have e := drop_all (p := fun b => letters.contains b) s.data.toList
      have e2 : s.data.toList.all (fun b => letters.contains b) = s.data.toList.all upper := by
        congr 1; funext b; exact letters_f b
      rw [← e2, ← e]
      show (Lib.trimS s.data.toList letters == ([] : List UInt8)) = _
      unfold Lib.trimS Lib.trimLeftS Lib.trimRightS
      generalize List.dropWhile _ _ = l
      cases l <;> rfl
    · rw [if_neg (by omega), decide_eq_false h30, Bool.false_and]
theorem rn_l0 (s : ByteArray) (hs : s.size ≤ 1000000) : ∀ (m i K : Nat), i + m = s.size → montageref42_name.l0 (K + m + 1) s (i : Int) = some ((s.data.toList.drop i).all upper)
  | 0, i, K, h => by
    have hd : s.data.toList.drop i = [] := List.drop_eq_nil_iff.2 (by rw [data_length]; omega)
    rw [show K + 0 + 1 = K + 1 from rfl, montageref42_name.l0, if_neg (by omega), hd]; rfl
  | m + 1, i, K, h => by
    have hi : i < s.size := by omega
    have ew : wrap64 ((i : Int) + 1) = ((i + 1 : Nat) : Int) := by rw [wid2 _ (by omega) (by omega)]; rfl
    rw [show K + (m + 1) + 1 = (K + m + 1) + 1 by omega, montageref42_name.l0, if_pos (by omega), if_pos (by omega), bt_nat s i hi, ew, rn_l0 s hs m (i + 1) K (by omega)]
    rw [List.drop_eq_getElem_cons (i := i) (by rw [data_length]; exact hi), List.all_cons, get_data s i hi]
    have eu : upper (s[i]'hi) = (decide (65 ≤ (s[i]'hi).toNat) && decide ((s[i]'hi).toNat ≤ 90)) := rfl
    rw [eu]
    by_cases h1 : (s[i]'hi).toNat < 65
    · rw [if_pos (by omega), decide_eq_false (by omega), Bool.false_and, Bool.false_and]
    · rw [if_neg (by omega), decide_eq_true (by omega), Bool.true_and]
      by_cases h2 : (s[i]'hi).toNat > 90
      · rw [if_pos (by omega), decide_eq_false (by omega), Bool.false_and]
      · rw [if_neg (by omega), decide_eq_true (by omega), Bool.true_and]
theorem name_f (s : ByteArray) (hs : s.size ≤ 1000000) (K : Nat) (hK : s.size + 10 ≤ K) : montageref42_name.f K s = some (nameOk s.data.toList) := by
  have hl := data_length s
  obtain ⟨q, rfl⟩ : ∃ q, K = (q + s.size + 1) + 1 := ⟨K - s.size - 2, by omega⟩
  have h := rn_l0 s hs s.size 0 q (by omega)
  rw [List.drop_zero, show ((0 : Nat) : Int) = 0 from rfl] at h
  unfold montageref42_name.f nameOk
  rw [hl]
  by_cases h1 : (s.size : Int) < 1
  · rw [if_pos h1, montageref42_name.j0, if_pos rfl, decide_eq_false (by omega), Bool.false_and]
  · rw [if_neg h1, montageref42_name.j0, decide_eq_true (show 1 ≤ s.size by omega), Bool.true_and]
    by_cases h2 : (s.size : Int) > 30
    · rw [decide_eq_true h2, if_pos rfl, decide_eq_false (by omega), Bool.false_and]
    · rw [decide_eq_false h2, if_neg (by decide), h, decide_eq_true (show s.size ≤ 30 by omega), Bool.true_and]
def wideOk (n : Int) : Bool := decide (4 ≤ n) && (decide (n ≤ 76) && (Int.tmod n 4 == 0))
theorem wide_f (n : Int) : armor_wide.f n = some (wideOk n) := by
  unfold armor_wide.f wideOk
  by_cases h1 : n ≥ 4
  · rw [if_pos h1, decide_eq_true (show 4 ≤ n from h1), Bool.true_and]
    by_cases h2 : n ≤ 76
    · rw [if_pos h2, decide_eq_true h2, Bool.true_and]
    · rw [if_neg h2, decide_eq_false h2, Bool.false_and]
  · rw [if_neg h1, decide_eq_false (show ¬ 4 ≤ n from h1), Bool.false_and]
/-! ### H. Encode: both are one -/
def beginL : List UInt8 := [45, 45, 45, 45, 45, 66, 69, 71, 73, 78, 32]
def endL : List UInt8 := [45, 45, 45, 45, 45, 69, 78, 68, 32]
def dashL : List UInt8 := [45, 45, 45, 45, 45]
def encB (s name : ByteArray) (n : Nat) : List UInt8 := beginL ++ name.data.toList ++ dashL ++ [10] ++ lns n ((sB s.data.toList).length + 1) ⟨(sB s.data.toList).toArray⟩ ++ (sumL s).data.toList ++ [10] ++ endL ++ name.data.toList ++ dashL ++ [10]
theorem enc_f (s name : ByteArray) (w : Int) (hs : s.size ≤ 1000) (hn : name.size ≤ 1000) (hok : nameOk name.data.toList = true) (hw : wideOk w = true) :
    armor_Encode.f s name w = some (⟨(encB s name w.toNat).toArray⟩, 0) := by
  unfold armor_Encode.f
  rw [if_pos ⟨by omega, by omega⟩, right_f name (by omega), wide_f, Option.bind_some, Option.bind_some, if_pos ⟨hok, hw⟩, if_pos (by omega), signs_f s (by omega), Option.bind_some, sum_f s (by omega), Option.bind_some, if_pos (by rw [sumL_size]; omega)]
  congr 1
  congr 1
  congr 1
  congr 1
  unfold encB encHead encTail
  simp only [data_append10, List.append_assoc]
  rfl
theorem enc_bad (s name : ByteArray) (w : Int) (hs : s.size ≤ 1000) (hn : name.size ≤ 1000) (h : ¬ (nameOk name.data.toList = true ∧ wideOk w = true)) : armor_Encode.f s name w = some (⟨#[]⟩, 1) := by
  unfold armor_Encode.f
  rw [if_pos ⟨by omega, by omega⟩, right_f name (by omega), wide_f, Option.bind_some, Option.bind_some, if_neg h]
def finB (x8 : List UInt8) (s name : ByteArray) : List UInt8 := x8 ++ (sumL s).data.toList ++ ([10] ++ endL) ++ name.data.toList ++ (dashL ++ [10])
theorem mn_nat (n m : Nat) : mn (n : Int) (m : Int) = ((min n m : Nat) : Int) := by unfold mn; split <;> omega
theorem re_l0 (s name : ByteArray) (n : Nat) (hn : 1 ≤ n) (hs : s.size ≤ 1000) (hm : name.size ≤ 1000) : ∀ (k : Nat) (x8 x9 : ByteArray), x9.size < k → x8.size + 2 * x9.size ≤ 100000000 →
    E (fun K => montageref42_Encode.l0 K s name (n : Int) x8 x9) (⟨(finB (x8.data.toList ++ lns n k x9) s name).toArray⟩, 0)
  | 0, x8, x9, hk, _ => by omega
  | k + 1, x8, x9, hk, hb => by
    by_cases h0 : x9.size = 0
    · have ht : x9.toList = [] := eq_of_beq (toList_none x9 h0)
      rw [lns, if_pos h0, List.append_nil]
      refine E.done (3000 + s.size) (fun K hK => ?_)
      show montageref42_Encode.l0 (K + 1) s name (n : Int) x8 x9 = _
      rw [montageref42_Encode.l0, if_pos ht, rsum_f s (by omega) K hK, Option.bind_some]
      have z1 : (x8 ++ sumL s).size = x8.size + 5 := by rw [ByteArray.size_append, sumL_size]
      have z2 : ((x8 ++ sumL s) ++ (⟨#[10, 45, 45, 45, 45, 45, 69, 78, 68, 32]⟩ : ByteArray)).size = x8.size + 5 + 10 := by rw [ByteArray.size_append, z1]; rfl
      have z3 : (((x8 ++ sumL s) ++ (⟨#[10, 45, 45, 45, 45, 45, 69, 78, 68, 32]⟩ : ByteArray)) ++ name).size = x8.size + 5 + 10 + name.size := by rw [ByteArray.size_append, z2]
      rw [if_pos (by rw [sumL_size]; omega), if_pos (by rw [z1]; omega), if_pos (by rw [z2]; omega), if_pos (by rw [z3]; omega)]
      congr 1
    · have ht : ¬ x9.toList = [] := fun h => by have := toList_ne x9 h0; rw [h] at this; cases this
      rw [lns, if_neg h0]
      have hp : 1 ≤ min n x9.size := by omega
      have hxs : (x9.extract 0 (min n x9.size)).size = min n x9.size := by rw [ByteArray.size_extract]; omega
      have hx2 : (x9.extract (min n x9.size) x9.size).size = x9.size - min n x9.size := by rw [ByteArray.size_extract]; omega
      have z1 : (x8 ++ x9.extract 0 (min n x9.size)).size = x8.size + min n x9.size := by rw [ByteArray.size_append, hxs]
      have z2 : ((x8 ++ x9.extract 0 (min n x9.size)) ++ (⟨#[10]⟩ : ByteArray)).size = x8.size + min n x9.size + 1 := by rw [ByteArray.size_append, z1]; rfl
      have ih := re_l0 s name n hn hs hm k ((x8 ++ x9.extract 0 (min n x9.size)) ++ (⟨#[10]⟩ : ByteArray)) (x9.extract (min n x9.size) x9.size) (by omega) (by rw [z2, hx2]; omega)
      have ed : ((x8 ++ x9.extract 0 (min n x9.size)) ++ (⟨#[10]⟩ : ByteArray)).data.toList ++ lns n k (x9.extract (min n x9.size) x9.size) = x8.data.toList ++ (((x9.extract 0 (min n x9.size)).data.toList ++ [10]) ++ lns n k (x9.extract (min n x9.size) x9.size)) := by
        simp only [data_append10, List.append_assoc]
      rw [ed] at ih
      refine E.step 0 (fun K _ => ?_) ih
      show montageref42_Encode.l0 (K + 1) s name (n : Int) x8 x9 = _
      rw [montageref42_Encode.l0, if_neg ht, mn_nat, if_pos (by omega), if_pos (by omega), Int.toNat_natCast, if_pos (by rw [hxs]; omega), if_pos (by rw [z1]; omega)]
theorem renc_f (s name : ByteArray) (w : Int) (hs : s.size ≤ 1000) (hn : name.size ≤ 1000) (hok : nameOk name.data.toList = true) (hw : wideOk w = true) :
    E (fun K => montageref42_Encode.f K s name w) (⟨(encB s name w.toNat).toArray⟩, 0) := by
  have hw2 := hw
  unfold wideOk at hw2
  simp only [Bool.and_eq_true, decide_eq_true_eq, beq_iff_eq] at hw2
  obtain ⟨n, rfl⟩ : ∃ n : Nat, w = (n : Int) := ⟨w.toNat, by omega⟩
  have hsl := sB_length s.data.toList
  have hl := data_length s
  have hh : (((⟨#[45, 45, 45, 45, 45, 66, 69, 71, 73, 78, 32]⟩ : ByteArray) ++ name) ++ (⟨#[45, 45, 45, 45, 45, 10]⟩ : ByteArray)).size = 11 + name.size + 6 := by
    rw [ByteArray.size_append, ByteArray.size_append]; rfl
  have h1 := re_l0 s name n (by omega) hs hn ((sB s.data.toList).length + 1) (((⟨#[45, 45, 45, 45, 45, 66, 69, 71, 73, 78, 32]⟩ : ByteArray) ++ name) ++ (⟨#[45, 45, 45, 45, 45, 10]⟩ : ByteArray)) ⟨(sB s.data.toList).toArray⟩ (Nat.lt_succ_self _) (by rw [hh]; show _ + 2 * (sB s.data.toList).length ≤ _; omega)
  have e : finB ((((⟨#[45, 45, 45, 45, 45, 66, 69, 71, 73, 78, 32]⟩ : ByteArray) ++ name) ++ (⟨#[45, 45, 45, 45, 45, 10]⟩ : ByteArray)).data.toList ++ lns n ((sB s.data.toList).length + 1) ⟨(sB s.data.toList).toArray⟩) s name = encB s name (n : Int).toNat := by
    rw [Int.toNat_natCast]
    unfold finB encB
    simp only [data_append10, List.append_assoc]
    rfl
  rw [e] at h1
  have hj : E (fun K => montageref42_Encode.j0 K s name (n : Int) false) (⟨(encB s name (n : Int).toNat).toArray⟩, 0) := by
    refine E.step (40 * s.size + 100) (fun K hK => ?_) h1
    show montageref42_Encode.j0 (K + 1) s name (n : Int) false = _
    have z : ((⟨#[45, 45, 45, 45, 45, 66, 69, 71, 73, 78, 32]⟩ : ByteArray) ++ name).size = 11 + name.size := by rw [ByteArray.size_append]; rfl
    rw [montageref42_Encode.j0, if_neg (by decide), if_neg (by omega), if_pos (by omega), if_pos (by rw [z]; omega), rsigns_f s (by omega) K hK, Option.bind_some]
  obtain ⟨k, hk⟩ := hj
  refine ⟨max k (name.size + 10), fun K hK => ?_⟩
  show montageref42_Encode.f K s name (n : Int) = _
  unfold montageref42_Encode.f
  have h4 : (Int.tmod (n : Int) 4 != 0) = false := bne_eq_false_iff_eq.mpr hw2.2.2
  rw [name_f name (by omega) K (by omega), Option.bind_some, if_pos hok, if_neg (by omega), if_neg (by omega), h4]
  exact hk K (by omega)
theorem renc_bad (s name : ByteArray) (w : Int) (hs : s.size ≤ 1000) (hn : name.size ≤ 1000) (h : ¬ (nameOk name.data.toList = true ∧ wideOk w = true)) : E (fun K => montageref42_Encode.f K s name w) (⟨#[]⟩, 1) := by
  refine ⟨name.size + 20, fun K hK => ?_⟩
  show montageref42_Encode.f K s name w = _
  unfold montageref42_Encode.f
  rw [name_f name (by omega) K (by omega), Option.bind_some]
  obtain ⟨K, rfl⟩ : ∃ q, K = q + 1 := ⟨K - 1, by omega⟩
  by_cases h1 : nameOk name.data.toList = true
  · rw [if_pos h1]
    have hw : ¬ wideOk w = true := fun hw => h ⟨h1, hw⟩
    by_cases h2 : w < 4
    · rw [if_pos h2, montageref42_Encode.j0, if_pos rfl]
    · rw [if_neg h2]
      by_cases h3 : w > 76
      · rw [if_pos h3, montageref42_Encode.j0, if_pos rfl]
      · rw [if_neg h3]
        have h4 : (Int.tmod w 4 != 0) = true := by
          rw [bne_iff_ne]
          intro hc
          apply hw
          unfold wideOk
          rw [decide_eq_true (show 4 ≤ w by omega), decide_eq_true (show w ≤ 76 by omega), hc]
          rfl
        rw [h4, montageref42_Encode.j0, if_pos rfl]
  · rw [if_neg h1, montageref42_Encode.j0, if_pos rfl]
end Go.Proofs.YtdnahkeiidbihaaDoor.PArmor
