/- GlobQuotes and GlobWide, plainly. -/
import Derived.Test.YtlbkfnofnlioaaaDoorPureGlobFits
import Derived.Test.YtlbkfnofnlioaaaDoorPGlobx5
import Derived.Test.YtlbkfnofnlioaaaDoorPGlobx6
namespace Go.Proofs.YtlbkfnofnlioaaaDoor.PGlob
open Go.RowKit Go.Proofs.YtlbkfnofnlioaaaDoorW.PrintWords Go.Proofs.YtlbkfnofnlioaaaDoorW.PrintLast Go.Proofs.YtlbkfnofnlioaaaDoorW.PrintMore
/-! ### F. Quoting -/
theorem RF_lit (hit : Nat → Nat → Bool) (star : Nat → Bool) : ∀ i k, (∀ t, t < i → star t = false) → (RF star hit i k ↔ k = i ∧ ∀ j, j < i → hit j j = true)
  | 0, k, _ => by rw [RF]; exact ⟨fun h => ⟨h, fun j hj => by omega⟩, fun h => h.1⟩
  | i + 1, k, hs => by
    rw [RF, if_neg (by rw [hs i (by omega)]; decide)]
    constructor
    · rintro ⟨j, rfl, hh, h⟩
      obtain ⟨rfl, h2⟩ := (RF_lit hit star i j (fun t ht => hs t (by omega))).1 h
      refine ⟨rfl, fun t ht => ?_⟩
      by_cases e : t = j
      · rw [e]; exact hh
      · exact h2 t (by omega)
    · rintro ⟨rfl, h⟩
      exact ⟨i, rfl, h i (by omega), (RF_lit hit star i i (fun t ht => hs t (by omega))).2 ⟨rfl, fun j hj => h j (by omega)⟩⟩
theorem fitN_lit (t : List Nat) (ht : ∀ n ∈ t, n < 256) (x : List UInt8) : fitN t x = true ↔ x.map (·.toNat) = t := by
  unfold fitN
  have key : ∀ i, i < t.length → t.getD i 0 < 256 := by
    intro i hi
    rw [List.getD_eq_getElem?_getD, List.getElem?_eq_getElem hi]
    exact ht _ (List.getElem_mem _)
  rw [dpTab_iff _ _ _ _ _ (Nat.le_refl _), RF_lit _ _ _ _ (fun i hi => beq_eq_false_iff_ne.2 (by have := key i hi; omega))]
  constructor
  · rintro ⟨hl, h⟩
    apply List.ext_getElem
    · rw [List.length_map]; exact hl
    · intro i h1 h2
      have h3 := h i h2
      have h4 := key i h2
      rw [Bool.or_eq_true, beq_iff_eq, beq_iff_eq] at h3
      rw [List.getElem_map]
      rw [List.length_map] at h1
      simp only [List.getD_eq_getElem?_getD, List.getElem?_eq_getElem h2, List.getElem?_eq_getElem h1, Option.getD_some] at h3 h4
      omega
  · rintro rfl
    refine ⟨by simp, fun j hj => ?_⟩
    rw [List.length_map] at hj
    rw [Bool.or_eq_true, beq_iff_eq, beq_iff_eq]
    right
    simp only [List.getD_eq_getElem?_getD, List.getElem?_map, List.getElem?_eq_getElem hj, Option.getD_some, Option.map_some]
theorem quoteB_nil : quoteB [] = [] := rfl
theorem quoteB_cons (c : UInt8) (l : List UInt8) : quoteB (c :: l) = (if c = 42 ∨ c = 63 ∨ c = 92 then [92, c] else [c]) ++ quoteB l := by
  unfold quoteB
  rw [List.flatMap_cons]
theorem scan_quote : ∀ (l : List UInt8) (b : Bool), scan (quoteB l) b = some (l.map (·.toNat))
  | [], _ => rfl
  | c :: l, b => by
    rw [quoteB_cons]
    by_cases h : c = 42 ∨ c = 63 ∨ c = 92
    · rw [if_pos h]
      show scan (92 :: c :: quoteB l) b = _
      rw [scan.eq_def]
      simp only [if_true]
      rw [scan_quote l false]
      rfl
    · rw [if_neg h]
      show scan (c :: quoteB l) b = _
      rw [scan.eq_def]
      simp only
      rw [if_neg (fun e => h (.inr (.inr e))), if_neg (fun e => h (.inr (.inl e))), if_neg (fun e => h (.inl e)), scan_quote l false]
      rfl
theorem quote_ne (l : List UInt8) : (quoteB l == [42, 42]) = false := by
  cases l with
  | nil => rfl
  | cons c l =>
    rw [quoteB_cons]
    by_cases h : c = 42 ∨ c = 63 ∨ c = 92
    · rw [if_pos h]; rfl
    · rw [if_neg h]
      have : ¬ c = 42 := fun e => h (.inl e)
      simp [this]
theorem splitL_quote : ∀ l : List UInt8, splitL 47 (quoteB l) = (splitL 47 l).map quoteB
  | [] => rfl
  | c :: l => by
    have ih := splitL_quote l
    rw [quoteB_cons]
    by_cases h : c = 42 ∨ c = 63 ∨ c = 92
    · rw [if_pos h]
      have h47 : ¬ c = 47 := by rintro rfl; revert h; decide
      show splitL 47 (92 :: c :: quoteB l) = _
      rw [splitL, if_neg (by decide), splitL, if_neg h47, splitL, if_neg h47, ih]
      cases hs : splitL 47 l with
      | nil => exact absurd hs (splitL_ne 47 l)
      | cons a t => simp [quoteB_cons, h]
    · rw [if_neg h]
      show splitL 47 (c :: quoteB l) = _
      by_cases h47 : c = 47
      · rw [splitL, if_pos h47, splitL, if_pos h47, ih]; rfl
      · rw [splitL, if_neg h47, splitL, if_neg h47, ih]
        cases hs : splitL 47 l with
        | nil => exact absurd hs (splitL_ne 47 l)
        | cons a t => simp [quoteB_cons, h]
theorem quoteB_eq_nil (l : List UInt8) : quoteB l = [] ↔ l = [] := by
  cases l with
  | nil => exact ⟨fun _ => rfl, fun _ => rfl⟩
  | cons c l =>
    rw [quoteB_cons]
    constructor
    · intro h
      split at h <;> simp at h
    · intro h; cases h
theorem partsL_quote (l : List UInt8) : partsL (quoteB l) = (partsL l).map quoteB := by
  unfold partsL
  by_cases h : l = []
  · rw [h]; rfl
  · rw [if_neg h, if_neg (fun e => h ((quoteB_eq_nil l).1 e)), splitL_quote]
def joinL : List (List UInt8) → List UInt8
  | [] => []
  | [s] => s
  | s :: t :: r => s ++ 47 :: joinL (t :: r)
theorem join_split : ∀ l : List UInt8, joinL (splitL 47 l) = l
  | [] => rfl
  | c :: l => by
    have ih := join_split l
    rw [splitL]
    cases hs : splitL 47 l with
    | nil => exact absurd hs (splitL_ne 47 l)
    | cons a t =>
      rw [hs] at ih
      by_cases h47 : c = 47
      · rw [if_pos h47, h47]
        show [] ++ 47 :: joinL (a :: t) = _
        rw [ih]; rfl
      · rw [if_neg h47]
        cases t with
        | nil => show c :: a = _; rw [show a = l from ih]
        | cons b r =>
          show (c :: a) ++ 47 :: joinL (b :: r) = _
          have ih' : a ++ 47 :: joinL (b :: r) = l := ih
          rw [List.cons_append, ih']
theorem partsL_inj {a b : List UInt8} (h : partsL a = partsL b) : a = b := by
  unfold partsL at h
  by_cases ha : a = []
  · by_cases hb : b = []
    · rw [ha, hb]
    · rw [if_pos ha, if_neg hb] at h
      exact absurd h.symm (splitL_ne 47 b)
  · by_cases hb : b = []
    · rw [if_neg ha, if_pos hb] at h
      exact absurd h (splitL_ne 47 a)
    · rw [if_neg ha, if_neg hb] at h
      rw [← join_split a, ← join_split b, h]
theorem fitsL_quote (a b : List UInt8) (hr : rightL (quoteB a) = true) : fitsL (quoteB a) b = (a == b) := by
  unfold fitsL
  rw [hr, Bool.true_and, partsL_quote]
  unfold rightL at hr
  rw [Bool.and_eq_true, partsL_quote] at hr
  have hall := hr.2
  have hok : ∀ s ∈ partsL a, tks (quoteB s) = some (s.map (·.toNat)) := by
    intro s hs
    have h1 := List.all_eq_true.1 hall (quoteB s) (List.mem_map_of_mem hs)
    unfold okPart at h1
    rw [quote_ne, Bool.false_or] at h1
    unfold tks at h1 ⊢
    split at h1
    · rename_i h2; rw [if_pos h2]; exact scan_quote s false
    · cases h1
  have hpart : ∀ s ∈ partsL a, ∀ x, partL (quoteB s) x = true ↔ x = s := by
    intro s hs x
    unfold partL
    rw [hok s hs]
    simp only
    rw [fitN_lit _ (fun n hn => by obtain ⟨c, _, rfl⟩ := List.mem_map.1 hn; exact c.toNat_lt)]
    constructor
    · intro h
      apply List.ext_getElem
      · have := congrArg List.length h; simpa using this
      · intro i h1 h2
        have h3 := congrArg (fun l => l[i]?) h
        simp only [List.getElem?_map, List.getElem?_eq_getElem h1, List.getElem?_eq_getElem h2, Option.map_some, Option.some.injEq] at h3
        exact UInt8.toNat_inj.1 h3
    · rintro rfl; rfl
  rw [Bool.eq_iff_iff, beq_iff_eq]
  unfold fitsQ
  rw [dpTab_iff _ _ _ _ _ (Nat.le_refl _)]
  have hget : ∀ i, i < (partsL a).length → ((partsL a).map quoteB).getD i [] = quoteB ((partsL a).getD i []) ∧ (partsL a).getD i [] ∈ partsL a := by
    intro i hi
    constructor
    · simp only [List.getD_eq_getElem?_getD, List.getElem?_map, List.getElem?_eq_getElem hi, Option.map_some, Option.getD_some]
    · rw [List.getD_eq_getElem?_getD, List.getElem?_eq_getElem hi]; exact List.getElem_mem _
  rw [RF_lit _ _ _ _ (fun i hi => by rw [List.length_map] at hi; rw [(hget i hi).1]; exact quote_ne _), List.length_map]
  constructor
  · rintro ⟨hl, h⟩
    refine (partsL_inj ?_).symm
    apply List.ext_getElem
    · exact hl
    · intro i h1 h2
      have h3 := h i h2
      rw [(hget i h2).1] at h3
      have h4 := (hpart _ (hget i h2).2 _).1 h3
      simp only [List.getD_eq_getElem?_getD, List.getElem?_eq_getElem h1, List.getElem?_eq_getElem h2, Option.getD_some] at h4
      exact h4
  · rintro rfl
    refine ⟨rfl, fun j hj => ?_⟩
    rw [(hget j hj).1]
    exact (hpart _ (hget j hj).2 _).2 rfl
theorem ofL_append (l r : List UInt8) : ofL l ++ ofL r = ofL (l ++ r) := ba_eq (by simp [ofL])
theorem refquote_l0 (a : ByteArray) (ha : a.size ≤ 100000) : ∀ (K i : Nat) (out : List UInt8), i ≤ a.size → out.length ≤ 2 * i → a.size - i < K →
    montageref37_Quote.l0 K a (ofL out) i = some (ofL (out ++ quoteB (a.data.toList.drop i)))
  | 0, _, _, _, _, h => by omega
  | K + 1, i, out, hi, ho, hK => by
    rw [montageref37_Quote.l0]
    by_cases hlt : i < a.size
    · have w1 := wrap_nat i (by omega)
      have hbt := bt_nat a i hlt
      have hdr := drop_nat a i hlt
      obtain ⟨c, hc⟩ : ∃ c, c = a.data.toList[i]'(by simpa using hlt) := ⟨_, rfl⟩
      rw [← hc] at hbt hdr
      have hex : a.extract i (i + 1) = ofL [c] := by
        rw [extract_ofL, hdr, show i + 1 - i = 1 from by omega]
        rfl
      have hx92 : (⟨#[92]⟩ : ByteArray) = ofL [92] := rfl
      rw [if_pos (by omega), if_pos (by omega), hbt, w1, Int.toNat_natCast, Int.toNat_natCast, hex, hx92, hdr, quoteB_cons, ofL_append, ofL_size, ofL_size, ofL_size]
      have l1 : (out ++ [92]).length = out.length + 1 := by simp
      have l2 : ([c] : List UInt8).length = 1 := rfl
      rw [l1, l2]
      have esc : (c = 42 ∨ c = 63 ∨ c = 92) → (if out.length + 1 ≤ 9223372036854775807 then (if (i : Int) ≤ ((i + 1 : Nat) : Int) then (if ((i + 1 : Nat) : Int) ≤ (a.size : Int) then (if out.length + 1 + 1 ≤ 9223372036854775807 then montageref37_Quote.l0 K a (ofL (out ++ [92]) ++ ofL [c]) ((i + 1 : Nat) : Int) else none) else none) else none) else none) = some (ofL (out ++ ((if c = 42 ∨ c = 63 ∨ c = 92 then [92, c] else [c]) ++ quoteB (a.data.toList.drop (i + 1))))) := by
        intro h
        rw [if_pos (by omega), if_pos (by omega), if_pos (by omega), if_pos (by omega), if_pos h, ofL_append, refquote_l0 a ha K (i + 1) _ (by omega) (by simp; omega) (by omega)]
        simp
      by_cases h42 : c = 42
      · rw [if_pos (by rw [h42]; rfl)]; exact esc (.inl h42)
      · have n42 : ¬ (c.toNat : Int) = 42 := fun h => h42 ((byte_eq c 42 (by decide)).1 (by exact_mod_cast h))
        rw [if_neg n42]
        by_cases h63 : c = 63
        · rw [if_pos (by rw [h63]; rfl)]; exact esc (.inr (.inl h63))
        · have n63 : ¬ (c.toNat : Int) = 63 := fun h => h63 ((byte_eq c 63 (by decide)).1 (by exact_mod_cast h))
          rw [if_neg n63]
          by_cases h92 : c = 92
          · rw [if_pos (by rw [h92]; rfl)]; exact esc (.inr (.inr h92))
          · have n92 : ¬ (c.toNat : Int) = 92 := fun h => h92 ((byte_eq c 92 (by decide)).1 (by exact_mod_cast h))
            rw [if_neg n92, if_pos (by omega), if_pos (by omega), if_pos (by omega), if_neg (by rintro (h | h | h) <;> contradiction), ofL_append, refquote_l0 a ha K (i + 1) _ (by omega) (by simp; omega) (by omega)]
            simp
    · rw [if_neg (by omega)]
      obtain rfl : i = a.size := by omega
      have : a.data.toList.drop a.size = [] := List.drop_eq_nil_iff.2 (by simp)
      rw [this, quoteB_nil, List.append_nil]
theorem refquote_f (a : ByteArray) (ha : a.size ≤ 100000) (K : Nat) (hK : a.size < K) : montageref37_Quote.f K a = some (ofL (quoteB a.data.toList)) := by
  unfold montageref37_Quote.f
  have h := refquote_l0 a ha K 0 [] (by omega) (by simp) (by omega)
  rw [List.drop_zero, List.nil_append] at h
  exact h
theorem GlobQuotes_pure : montagelaw37_GlobQuotes.Pure := by
  intro a b _ _
  refine ⟨401, ?_⟩
  unfold montagelaw37_GlobQuotes.f
  rw [awake_f 401 (by decide), Option.bind_some, if_pos rfl]
  by_cases h1 : (a.size : Int) > 60
  · rw [if_pos h1, montagelaw37_GlobQuotes.j0, if_pos rfl]
  · rw [if_neg h1, montagelaw37_GlobQuotes.j0]
    by_cases h2 : (b.size : Int) > 60
    · rw [if_pos (decide_eq_true h2)]
    · rw [if_neg (by rw [decide_eq_false h2]; decide)]
      have ha : a.size ≤ 100000 := by omega
      have hb : b.size ≤ 100000 := by omega
      have hq : glob_Quote.f a = some (ofL (quoteB a.data.toList)) := by
        unfold glob_Quote.f
        rw [if_pos (by omega)]
        rfl
      have hl := quoteB_length a.data.toList
      have hs : (ofL (quoteB a.data.toList)).size ≤ 200 := by
        rw [ofL_size]
        have : a.data.toList.length = a.size := by simp
        omega
      rw [hq, Option.bind_some, refquote_f a ha 400 (by omega), Option.bind_some, if_pos rfl, right_f _ (by omega) 400 (by omega), Option.bind_some, ofL_data]
      by_cases hr : rightL (quoteB a.data.toList) = true
      · rw [if_pos hr, fits_f _ a (by omega) ha, Option.bind_some, ofL_data, fitsL_quote _ _ hr, if_pos (by simp), fits_f _ b (by omega) hb, Option.bind_some, ofL_data, fitsL_quote _ _ hr, Lib.toList_data, Lib.toList_data]
        simp
      · rw [if_neg hr]
/-! ### G. Wide -/
theorem fitsL_wide (b : List UInt8) : fitsL [42, 42] b = true := by
  unfold fitsL
  rw [Bool.and_eq_true]
  refine ⟨by decide +kernel, ?_⟩
  have hp : partsL [42, 42] = [[42, 42]] := by decide
  rw [hp]
  unfold fitsQ
  rw [dpTab_iff _ _ _ _ _ (Nat.le_refl _)]
  show RF _ _ 1 _
  rw [RF, if_pos (by rfl)]
  exact ⟨0, Nat.zero_le _, rfl⟩
theorem RF_shift (star star' : Nat → Bool) (hit hit' : Nat → Nat → Bool) (h0 : star' 0 = true) (hs : ∀ t, star' (t + 1) = star t) (hh : ∀ t j, hit' (t + 1) j = hit t j) :
    ∀ i k, RF star hit i k → RF star' hit' (i + 1) k
  | 0, k, h => by
    rw [RF] at h
    rw [RF, if_pos h0]
    exact ⟨0, Nat.zero_le _, rfl⟩
  | i + 1, k, h => by
    rw [RF] at h
    rw [RF, hs]
    by_cases e : star i = true
    · rw [if_pos e] at h ⊢
      obtain ⟨j, h1, h2⟩ := h
      exact ⟨j, h1, RF_shift star star' hit hit' h0 hs hh i j h2⟩
    · rw [if_neg e] at h ⊢
      obtain ⟨j, h1, h2, h3⟩ := h
      exact ⟨j, h1, by rw [hh]; exact h2, RF_shift star star' hit hit' h0 hs hh i j h3⟩
theorem fitsQ_before (l q : List (List UInt8)) (h : fitsQ l q = true) : fitsQ ([42, 42] :: l) q = true := by
  unfold fitsQ at h ⊢
  rw [dpTab_iff _ _ _ _ _ (Nat.le_refl _)] at h ⊢
  exact RF_shift _ _ _ _ rfl (fun t => by simp only [List.getD_cons_succ]) (fun t j => by simp only [List.getD_cons_succ]) _ _ h
theorem fitsQ_after (l q : List (List UInt8)) (h : fitsQ l q = true) : fitsQ (l ++ [[42, 42]]) q = true := by
  unfold fitsQ at h ⊢
  rw [dpTab_iff _ _ _ _ _ (Nat.le_refl _)] at h ⊢
  have hin : ∀ t, t < l.length → (l ++ [[42, 42]]).getD t [] = l.getD t [] := by
    intro t ht
    simp only [List.getD_eq_getElem?_getD, List.getElem?_append_left ht]
  have hlast : (l ++ [[42, 42]]).getD l.length [] = [42, 42] := by
    simp only [List.getD_eq_getElem?_getD, List.getElem?_append_right (Nat.le_refl _), Nat.sub_self]
    rfl
  have hlen : (l ++ [[42, 42]]).length = l.length + 1 := by simp
  rw [hlen, RF, if_pos (by rw [hlast]; rfl)]
  exact ⟨q.length, Nat.le_refl _, (RF_congr _ _ _ _ q.length l.length q.length (Nat.le_refl _) (fun t ht => by rw [hin t ht]) (fun t j ht _ _ => by rw [hin t ht])).1 h⟩
theorem splitL_after : ∀ l : List UInt8, splitL 47 (l ++ [47, 42, 42]) = splitL 47 l ++ [[42, 42]]
  | [] => by decide
  | c :: l => by
    have ih := splitL_after l
    rw [List.cons_append, splitL, splitL, ih]
    by_cases h : c = 47
    · rw [if_pos h, if_pos h]; rfl
    · rw [if_neg h, if_neg h]
      cases hs : splitL 47 l with
      | nil => exact absurd hs (splitL_ne 47 l)
      | cons a t => rfl
theorem partsL_before (l : List UInt8) : partsL ([42, 42, 47] ++ l) = [42, 42] :: splitL 47 l := by
  unfold partsL
  rw [if_neg (by simp)]
  show splitL 47 (42 :: 42 :: 47 :: l) = _
  rw [splitL, if_neg (by decide), splitL, if_neg (by decide), splitL, if_pos rfl]
theorem partsL_after (l : List UInt8) : partsL (l ++ [47, 42, 42]) = splitL 47 l ++ [[42, 42]] := by
  unfold partsL
  rw [if_neg (by simp), splitL_after]
theorem fitsL_ne {a b : List UInt8} (h : fitsL a b = true) : partsL a = splitL 47 a := by
  unfold partsL
  by_cases e : a = []
  · rw [e] at h; unfold fitsL rightL at h; simp [partsL] at h
  · rw [if_neg e]
theorem fitsL_before (a b : List UInt8) (h : fitsL a b = true) (hr : rightL ([42, 42, 47] ++ a) = true) : fitsL ([42, 42, 47] ++ a) b = true := by
  have hp := fitsL_ne h
  unfold fitsL at h ⊢
  rw [Bool.and_eq_true] at h ⊢
  refine ⟨hr, ?_⟩
  rw [partsL_before, ← hp]
  exact fitsQ_before _ _ h.2
theorem fitsL_after (a b : List UInt8) (h : fitsL a b = true) (hr : rightL ([42, 42, 47] ++ a) = true) : fitsL (a ++ [47, 42, 42]) b = true := by
  have hp := fitsL_ne h
  unfold fitsL at h ⊢
  rw [Bool.and_eq_true] at h ⊢
  refine ⟨?_, ?_⟩
  · unfold rightL at hr ⊢
    rw [Bool.and_eq_true, partsL_before] at hr
    rw [Bool.and_eq_true, partsL_after, List.all_append, Bool.and_eq_true]
    have h1 := h.1
    unfold rightL at h1
    rw [Bool.and_eq_true, hp] at h1
    have h2 := of_decide_eq_true hr.1
    rw [List.length_cons] at h2
    refine ⟨decide_eq_true ?_, h1.2, by decide⟩
    rw [List.length_append]
    exact ⟨by simp, h2.2⟩
  · rw [partsL_after, ← hp]
    exact fitsQ_after _ _ h.2
theorem ofL_self (a : ByteArray) : a = ofL a.data.toList := ba_eq rfl
theorem GlobWide_pure : montagelaw37_GlobWide.Pure := by
  intro a b _ _
  refine ⟨401, ?_⟩
  unfold montagelaw37_GlobWide.f
  rw [awake_f 401 (by decide), Option.bind_some, if_pos rfl]
  by_cases h1 : (a.size : Int) > 60
  · rw [if_pos h1, montagelaw37_GlobWide.j0, if_pos rfl]
  · rw [if_neg h1, montagelaw37_GlobWide.j0]
    by_cases h2 : (b.size : Int) > 60
    · rw [if_pos (decide_eq_true h2)]
    · rw [if_neg (by rw [decide_eq_false h2]; decide)]
      have ha : a.size ≤ 100000 := by omega
      have hb : b.size ≤ 100000 := by omega
      have e1 : (⟨#[42, 42]⟩ : ByteArray) = ofL [42, 42] := rfl
      have e2 : ((⟨#[42, 42, 47]⟩ : ByteArray) ++ a) = ofL ([42, 42, 47] ++ a.data.toList) := ba_eq (by simp)
      have e3 : (a ++ (⟨#[47, 42, 42]⟩ : ByteArray)) = ofL (a.data.toList ++ [47, 42, 42]) := ba_eq (by simp)
      have e4 : ((⟨#[122, 47]⟩ : ByteArray) ++ b) = ofL ([122, 47] ++ b.data.toList) := ba_eq (by simp)
      have l0 : a.data.toList.length = a.size := by simp
      have l1 : b.data.toList.length = b.size := by simp
      have s1 : (ofL [42, 42]).size ≤ 100000 := by decide
      have s2 : (ofL ([42, 42, 47] ++ a.data.toList)).size ≤ 100 := by rw [ofL_size, List.length_append, l0]; show 3 + a.size ≤ 100; omega
      have s3 : (ofL (a.data.toList ++ [47, 42, 42])).size ≤ 100 := by rw [ofL_size, List.length_append, l0]; show a.size + 3 ≤ 100; omega
      have s4 : (ofL ([122, 47] ++ b.data.toList)).size ≤ 100 := by rw [ofL_size, List.length_append, l1]; show 2 + b.size ≤ 100; omega
      rw [e1, e2, e3, e4, fits_f _ b s1 hb, Option.bind_some, ofL_data, fitsL_wide, if_pos rfl, fits_f a b ha hb, Option.bind_some]
      by_cases hf : fitsL a.data.toList b.data.toList = true
      · rw [if_pos hf]
        by_cases h3 : (a.size : Int) > 50
        · rw [if_pos h3]
        · rw [if_neg h3, if_pos (by omega), check_f _ (by omega) 400 (by omega), Option.bind_some, ofL_data]
          by_cases hr : rightL ([42, 42, 47] ++ a.data.toList) = true
          · rw [if_pos hr, if_pos rfl, fits_f _ b (by omega) hb, Option.bind_some, ofL_data, fitsL_before _ _ hf hr, if_pos rfl, if_pos (by omega), fits_f _ b (by omega) hb, Option.bind_some, ofL_data, fitsL_after _ _ hf hr, if_pos rfl, if_pos (by omega),
              fits_f _ _ (by omega) (by omega), Option.bind_some, reffits_f _ _ (by omega) (by omega), Option.bind_some]
            simp
          · rw [if_neg hr, if_neg (by decide)]
      · rw [if_neg hf]
end Go.Proofs.YtlbkfnofnlioaaaDoor.PGlob
