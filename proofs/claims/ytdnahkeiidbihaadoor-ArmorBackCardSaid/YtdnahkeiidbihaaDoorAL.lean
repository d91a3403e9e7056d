/- ArmorBack, plainly: whatever the bytes, the name and the width, the law's function answers true. -/
import Derived.Test.YtdnahkeiidbihaaDoorAK
namespace Go.Proofs.YtdnahkeiidbihaaDoor.PArmor
set_option linter.unusedVariables false
set_option linter.unusedSimpArgs false
open Go.RowKit Go.Proofs.YtdnahkeiidbihaaDoorW.PrintWords Go.Proofs.YtdnahkeiidbihaaDoorW.PrintLast Go.Proofs.YtdnahkeiidbihaaDoorW.PrintMore
theorem rdOf_nat (xs : List ByteArray) (i : Nat) (x : ByteArray) (h : xs[i]? = some x) : rdOf ByteArray.empty xs (i : Int) = x := by
  unfold rdOf
  rw [Int.toNat_natCast, List.getD_eq_getElem?_getD, h]
  rfl
/-- Lines that armor may have are found so. -/
theorem even_l0 (n : Nat) (hn4 : 4 ≤ n) (hn : n ≤ 76) (L : List ByteArray) (hlen : L.length ≤ 1000000) (hL : ∀ (i : Nat) l, L[i]? = some l → (i + 1 < L.length → l.size = n) ∧ l.size ≤ n ∧ 4 ≤ l.size ∧ l.size % 4 = 0) :
    ∀ (m i K : Nat), i + m = L.length → armor_even.l0 (K + m + 1) L L (L.length : Int) (i : Int) = some true
  | 0, i, K, h => by
    rw [show K + 0 + 1 = K + 1 from rfl, armor_even.l0, if_neg (by omega)]
  | m + 1, i, K, h => by
    have hi : i < L.length := by omega
    obtain ⟨l, hl⟩ : ∃ l, L[i]? = some l := ⟨_, List.getElem?_eq_getElem hi⟩
    obtain ⟨f, hf⟩ : ∃ f, L[0]? = some f := ⟨_, List.getElem?_eq_getElem (by omega)⟩
    have pl := hL i l hl
    have pf := hL 0 f hf
    have ew : wrap64 ((i : Int) + 1) = ((i + 1 : Nat) : Int) := by rw [wid2 _ (by omega) (by omega)]; rfl
    have ew2 : wideOk (l.size : Int) = true := by
      unfold wideOk
      rw [decide_eq_true (show 4 ≤ (l.size : Int) by omega), decide_eq_true (show (l.size : Int) ≤ 76 by omega), Int.tmod_eq_emod_of_nonneg (by omega), show (l.size : Int) % 4 = 0 by omega]
      rfl
    have r0 : rdOf ByteArray.empty L (0 : Int) = f := rdOf_nat L 0 f hf
    have ih := even_l0 n hn4 hn L hlen hL m (i + 1) K (by omega)
    have ek : K + (m + 1) + 1 = (K + m + 1) + 1 := rfl
    rw [ek, armor_even.l0, if_pos (by omega), if_pos (by omega), if_pos (by omega), ew, rdOf_nat L i l hl, r0]
    by_cases hlast : i + 1 < L.length
    · have h1 := pl.1 hlast
      have h2 := pf.1 (by omega)
      rw [if_pos (by omega), if_pos (by omega), if_pos (by omega), if_neg (by omega), wide_f, Option.bind_some, ew2, if_pos rfl, ih]
    · have h3 : l.size ≤ f.size := by
        by_cases h0 : i = 0
        · subst h0
          rw [hl] at hf
          rw [Option.some.inj hf]
          exact Nat.le_refl _
        · have := pf.1 (by omega)
          omega
      rw [if_neg (by omega), if_pos (by omega), if_neg (by omega), wide_f, Option.bind_some, ew2, if_pos rfl, ih]
theorem join_flat : ∀ xs : List (List UInt8), Lib.join xs [] = xs.flatten := by
  intro xs
  unfold Lib.join
  induction xs with
  | nil => rfl
  | cons x xs ih =>
    cases xs with
    | nil => simp [List.intercalate, List.intersperse]
    | cons y ys =>
      rw [List.flatten_cons, ← ih]
      simp [List.intercalate, List.intersperse]
def bgL (name : List UInt8) : List UInt8 := beginL ++ (name ++ dashL)
def enL (name : List UInt8) : List UInt8 := endL ++ (name ++ dashL)
theorem no10_dash (name : List UInt8) (h : nameOk name = true) : (10 : UInt8) ∉ name ++ dashL := by
  rw [List.mem_append]
  rintro (h1 | h1)
  · exact name_no10 name h h1
  · revert h1; decide
theorem sum_no10 (s : ByteArray) : (10 : UInt8) ∉ (sumL s).data.toList := by
  show (10 : UInt8) ∉ (61 :: sB (sumB s))
  rw [List.mem_cons]
  rintro (h | h)
  · revert h; decide
  · exact sB_no10 _ h
theorem sumL_mk (s : ByteArray) : sumL s = mkB (61 :: sB (sumB s)) := rfl
theorem dec_f (s name : ByteArray) (n : Nat) (hs : s.size ≤ 1000) (hok : nameOk name.data.toList = true) (hn4 : 4 ≤ n) (hn76 : n ≤ 76) (hn : n % 4 = 0) :
    armor_Decode.f 5000 (mkB (encB s name n)) = some (s, name, 0) := by
  have hl := data_length s
  have hsl := sB_length s.data.toList
  have hnl := data_length name
  have hn30 : name.data.toList.length ≤ 30 := by
    unfold nameOk at hok
    simp only [Bool.and_eq_true, decide_eq_true_eq] at hok
    exact hok.2.1
  obtain ⟨T, hT⟩ : ∃ T, T = sB s.data.toList := ⟨_, rfl⟩
  obtain ⟨ch, hch⟩ : ∃ ch, ch = chunks n (T.length + 1) T := ⟨_, rfl⟩
  have hflat : ch.flatten = T := by rw [hch]; exact chunks_flat n _ T (Nat.lt_succ_self _) (by omega)
  have hsz := chunks_size n hn4 hn (T.length + 1) T (Nat.lt_succ_self _) (by rw [hT]; exact hsl.1)
  rw [← hch] at hsz
  have hno : ∀ l ∈ ch, (10 : UInt8) ∉ l := fun l hlm hc => sB_no10 s.data.toList (hT ▸ chunks_mem n _ T l (hch ▸ hlm) 10 hc)
  have hchl : ch.length ≤ T.length := by
    have key : ∀ c : List (List UInt8), (∀ (i : Nat) l, c[i]? = some l → 4 ≤ l.length) → c.length ≤ c.flatten.length := by
      intro c
      induction c with
      | nil => intro _; exact Nat.le_refl _
      | cons x xs ih =>
        intro h
        have h1 := h 0 x rfl
        have h2 := ih (fun i l hi => h (i + 1) l hi)
        rw [List.flatten_cons, List.length_append, List.length_cons]
        omega
    have := key ch (fun i l hi => (hsz i l hi).2.2.1)
    rw [hflat] at this
    exact this
  have hTl : T.length ≤ 4000 := by rw [hT]; omega
  -- the text, and its lines
  have hX : encB s name n = (bgL name.data.toList ++ 10 :: (ch.flatMap (· ++ [10]) ++ ((sumL s).data.toList ++ 10 :: enL name.data.toList))) ++ [10] := by
    unfold encB bgL enL
    rw [lns_chunks]
    have e : chunks n ((sB s.data.toList).length + 1) (⟨(sB s.data.toList).toArray⟩ : ByteArray).data.toList = ch := by rw [hch, hT]
    rw [e]
    simp only [List.append_assoc, List.cons_append, List.nil_append]
  obtain ⟨X, hXX⟩ : ∃ X, X = bgL name.data.toList ++ 10 :: (ch.flatMap (· ++ [10]) ++ ((sumL s).data.toList ++ 10 :: enL name.data.toList)) := ⟨_, rfl⟩
  have hsplit : splitL 10 X = bgL name.data.toList :: (ch ++ [(sumL s).data.toList, enL name.data.toList]) := by
    have n1 : (10 : UInt8) ∉ bgL name.data.toList := by
      unfold bgL
      rw [List.mem_append]
      rintro (h | h)
      · revert h; decide
      · exact no10_dash _ hok h
    have n3 : (10 : UInt8) ∉ enL name.data.toList := by
      unfold enL
      rw [List.mem_append]
      rintro (h | h)
      · revert h; decide
      · exact no10_dash _ hok h
    rw [hXX, splitL_cut 10 _ _ n1, splitL_chunks _ ch hno, splitL_cut 10 _ _ (sum_no10 s), splitL_none 10 _ n3]
  have hfm : (ch.flatMap (· ++ [10])).length ≤ 2 * T.length := by
    have key : ∀ c : List (List UInt8), (c.flatMap (· ++ [(10 : UInt8)])).length = c.flatten.length + c.length := by
      intro c
      induction c with
      | nil => rfl
      | cons x xs ih =>
        rw [List.flatMap_cons, List.flatten_cons]
        simp only [List.length_append, List.length_cons, List.length_nil, ih]
        omega
    rw [key, hflat]; omega
  have hXl : X.length ≤ 10000 := by
    rw [hXX]
    unfold bgL enL
    simp only [List.length_append, List.length_cons]
    have d1 : beginL.length = 11 := rfl
    have d2 : endL.length = 9 := rfl
    have d3 : dashL.length = 5 := rfl
    have d4 : (sumL s).data.toList.length = 5 := rfl
    omega
  have hcut : strings_CutSuffix.f (mkB (encB s name n)) (mkB [10]) = some (mkB X, true) := by
    rw [hX, ← hXX]
    exact cutSuffix_ok X [10] (by rw [mkB_size, mkB_size]; show X.length + 1 ≤ _; omega)
  obtain ⟨L, hL⟩ : ∃ L : List ByteArray, L = (bgL name.data.toList :: (ch ++ [(sumL s).data.toList, enL name.data.toList])).map mkB := ⟨_, rfl⟩
  have hspl : strings_Split.f (mkB X) (mkB [10]) = some L := by
    unfold strings_Split.f
    rw [if_pos ⟨rfl, by rw [mkB_size]; omega⟩]
    show some ((splitL 10 X).map fun l => (⟨l.toArray⟩ : ByteArray)) = _
    rw [hsplit, hL]
    rfl
  have hLl : L.length = ch.length + 3 := by rw [hL]; simp
  have g0 : L[0]? = some (mkB (bgL name.data.toList)) := by rw [hL]; rfl
  have g1 : L[ch.length + 1]? = some (sumL s) := by
    rw [hL, List.getElem?_map, List.getElem?_cons_succ, List.getElem?_append_right (Nat.le_refl _), Nat.sub_self]
    rfl
  have g2 : L[ch.length + 2]? = some (mkB (enL name.data.toList)) := by
    rw [hL, List.getElem?_map, List.getElem?_cons_succ, List.getElem?_append_right (by omega), show ch.length + 1 - ch.length = 1 by omega]
    rfl
  have hmid : (L.take (ch.length + 1)).drop 1 = ch.map mkB := by
    rw [hL, List.map_cons, List.take_succ_cons, List.drop_succ_cons, List.drop_zero, List.map_append, List.take_left' (by rw [List.length_map])]
  have w1 : wrap64 ((L.length : Int) - 1) = ((ch.length + 2 : Nat) : Int) := by unfold wrap64; omega
  have w2 : wrap64 (((ch.length + 2 : Nat) : Int) - 1) = ((ch.length + 1 : Nat) : Int) := by unfold wrap64; omega
  have cutB : armor_cut.f (mkB (bgL name.data.toList)) (mkB beginL) (mkB dashL) = some (name, true) := by
    unfold armor_cut.f bgL
    have d1 : (mkB beginL).size = 11 := rfl
    have d3 : (mkB dashL).size = 5 := rfl
    rw [cutPrefix_ok beginL _ (by rw [d1, mkB_size, List.length_append]; show 11 + (_ + 5) ≤ _; omega), Option.bind_some, cutSuffix_ok _ dashL (by rw [d3, mkB_size]; omega), Option.bind_some, if_pos rfl]
    rfl
  have cutE : armor_cut.f (mkB (enL name.data.toList)) (mkB endL) (mkB dashL) = some (name, true) := by
    unfold armor_cut.f enL
    have d1 : (mkB endL).size = 9 := rfl
    have d3 : (mkB dashL).size = 5 := rfl
    rw [cutPrefix_ok endL _ (by rw [d1, mkB_size, List.length_append]; show 9 + (_ + 5) ≤ _; omega), Option.bind_some, cutSuffix_ok _ dashL (by rw [d3, mkB_size]; omega), Option.bind_some, if_pos rfl]
    rfl
  have hev : armor_even.f 4999 (ch.map mkB) = some true := by
    unfold armor_even.f
    have hlm : (ch.map mkB).length = ch.length := List.length_map ..
    have h := even_l0 n hn4 hn76 (ch.map mkB) (by rw [hlm]; omega) (fun i l hi => by
      rw [List.getElem?_map, Option.map_eq_some_iff] at hi
      obtain ⟨q, hq, rfl⟩ := hi
      have h2 := hsz i q hq
      rw [mkB_size, hlm]
      exact h2) ch.length 0 (4999 - ch.length - 1) (by rw [hlm]; omega)
    rw [show 4999 - ch.length - 1 + ch.length + 1 = 4999 by omega] at h
    exact h
  have hj : strings_Join.f (ch.map mkB) (mkB []) = some (mkB T) := by
    unfold strings_Join.f
    have e : (ch.map mkB).map (fun b : ByteArray => b.data.toList) = ch := by
      rw [List.map_map]
      exact List.map_id'' (fun _ => rfl) ch
    have e2 : Lib.join ((ch.map mkB).map (fun b : ByteArray => b.data.toList)) (mkB []).data.toList = T := by
      rw [e]
      exact (join_flat ch).trans hflat
    rw [if_pos ⟨by rw [List.length_map]; omega, by rw [e2]; omega⟩, e2]
    rfl
  have hbt : armor_Bytes.f (mkB T) = some (s, 0) := by
    rw [bytes_ok (mkB T) s.data.toList hT (by rw [mkB_size]; omega)]
  have hcs : strings_CutPrefix.f (sumL s) (mkB [61]) = some (mkB (sB (sumB s)), true) := by
    rw [sumL_mk]
    exact cutPrefix_ok [61] (sB (sumB s)) (by show 1 + 4 ≤ _; omega)
  have hbs : armor_Bytes.f (mkB (sB (sumB s))) = some (mkB (sumB s), 0) := bytes_ok _ (sumB s) rfl (by show 4 ≤ _; omega)
  unfold armor_Decode.f
  show (strings_CutSuffix.f (mkB (encB s name n)) (mkB [10])).bind _ = _
  rw [hcut, Option.bind_some]
  show ((strings_Split.f (mkB X) (mkB [10])).bind _) = _
  rw [hspl, Option.bind_some, if_pos rfl, decide_eq_false (by omega)]
  rw [show (5000 : Nat) = 4999 + 1 from rfl, armor_Decode.j0, if_neg (by decide), if_pos (by omega), show rdOf ByteArray.empty L (0 : Int) = _ from rdOf_nat L 0 _ g0]
  show ((armor_cut.f (mkB (bgL name.data.toList)) (mkB beginL) (mkB dashL)).bind _) = _
  rw [cutB, Option.bind_some, w1, if_pos (by omega), if_pos (by omega), rdOf_nat L _ _ g2]
  show ((armor_cut.f (mkB (enL name.data.toList)) (mkB endL) (mkB dashL)).bind _) = _
  rw [cutE, Option.bind_some, if_pos rfl, if_pos rfl, if_pos rfl, right_f name (by omega), Option.bind_some, hok, if_pos rfl, w2, if_pos (by omega), if_pos (by omega), Int.toNat_natCast, hmid, hev, Option.bind_some]
  rw [show (4999 : Nat) = 4998 + 1 from rfl, armor_Decode.j1, if_neg (by decide), w2, if_pos (by omega), if_pos (by omega), Int.toNat_natCast, hmid]
  show ((strings_Join.f (ch.map mkB) (mkB [])).bind _) = _
  rw [hj, Option.bind_some, hbt, Option.bind_some, if_pos (by omega), if_pos (by omega), rdOf_nat L _ _ g1]
  show ((strings_CutPrefix.f (sumL s) (mkB [61])).bind _) = _
  rw [hcs, Option.bind_some, hbs, Option.bind_some, if_pos rfl, if_pos rfl, if_pos rfl]
  show armor_Decode.j2 4998 L ((ch.length + 2 : Nat) : Int) name s false = _
  rw [show (4998 : Nat) = 4997 + 1 from rfl, armor_Decode.j2, if_neg (by decide), w2, if_pos (by omega), if_pos (by omega), sum_f s (by omega), Option.bind_some, rdOf_nat L _ _ g1, if_pos rfl]
theorem ArmorBack : montagelaw42_ArmorBack.Pure := by
  intro s name w _ _ _
  by_cases hok : nameOk name.data.toList = true ∧ wideOk w = true
  · by_cases hs : s.size ≤ 300
    · by_cases hn : name.size ≤ 40
      · obtain ⟨k, hk⟩ := renc_f s name w (by omega) (by omega) hok.1 hok.2
        refine ⟨max k 6000 + 2, ?_⟩
        have hw2 := hok.2
        unfold wideOk at hw2
        simp only [Bool.and_eq_true, decide_eq_true_eq, beq_iff_eq] at hw2
        obtain ⟨n, rfl⟩ : ∃ n : Nat, w = (n : Int) := ⟨w.toNat, by omega⟩
        have h4 : n % 4 = 0 := by
          have := hw2.2.2
          rw [Int.tmod_eq_emod_of_nonneg (by omega)] at this
          omega
        have hd := dec_f s name n (by omega) hok.1 (by omega) (by omega) h4
        have hd2 : armor_Decode.f (max k 6000) (mkB (encB s name n)) = some (s, name, 0) := at_rounds (armor_Decode.mono _) (by omega) hd
        unfold montagelaw42_ArmorBack.f
        rw [awake_f _ (by omega), Option.bind_some, if_pos rfl, if_neg (by omega), decide_eq_false (by omega), montagelaw42_ArmorBack.j0, if_neg (by decide), enc_f s name (n : Int) (by omega) (by omega) hok.1 hok.2, Option.bind_some]
        have hk2 := hk (max k 6000 + 1) (by omega)
        simp only [] at hk2
        rw [hk2, Option.bind_some, if_pos rfl]
        show montagelaw42_ArmorBack.j1 (max k 6000 + 1) s name _ 0 false = _
        rw [montagelaw42_ArmorBack.j1, if_neg (by decide), if_pos rfl, Int.toNat_natCast]
        show ((armor_Decode.f (max k 6000) (mkB (encB s name n))).bind _) = _
        rw [hd2, Option.bind_some, if_pos rfl, if_pos rfl]
        rfl
      · refine ⟨62, ?_⟩
        unfold montagelaw42_ArmorBack.f
        rw [awake_f _ (by omega), Option.bind_some, if_pos rfl, if_neg (by omega), decide_eq_true (by omega), montagelaw42_ArmorBack.j0, if_pos rfl]
    · refine ⟨62, ?_⟩
      unfold montagelaw42_ArmorBack.f
      rw [awake_f _ (by omega), Option.bind_some, if_pos rfl, if_pos (by omega), montagelaw42_ArmorBack.j0, if_pos rfl]
  · by_cases hs : s.size ≤ 300
    · by_cases hn : name.size ≤ 40
      · obtain ⟨k, hk⟩ := renc_bad s name w (by omega) (by omega) hok
        refine ⟨max k 60 + 2, ?_⟩
        unfold montagelaw42_ArmorBack.f
        rw [awake_f _ (by omega), Option.bind_some, if_pos rfl, if_neg (by omega), decide_eq_false (by omega), montagelaw42_ArmorBack.j0, if_neg (by decide), enc_bad s name w (by omega) (by omega) hok, Option.bind_some]
        have hk2 := hk (max k 60 + 1) (by omega)
        simp only [] at hk2
        rw [hk2, Option.bind_some, if_pos rfl]
        show montagelaw42_ArmorBack.j1 (max k 60 + 1) s name _ 1 false = _
        rw [montagelaw42_ArmorBack.j1, if_neg (by decide), if_neg (by decide)]
      · refine ⟨62, ?_⟩
        unfold montagelaw42_ArmorBack.f
        rw [awake_f _ (by omega), Option.bind_some, if_pos rfl, if_neg (by omega), decide_eq_true (by omega), montagelaw42_ArmorBack.j0, if_pos rfl]
    · refine ⟨62, ?_⟩
      unfold montagelaw42_ArmorBack.f
      rw [awake_f _ (by omega), Option.bind_some, if_pos rfl, if_pos (by omega), montagelaw42_ArmorBack.j0, if_pos rfl]
end Go.Proofs.YtdnahkeiidbihaaDoor.PArmor
