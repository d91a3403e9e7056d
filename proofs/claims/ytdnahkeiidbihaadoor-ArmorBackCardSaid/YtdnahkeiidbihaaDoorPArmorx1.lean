-- Written by wip/xprint of this repo (not trusted: Lean checks it).
import Derived.Test.YtdnahkeiidbihaaDoorPArmorx0
namespace Go.Proofs.YtdnahkeiidbihaaDoor.PArmor
open Go.RowKit Go.Proofs.YtdnahkeiidbihaaDoorW.PrintWords Go.Proofs.YtdnahkeiidbihaaDoorW.PrintLast Go.Proofs.YtdnahkeiidbihaaDoorW.PrintMore
attribute [local go_sem] max2_int min2_int max_two min_two max_three min_three max_four min_four   -- for this text's walks alone
set_option linter.unusedVariables false
set_option linter.unusedSimpArgs false

/-! ### strings_Builder_copyCheck: function 30 (its contract is typed by hand) -/

section
set_option maxHeartbeats 1000000
set_option maxRecDepth 100000
theorem bld_sizeB : (Tryd.prog.info? 38).map (fun i => i.size) = some 2 := by kernel_rfl
theorem bld_infoByte : (Tryd.prog.info? 5).map (fun i => (i.zero, i.size, i.bytes)) = some (some (.int .u8 0), 1, 1) := by kernel_rfl
theorem strings_Builder_copyCheck.used (b : Nat) (w : World) (h0 : w.cell? ⟨b, 0, none⟩ = some (.pointer (some ⟨b, 0, none⟩))) :
    Calls Tryd.prog 30 #[.pointer (some ⟨b, 0, none⟩)] w fun e w' => e = .returned (.tuple #[]) ∧ w' = w := by
  obtain ⟨j, hj, _⟩ := Option.map_eq_some_iff.1 bld_sizeB
  go_enter Tryd.func30, Tryd.ntmps30
  go_wp2
  rw [Lib.run_neq_ptr_same w _ Tryd.underlying35 hj]
  go_wp2
  go_end0
  exact ⟨rfl, rfl⟩
theorem bld_liesB : ∀ (P : Program), P = Tryd.prog → liesAt P P.depth 38 (2 / P.cellsOf 38) 0 38 1 = true := fun _ h => h ▸ by kernel_rfl
theorem strings_Builder_copyCheck.fresh (b : Nat) (w : World) (h0 : w.cell? ⟨b, 0, none⟩ = some (.pointer none)) (hsh : w.shape? b = some (38, 2)) (hfz : w.frozen? ⟨b, 0, none⟩ = false) :
    Calls Tryd.prog 30 #[.pointer (some ⟨b, 0, none⟩)] w fun e w' => e = .returned (.tuple #[]) ∧ w' = w.setCell ⟨b, 0, none⟩ (.pointer (some ⟨b, 0, none⟩)) := by
  obtain ⟨j, hj, hjs⟩ := Option.map_eq_some_iff.1 bld_sizeB
  go_enter Tryd.func30, Tryd.ntmps30
  go_wp2
  rw [Lib.run_to_unsafe w ⟨b, 0, none⟩ Tryd.underlying35 Tryd.underlying64 hj (by rw [hjs]; decide) hsh (Nat.zero_lt_succ 1)]
  simp only [Result.andThen]
  rw [Oper.upon_value]
  go_wp2
  rw [run_callFunc_extern Tryd.func40 (by kernel_rfl) (by kernel_rfl) (by kernel_rfl) (e := Extern.AbiNoEscape.same) (by kernel_rfl)]
  rw [Lib.run_noEscape]
  simp only [Result.andThen]
  rw [Oper.upon_value]
  go_wp2
  rw [Lib.run_from_unsafe w ⟨b, 0, none⟩ Tryd.underlying64 Tryd.underlying35 hj hsh (bld_liesB _ rfl)]
  simp only [Result.andThen]
  rw [Oper.upon_value]
  go_wp2
  go_end0
  exact ⟨rfl, rfl⟩
theorem strings_Builder_copyCheck.calls (B b : Nat) (bs : List Value) (w : World) (h : Lib.IsBuilder 38 5 B b bs w) :
    Calls Tryd.prog 30 #[.pointer (some ⟨b, 0, none⟩)] w fun e w' => e = .returned (.tuple #[]) ∧ (Lib.BuilderAt 38 5 B b (.pointer (some ⟨b, 0, none⟩)) bs w' ∧ Below B w w') := by
  rcases h with h | h
  · refine (strings_Builder_copyCheck.fresh b w h.cell0 h.shape h.frozen0).mono ?_
    rintro e w' ⟨rfl, rfl⟩
    exact ⟨rfl, h.used _, (Below.refl B w).setCell (p := ⟨b, 0, none⟩) h.1 _⟩
  · refine (strings_Builder_copyCheck.used b w h.cell0).mono ?_
    rintro e w' ⟨rfl, rfl⟩
    exact ⟨rfl, h, Below.refl B _⟩
end

/-! ### strings_Builder_WriteByte: function 13 (its contract is typed by hand) -/

section
set_option maxHeartbeats 1000000
set_option maxRecDepth 100000
theorem strings_Builder_WriteByte.calls (B b : Nat) (bs : List Value) (c : Int) (w : World) (h : Lib.IsBuilder 38 5 B b bs w) (hlen : bs.length + 1 ≤ 140737488355328) (hBw : B ≤ w.heap.size) :
    Calls Tryd.prog 13 #[.pointer (some ⟨b, 0, none⟩), .int .u8 c] w fun e w' => e = .returned .nilIface ∧ (Lib.BuilderAt 38 5 B b (.pointer (some ⟨b, 0, none⟩)) (bs ++ [.int .u8 c]) w' ∧ Below B w w') := by
  obtain ⟨i0, hi, hz0, hz1, hz2⟩ := info_parts bld_infoByte
  go_enter Tryd.func13, Tryd.ntmps13
  go_wp2_with (go_at_call 30; refine (strings_Builder_copyCheck.calls B b bs _ h).mono ?_)
  rintro e w1 ⟨rfl, h1, hb1⟩
  obtain ⟨hB, v, hbk, hown, hne⟩ := h1
  have c0 : w1.cell? ⟨b, 0, none⟩ = some (.pointer (some ⟨b, 0, none⟩)) := by rw [Lib.cell_of_heap hbk]; rfl
  have c1 : w1.cell? ⟨b, 1, none⟩ = some v := by rw [Lib.cell_of_heap hbk]; rfl
  go_wp2_with (at_builtin; refine wpList_append_own _ rfl _ _ 36 rfl B 5 i0 (.int .u8 0) 1 1 Tryd.underlying36 hi hz0 hz1 hz2 rfl (by decide) _ _ _ rfl (hown.alloc _) ⟨w1.heap.size, 0, none⟩ 1 1 [.int .u8 c] rfl rfl ?c1 ?c2 ?c3 ?c4 ?c5 ?_)
  case c1 =>
    intro j u hj
    match j, hj with
    | 0, hj => simp at hj; subst hj; simp [Addr.add]
  case c2 => intro u hu; simp at hu; subst hu; rfl
  case c3 => unfold maxLen; omega
  case c4 => omega
  case c5 => have := hb1.size; simp; omega
  intro v' w2 hown' hgrow _
  have hlt : b < w1.heap.size := by
    rcases Nat.lt_or_ge b w1.heap.size with h' | h'
    · exact h'
    · simp [Array.getElem?_eq_none h'] at hbk
  have hb2 : w2.heap[b]? = some (.cells #[.pointer (some ⟨b, 0, none⟩), v] 38 (0, 0)) := by
    rw [hgrow.block b (by simp; omega) (fun e => hne e.symm), Lib.alloc_old w1 _ b hlt]
    exact hbk
  have d0 : w2.cell? ⟨b, 0, none⟩ = some (.pointer (some ⟨b, 0, none⟩)) := by rw [Lib.cell_of_heap hb2]; rfl
  have d1 : w2.cell? ⟨b, 1, none⟩ = some v := by rw [Lib.cell_of_heap hb2]; rfl
  have f1 : w2.frozen? ⟨b, 1, none⟩ = false := Lib.frozen_of_heap hb2 1
  obtain ⟨g, cap, rfl⟩ : ∃ g cap, v' = .slice (some ⟨g, 0, none⟩) (bs.length + 1) cap := by
    rcases hown'.2 with ⟨_, h0⟩ | ⟨g, cap, cur, hv, _⟩
    · omega
    · exact ⟨g, cap, hv⟩
  go_wp2
  go_ret
  refine ⟨rfl, ?_, ?_⟩
  · exact Lib.BuilderAt.put (T := 38) (e := 5) hB hb2 (bs' := bs ++ [.int .u8 c]) (by simpa using hown') (by decide)
  · exact ((hb1.alloc (by have := hb1.size; omega) _).grown hgrow (by have := hb1.size; simp; omega) (fun k hk => (hown.lt k hk).1)).setCell (p := ⟨b, 1, none⟩) hB _
end

/-! ### armor_Signs: function 6 (its contract is typed by hand) -/

theorem IsBuilder_below {T e : TypeId} {B b : Nat} {bs : List Value} {w w1 : World} (h : Lib.IsBuilder T e B b bs w) (hb : Below w.heap.size w w1) : Lib.IsBuilder T e B b bs w1 := by
  have one : ∀ p, Lib.BuilderAt T e B b p bs w → Lib.BuilderAt T e B b p bs w1 := by
    rintro p ⟨hB, v, hv, ho, hne⟩
    have hlt : b < w.heap.size := Lib.BuilderAt.lt ⟨hB, v, hv, ho, hne⟩
    refine ⟨hB, v, (hb.block b hlt).trans hv, own_move ho (fun k hk => ?_), hne⟩
    obtain ⟨cells, hc⟩ := own_typed ho k hk
    refine hb.block k ?_
    rcases Nat.lt_or_ge k w.heap.size with h' | h'
    · exact h'
    · simp [Array.getElem?_eq_none h'] at hc
  rcases h with h | h
  · exact .inl (one _ h)
  · exact .inr (one _ h)
theorem IsBuilder_new (w : World) (T e : Nat) : Lib.IsBuilder T e w.heap.size w.heap.size [] (w.alloc (.cells #[.pointer none, .slice none 0 0] T)) := by
  refine .inl ⟨Nat.le_refl _, .slice none 0 0, ?_, World.ownsRow_nil _ _ _ _, by simp [Value.ownBlock]⟩
  show (w.heap.push _)[w.heap.size]? = _
  rw [Array.getElem?_push, if_pos rfl]
theorem byteCells_append (l r : List UInt8) : Lib.byteCells (l ++ r) = Lib.byteCells l ++ Lib.byteCells r := by simp [Lib.byteCells]
/-- Three bytes as a number, byte by byte. -/
def vAt (s : ByteArray) : Nat → Int
  | 0 => 0
  | i + 1 => if h : i < s.size then Go.bits .or .u32 ((vAt s i * 256) % 4294967296) (((s[i]'h).toNat : Int) % 4294967296) else (vAt s i * 256) % 4294967296
def alphaB : ByteArray := ⟨#[65, 66, 67, 68, 69, 70, 71, 72, 73, 74, 75, 76, 77, 78, 79, 80, 81, 82, 83, 84, 85, 86, 87, 88, 89, 90, 97, 98, 99, 100, 101, 102, 103, 104, 105, 106, 107, 108, 109, 110, 111, 112, 113, 114, 115, 116, 117, 118, 119, 120, 121, 122, 48, 49, 50, 51, 52, 53, 54, 55, 56, 57, 43, 47]⟩
theorem and63_range (a : Int) : 0 ≤ Go.bits .and .u32 a 63 ∧ Go.bits .and .u32 a 63 < 64 := by
  show 0 ≤ IntKind.u32.wrap ((BitVec.ofInt 32 a &&& BitVec.ofInt 32 63).toNat : Int) ∧ IntKind.u32.wrap ((BitVec.ofInt 32 a &&& BitVec.ofInt 32 63).toNat : Int) < 64
  rw [IntKind.wrap_u32, BitVec.toNat_and]
  have h : (BitVec.ofInt 32 a).toNat &&& (BitVec.ofInt 32 63).toNat ≤ 63 := Nat.le_trans Nat.and_le_right (by decide)
  revert h
  generalize (BitVec.ofInt 32 a).toNat &&& (BitVec.ofInt 32 63).toNat = y
  intro h
  omega
/-- One sign: of so many bytes, the i-th. -/
def chr (v : Int) (n i : Nat) : UInt8 := if n < i then 61 else alphaB.data.toList.getD (Go.bits .and .u32 (v / 2 ^ (18 - 6 * i)) 63).toNat 0
def outTo (v : Int) (n : Nat) : Nat → List UInt8
  | 0 => []
  | i + 1 => outTo v n i ++ [chr v n i]
theorem outTo_length (v : Int) (n : Nat) : ∀ i, (outTo v n i).length = i
  | 0 => rfl
  | i + 1 => by rw [outTo, List.length_append, outTo_length v n i]; rfl
/-- The signs, as the program makes them. -/
def sgs : Nat → ByteArray → List UInt8
  | 0, _ => []
  | k + 1, s => if s.size = 0 then [] else outTo (vAt s 3) (min 3 s.size) 4 ++ sgs k (s.extract (min 3 s.size) s.size)
def armor_Signs.f (a0 : ByteArray) : Option ByteArray := if a0.size ≤ 1000000000 then some ⟨(sgs (a0.size + 1) a0).toArray⟩ else none
theorem toList_ne (s : ByteArray) (h : ¬ s.size = 0) : (s.toList == ([] : List UInt8)) = false := by
  rw [beq_eq_false_iff_ne]
  intro hc
  rw [ByteArray.toList_eq] at hc
  have : s.data.toList.length = s.size := data_length s
  rw [hc] at this
  exact h this.symm
theorem toList_none (s : ByteArray) (h : s.size = 0) : (s.toList == ([] : List UInt8)) = true := by
  rw [beq_iff_eq, ByteArray.toList_eq]
  exact List.length_eq_zero_iff.1 ((data_length s).trans h)
set_option maxHeartbeats 8000000 in
set_option maxRecDepth 100000 in
theorem armor_Signs.calls (a0 : ByteArray) (r : ByteArray) (w : World) (h : armor_Signs.f a0 = some r) :
    Calls Tryd.prog 6 #[.string a0] w fun e w' => e = .returned (.string r) ∧ Below w.heap.size w w' := by
  unfold armor_Signs.f at h
  split at h
  case isFalse => cases h
  case isTrue hs =>
  have HR := Aside0.mk (Option.some.inj h)
  clear h
  have HN := Aside0.mk (IsBuilder_new w 38 5)
  go_enter Tryd.func6, Tryd.ntmps6
  go_wp2
  go_loopg [0] a0.size (fun gg s0 wr => ∃ (rest : ByteArray) (acc : List UInt8) (k : Nat), s0 = .string rest ∧ rest.size ≤ gg ∧ rest.size ≤ a0.size ∧ rest.size < k ∧ acc.length ≤ 4 * (a0.size - rest.size) ∧ Aside0 (acc ++ sgs k rest = sgs (a0.size + 1) a0) ∧ Aside0 (Lib.IsBuilder 38 5 w.heap.size w.heap.size (Lib.byteCells acc) wr) ∧ Aside0 (Below w.heap.size w wr) ∧ w.heap.size < wr.heap.size)
  case atStart => exact ⟨a0, [], a0.size + 1, rfl, Nat.le_refl _, Nat.le_refl _, Nat.lt_succ_self _, Nat.zero_le _, ⟨List.nil_append _⟩, HN, ⟨(Below.refl _ w).alloc (Nat.le_refl _) _⟩, by simp⟩
  case round =>
    obtain ⟨rest, acc, k, rfl, hg, hle, hk, hacc, HA, HI, HB, hsz⟩ := hrel
    by_cases hne : rest.size = 0
    · have hne' := toList_none rest hne
      have h0 : sgs k rest = [] := by
        cases k with
        | zero => rfl
        | succ k => rw [sgs, if_pos hne]
      have HACC : Aside0 (acc = sgs (a0.size + 1) a0) := ⟨by rw [← HA.out, h0, List.append_nil]⟩
      clear h0
      go_wp2_with (go_at_call 14; refine (Tryd.Builder_String_any w.heap.size w.heap.size acc _ HI.out (by omega)).mono ?_; rintro e w3 ⟨rfl, hb3⟩; have HB3 := Aside0.mk hb3; clear hb3)
      go_ret
      exact ⟨by rw [← HR.out, ← HACC.out]; rfl, HB.out.trans HB3.out⟩
    · have hne' := toList_ne rest hne
      obtain ⟨n, hn⟩ : ∃ n : Nat, n = min 3 rest.size := ⟨_, rfl⟩
      have hmin : (if (rest.size : Int) < 3 then (rest.size : Int) else 3) = (n : Int) := by split <;> omega
      have hnl : n ≤ rest.size := by omega
      have hn1 : 1 ≤ n := by omega
      obtain ⟨k, rfl⟩ : ∃ q, k = q + 1 := ⟨k - 1, by omega⟩
      have HA2 : Aside0 (acc ++ (outTo (vAt rest 3) n 4 ++ sgs k (rest.extract n rest.size)) = sgs (a0.size + 1) a0) := ⟨by rw [← HA.out, sgs, if_neg hne, ← hn]⟩
      have HNE := Aside0.mk hne
      have HN1 := Aside0.mk hn
      clear hn hne HA
      go_wp2_with (fail)
      go_loopg [4, 18] 3 (fun gg s4 s18 wr' => ∃ i : Nat, s4 = .int .u32 (vAt rest i) ∧ s18 = .int .i64 i ∧ i ≤ 3 ∧ 3 - i ≤ gg ∧ wr' = wr)
      case atStart => exact ⟨0, rfl, rfl, Nat.zero_le _, Nat.le_refl _, rfl⟩
      case round =>
        obtain ⟨i, rfl, rfl, hi3, hgi, rfl⟩ := hrel
        by_cases h3 : i < 3
        · have h3I : (i : Int) < 3 := by omega
          obtain ⟨v, hv⟩ : ∃ v, v = vAt rest i := ⟨_, rfl⟩
          have HV := Aside0.mk hv
          rw [← hv]
          clear hv
          by_cases hin : i < rest.size
          · have hinI : (i : Int) < (n : Int) := by have := HN1.out; omega
            have hinS : (i : Int) < (rest.size : Int) := by omega
            go_wp2_with (fail)
            go_roundg (3 - (i + 1))
            case measure => omega
            case rel =>
              refine ⟨i + 1, ?_, by go_num, by omega, by omega, rfl⟩
              rw [vAt, dif_pos hin, ← HV.out]
          · have hinI : ¬ (i : Int) < (n : Int) := by have := HN1.out; omega
            go_wp2_with (fail)
            go_roundg (3 - (i + 1))
            case measure => omega
            case rel =>
              refine ⟨i + 1, ?_, by go_num, by omega, by omega, rfl⟩
              rw [vAt, dif_neg hin, ← HV.out]
        · have h3I : ¬ (i : Int) < 3 := by omega
          obtain rfl : i = 3 := by omega
          obtain ⟨v, hv⟩ : ∃ v, v = vAt rest 3 := ⟨_, rfl⟩
          rw [← hv] at HA2 ⊢
          clear hv
          go_wp2_with (fail)
          go_loopg [33] 4 (fun gg s33 wr' => ∃ i : Nat, s33 = .int .i64 i ∧ i ≤ 4 ∧ 4 - i ≤ gg ∧ Aside0 (Lib.IsBuilder 38 5 w.heap.size w.heap.size (Lib.byteCells (acc ++ outTo v n i)) wr') ∧ Aside0 (Below w.heap.size w wr') ∧ w.heap.size < wr'.heap.size)
          case atStart => exact ⟨0, rfl, Nat.zero_le _, Nat.le_refl _, ⟨by rw [show outTo v n 0 = [] from rfl, List.append_nil]; exact HI.out⟩, HB, hsz⟩
          case round =>
            obtain ⟨i, rfl, hi4, hgi, HI, HB, hsz⟩ := hrel
            obtain ⟨bs, hbs⟩ : ∃ bs, bs = Lib.byteCells (acc ++ outTo v n i) := ⟨_, rfl⟩
            have hlen : bs.length ≤ 4 * (a0.size - rest.size) + i := by
              rw [hbs, Lib.byteCells_length, List.length_append, outTo_length]; omega
            rw [← hbs] at HI
            have HBS := Aside0.mk hbs
            clear hbs
            by_cases h4 : i < 4
            · have h4I : (i : Int) < 4 := by omega
              by_cases hin : n < i
              · have hinI : (n : Int) < (i : Int) := by omega
                go_wp2_with (go_at_call 13; refine (strings_Builder_WriteByte.calls w.heap.size w.heap.size bs 61 _ HI.out (by omega) (by omega)).mono ?_; rintro e w3 ⟨rfl, hi3, hb3⟩; have HI3 := Aside0.mk hi3; have HB3 := Aside0.mk hb3; have hs3 := hb3.size; clear hi3 hb3)
                go_roundg (4 - (i + 1))
                case measure => omega
                case rel =>
                  refine ⟨i + 1, by go_num, by omega, by omega, ⟨.inr ?_⟩, ⟨HB.out.trans HB3.out⟩, by omega⟩
                  have h5 := HI3.out
                  rw [HBS.out] at h5
                  rw [outTo, ← List.append_assoc, byteCells_append, chr, if_pos hin]
                  exact h5
              · have hinI : ¬ (n : Int) < (i : Int) := by omega
                have hx := and63_range (v / 2 ^ (18 - 6 * i))
                obtain ⟨x, hxx⟩ : ∃ x : Nat, Go.bits .and .u32 (v / 2 ^ (18 - 6 * i)) 63 = (x : Int) := ⟨(Go.bits .and .u32 (v / 2 ^ (18 - 6 * i)) 63).toNat, by omega⟩
                have hx64 : x < 64 := by omega
                have hxI : (x : Int) < 64 := by omega
                have HXX := Aside0.mk hxx
                clear hx
                go_wp2_with (go_at_call 13; refine (strings_Builder_WriteByte.calls w.heap.size w.heap.size bs _ _ HI.out (by omega) (by omega)).mono ?_; rintro e w3 ⟨rfl, hi3, hb3⟩; have HI3 := Aside0.mk hi3; have HB3 := Aside0.mk hb3; have hs3 := hb3.size; clear hi3 hb3)
                go_roundg (4 - (i + 1))
                case measure => omega
                case rel =>
                  refine ⟨i + 1, by go_num, by omega, by omega, ⟨.inr ?_⟩, ⟨HB.out.trans HB3.out⟩, by omega⟩
                  have h5 := HI3.out
                  rw [HBS.out] at h5
                  rw [outTo, ← List.append_assoc, byteCells_append, chr, if_neg hin, HXX.out]
                  rw [Int.toNat_natCast, List.getD_eq_getElem?_getD, List.getElem?_eq_getElem (show x < alphaB.data.toList.length from hx64)]
                  exact h5
            · have h4I : ¬ (i : Int) < 4 := by omega
              obtain rfl : i = 4 := by omega
              go_wp2_with (fail)
              go_roundg (rest.size - n)
              case measure => omega
              case rel =>
                have hsz2 : (rest.extract n rest.size).size = rest.size - n := by rw [ByteArray.size_extract]; omega
                refine ⟨rest.extract n rest.size, acc ++ outTo v n 4, k, rfl, by omega, by omega, by omega, ?_, ⟨by rw [List.append_assoc]; exact HA2.out⟩, ⟨by rw [← HBS.out]; exact HI.out⟩, HB, hsz⟩
                rw [List.length_append, outTo_length]
                omega


/-! ### strings_TrimRight: function 31 (its contract is typed by hand) -/

def strings_TrimRight.f (a0 a1 : ByteArray) : Option ByteArray := if a1.size = 1 ∧ a0.size ≤ 9223372036854775807 ∧ (a1.data.toList.headD 0).toNat < 128 then some ⟨(Lib.trimRightB a0.data.toList (a1.data.toList.headD 0)).toArray⟩ else none
theorem strings_TrimRight.calls (a0 a1 : ByteArray) (r : ByteArray) (w : World) (h : strings_TrimRight.f a0 a1 = some r) :
    Calls Tryd.prog 31 #[.string a0, .string a1] w fun e w' => e = .returned (.string r) ∧ Below w.heap.size w w' := by
  unfold strings_TrimRight.f at h
  split at h
  · rename_i hb
    obtain ⟨c, rfl⟩ := Lib.one_byte a1 hb.1
    obtain rfl := Option.some.inj h
    refine (Tryd.strings_TrimRight_one a0 c hb.2.2 w hb.2.1).mono ?_
    rintro e w' ⟨he, rfl⟩
    exact ⟨he, Below.refl _ _⟩
  · cases h

/-! ### strings_IndexByte: function 32 (its contract is typed by hand) -/

def strings_IndexByte.f (a0 : ByteArray) (a1 : Int) : Option Int := some (Lib.indexByte a0.data.toList a1.toNat.toUInt8)
theorem strings_IndexByte.calls (a0 : ByteArray) (a1 : Int) (r : Int) (w : World) (h : strings_IndexByte.f a0 a1 = some r) :
    Calls Tryd.prog 32 #[.string a0, .int .u8 a1] w fun e w' => e = .returned (.int .i64 r) ∧ Below w.heap.size w w' := by
  unfold strings_IndexByte.f at h
  obtain rfl := Option.some.inj h
  refine (Tryd.strings_IndexByte a0 a1 w).mono ?_
  rintro e w' ⟨he, rfl⟩
  exact ⟨he, Below.refl _ _⟩

/-! ### strings_Trim: function 33 (its contract is typed by hand) -/

def strings_Trim.f (a0 a1 : ByteArray) : Option ByteArray := if a0.size ≤ 9223372036854775807 ∧ a1.size < 4294967281 ∧ a1.data.toList.all (fun b => decide (b.toNat < 128)) = true then some ⟨(Lib.trimS a0.data.toList a1.data.toList).toArray⟩ else none
set_option maxRecDepth 100000 in
theorem strings_Trim.calls (a0 a1 : ByteArray) (r : ByteArray) (w : World) (h : strings_Trim.f a0 a1 = some r) :
    Calls Tryd.prog 33 #[.string a0, .string a1] w fun e w' => e = .returned (.string r) ∧ Below w.heap.size w w' := by
  unfold strings_Trim.f at h
  split at h
  · rename_i hb
    obtain rfl := Option.some.inj h
    exact Any.strings_Trim_laid Tryd.lays160 (by kernel_rfl) a0 a1 w hb.1 hb.2.1 (ascii_of_all hb.2.2)
  · cases h

/-! ### armor_quad: function 15 -/
mutual
def armor_quad.j0 : Nat → ByteArray → Int → Bool → Option (ByteArray × Bool)
  | 0, _, _, _ => none
  | k + 1, x6, x7, x26 => if x26 = true then (some ((⟨#[]⟩ : ByteArray), false)) else (armor_quad.l0 k x6 x7 0 0)
def armor_quad.l0 : Nat → ByteArray → Int → Int → Int → Option (ByteArray × Bool)
  | 0, _, _, _, _ => none
  | k + 1, x6, x7, x8, x27 => if x27 < 4 then (if x27 ≥ (x6.size : Int) then (armor_quad.l0 k x6 x7 ((x8 * 64) % 4294967296) (wrap64 (x27 + 1))) else (if 0 ≤ x27 then (if x27 < (x6.size : Int) then ((strings_IndexByte.f (⟨#[65, 66, 67, 68, 69, 70, 71, 72, 73, 74, 75, 76, 77, 78, 79, 80, 81, 82, 83, 84, 85, 86, 87, 88, 89, 90, 97, 98, 99, 100, 101, 102, 103, 104, 105, 106, 107, 108, 109, 110, 111, 112, 113, 114, 115, 116, 117, 118, 119, 120, 121, 122, 48, 49, 50, 51, 52, 53, 54, 55, 56, 57, 43, 47]⟩ : ByteArray) (bt x6 x27)).bind fun t106 => (if t106 < 0 then (some ((⟨#[]⟩ : ByteArray), false)) else (armor_quad.l0 k x6 x7 (Go.bits .or .u32 ((x8 * 64) % 4294967296) ((t106) % 4294967296)) (wrap64 (x27 + 1))))) else (none)) else (none))) else ((some (([(x8 / 65536) % 256, (x8 / 256) % 256, (x8) % 256] : List Int) : List Int)).bind fun y102 => (if 0 ≤ x7 then (if x7 ≤ ((strOfNums y102).size : Int) then ((strings_Trim.f ((strOfNums y102).extract (x7 : Int).toNat (strOfNums y102).size) (⟨#[0]⟩ : ByteArray)).bind fun t105 => (some ((strOfNums y102).extract 0 (x7 : Int).toNat, (t105.toList == ([] : List UInt8))))) else (none)) else (none)))
end
def armor_quad.f (k : Nat) (a0 : ByteArray) (a1 : Bool) : Option (ByteArray × Bool) := (strings_TrimRight.f a0 (⟨#[61]⟩ : ByteArray)).bind fun t101 => (if (wrap64 ((t101.size : Int) - 1)) < 1 then (armor_quad.j0 k t101 (wrap64 ((t101.size : Int) - 1)) true) else (if (wrap64 ((t101.size : Int) - 1)) < 3 then (armor_quad.j0 k t101 (wrap64 ((t101.size : Int) - 1)) (!a1)) else (armor_quad.j0 k t101 (wrap64 ((t101.size : Int) - 1)) false)))
theorem armor_quad.mono_l : ∀ k, (∀ y0 y1 y2, LeO (armor_quad.j0 k y0 y1 y2) (armor_quad.j0 (k + 1) y0 y1 y2)) ∧ (∀ y0 y1 y2 y3, LeO (armor_quad.l0 k y0 y1 y2 y3) (armor_quad.l0 (k + 1) y0 y1 y2 y3))
  | 0 => ⟨fun _ _ _ r h => by simp [armor_quad.j0] at h, fun _ _ _ _ r h => by simp [armor_quad.l0] at h⟩
  | k + 1 => by
    obtain ⟨ih0, ih1⟩ := armor_quad.mono_l k
    refine ⟨?_, ?_⟩
    · intro y0 y1 y2
      unfold armor_quad.j0
      repeat' first
      | (with_reducible exact ih0 _ _ _)
      | (with_reducible exact ih1 _ _ _ _)
      | (with_reducible exact LeO.refl _)
      | (with_reducible exact LeO.none _)
      | (with_reducible refine LeO.ite ?_ ?_)
      | (with_reducible refine LeO.bind ?_ (fun _ => ?_))
      | exact ih0 _ _ _
      | exact ih1 _ _ _ _
      | exact LeO.none _
      | refine LeO.ite ?_ ?_
      | refine LeO.bind ?_ (fun _ => ?_)
    · intro y0 y1 y2 y3
      unfold armor_quad.l0
      repeat' first
      | (with_reducible exact ih0 _ _ _)
      | (with_reducible exact ih1 _ _ _ _)
      | (with_reducible exact LeO.refl _)
      | (with_reducible exact LeO.none _)
      | (with_reducible refine LeO.ite ?_ ?_)
      | (with_reducible refine LeO.bind ?_ (fun _ => ?_))
      | exact ih0 _ _ _
      | exact ih1 _ _ _ _
      | exact LeO.none _
      | refine LeO.ite ?_ ?_
      | refine LeO.bind ?_ (fun _ => ?_)
theorem armor_quad.mono : ∀ a0 a1 k, LeO (armor_quad.f k a0 a1) (armor_quad.f (k + 1) a0 a1) := by
  intro a0 a1 k
  obtain ⟨ih0, ih1⟩ := armor_quad.mono_l k
  unfold armor_quad.f
  repeat' first
      | (with_reducible exact ih0 _ _ _)
      | (with_reducible exact ih1 _ _ _ _)
      | (with_reducible exact LeO.refl _)
      | (with_reducible exact LeO.none _)
      | (with_reducible refine LeO.ite ?_ ?_)
      | (with_reducible refine LeO.bind ?_ (fun _ => ?_))
      | exact ih0 _ _ _
      | exact ih1 _ _ _ _
      | exact LeO.none _
      | refine LeO.ite ?_ ?_
      | refine LeO.bind ?_ (fun _ => ?_)
def armor_quad.T17 : Bool × List (List Nat × List Nat) := (true, [([], []), ([], []), ([0, 1], [0, 1]), ([], []), ([], []), ([3, 4], [3, 4]), ([5], [5]), ([6], [6]), ([2, 6, 0, 1, 2], [2]), ([7, 8, 0, 1, 2, 3, 4, 5, 6, 7, 8], [7])])
def armor_quad.B17 : List Nat := [0, 0, 3, 0, 0, 24, 56, 120, 127, 511]
theorem armor_quad.tab17 : rtab .any (opsOf Tryd.f15 17) = armor_quad.T17 := by kernel_rfl
theorem armor_quad.bits17 : waitsOk armor_quad.T17.2 armor_quad.B17 = true := by kernel_rfl
set_option maxHeartbeats 8000000 in
set_option maxRecDepth 100000 in
theorem armor_quad.calls (k : Nat) (a0 : ByteArray) (a1 : Bool) (r1 : ByteArray) (r2 : Bool) (w : World) (h : armor_quad.f k a0 a1 = some (r1, r2)) :
    Calls Tryd.prog 15 #[.string a0, .bool a1] w fun e w' => e = .returned (.tuple #[.string r1, .bool r2]) ∧ Below w.heap.size w w' := by
  have HB := Aside0.mk (Below.refl w.heap.size w)
  have H : ((strings_TrimRight.f a0 (⟨#[61]⟩ : ByteArray)).bind fun t101 => (if (wrap64 ((t101.size : Int) - 1)) < 1 then (armor_quad.j0 k t101 (wrap64 ((t101.size : Int) - 1)) true) else (if (wrap64 ((t101.size : Int) - 1)) < 3 then (armor_quad.j0 k t101 (wrap64 ((t101.size : Int) - 1)) (!a1)) else (armor_quad.j0 k t101 (wrap64 ((t101.size : Int) - 1)) false)))) = some (r1, r2) := h
  clear h
  replace H := Option.bind_eq_some_iff.mp H
  obtain ⟨t101, A30, H⟩ := H
  replace H : (if (wrap64 ((t101.size : Int) - 1)) < 1 then (armor_quad.j0 k t101 (wrap64 ((t101.size : Int) - 1)) true) else (if (wrap64 ((t101.size : Int) - 1)) < 3 then (armor_quad.j0 k t101 (wrap64 ((t101.size : Int) - 1)) (!a1)) else (armor_quad.j0 k t101 (wrap64 ((t101.size : Int) - 1)) false))) = some (r1, r2) := H
  have A3 := Aside0.mk A30
  clear A30
  have HC4 := Aside0.mk H
  clear H
  go_enter Tryd.func15, Tryd.ntmps15
  go_upto_region 3 with (first | ((with_reducible refine gate_callee (f := 31) rfl ?_); refine goesL_ (some 13) rfl rfl Tryd.func31 (by kernel_rfl) rfl #[.string a0, .string (⟨#[61]⟩ : ByteArray)] rfl (by (try simp only [List.map_toArray, List.map_cons, List.map_nil]); first | done | rfl | (simp only [List.length_drop, List.length_take]; rfl)) ?_; (with_reducible refine (strings_TrimRight.calls a0 (⟨#[61]⟩ : ByteArray) t101 _ A3.out).mono ?_); rintro e w5 ⟨rfl, hb⟩; refine ⟨_, rfl, ?_⟩; have n0_ := Aside0.mk (below_step (by repeat (first | (with_reducible first | exact HB.out | apply below_alloc | apply pw_below_drewN | apply below_drew1) | exact HB.out)) hb); clear HB; have HB := n0_; clear n0_; (try clear hb); (try clear hb2); (try clear hk); (try clear hi)))
  (try simp only [Act.put, List.setIfInBounds_toArray, List.set_cons_zero, List.set_cons_succ])
  go_cut [26] (fun v26 wc => ∃ (kq : Nat) (x26_3 : Bool), v26 = .bool x26_3 ∧ Aside0 (armor_quad.j0 kq t101 (wrap64 ((t101.size : Int) - 1)) x26_3 = some (r1, r2)) ∧ Aside0 (kq ≤ k) ∧ Aside0 (Below w.heap.size w wc))
  case first =>
    have H := HC4.out
    clear HC4
    by_cases c6 : (wrap64 ((t101.size : Int) - 1)) < 1
    · rw [if_pos c6] at H
      have c6b0 : decide ((wrap64 ((t101.size : Int) - 1)) < 1) = true := decide_eq_true c6
      clear c6
      (first | rw [c6b0] | (simp only [i64_w, i32_w]; rw [c6b0]) | skip)
      have H' := Aside0.mk H
      clear H
      go_wp2
      go_meet
      case rel => exact ⟨_, (true), (by first | rfl | (simp; done) | (simp [*]; done)), H', ⟨by first | omega | exact Nat.le_refl _⟩, ⟨by repeat (first | (with_reducible first | exact HB.out | apply below_alloc | apply pw_below_drewN | apply below_drew1) | exact HB.out)⟩⟩
    · rw [if_neg c6] at H
      have c6b0 : decide ((wrap64 ((t101.size : Int) - 1)) < 1) = false := decide_eq_false c6
      clear c6
      (first | rw [c6b0] | (simp only [i64_w, i32_w]; rw [c6b0]) | skip)
      by_cases c7 : (wrap64 ((t101.size : Int) - 1)) < 3
      · rw [if_pos c7] at H
        have c7b0 : decide ((wrap64 ((t101.size : Int) - 1)) < 3) = true := decide_eq_true c7
        clear c7
        have H' := Aside0.mk H
        clear H
        go_wp2
        go_meet
        case rel => exact ⟨_, (!a1), (by first | rfl | (simp; done) | (simp [*]; done)), H', ⟨by first | omega | exact Nat.le_refl _⟩, ⟨by repeat (first | (with_reducible first | exact HB.out | apply below_alloc | apply pw_below_drewN | apply below_drew1) | exact HB.out)⟩⟩
      · rw [if_neg c7] at H
        have c7b0 : decide ((wrap64 ((t101.size : Int) - 1)) < 3) = false := decide_eq_false c7
        clear c7
        have H' := Aside0.mk H
        clear H
        go_wp2
        go_meet
        case rel => exact ⟨_, (false), (by first | rfl | (simp; done) | (simp [*]; done)), H', ⟨by first | omega | exact Nat.le_refl _⟩, ⟨by repeat (first | (with_reducible first | exact HB.out | apply below_alloc | apply pw_below_drewN | apply below_drew1) | exact HB.out)⟩⟩
  case rest =>
    clear HC4
    try clear c1
    try clear p2
    try clear c3
    try clear c6
    try clear c6b0
    try clear p6
    try clear c7
    try clear c7b0
    obtain ⟨kq, x26_3, rfl, HA, HJ3, HB⟩ := hcut
    cases kq with
    | zero => exact absurd HA.out (by simp [armor_quad.j0])
    | succ kj3 =>
      have H := HA.out
      clear HA
      simp only [armor_quad.j0] at H
      by_cases c8 : x26_3 = true
      · subst c8
        have H1 : (some ((⟨#[]⟩ : ByteArray), false)) = some (r1, r2) := by rw [if_pos rfl] at H; exact H
        clear H
        have H := H1
        clear H1
        simp only [Option.some.injEq, Prod.mk.injEq] at H
        obtain ⟨rfl, rfl⟩ := H
        go_wp2
        go_ret2
        exact ⟨by first | rfl | (simp [errW_none, errW_some] <;> rfl) | (simp [*, errW_none, errW_some] <;> rfl), by repeat (first | (with_reducible first | exact HB.out | apply below_alloc | apply pw_below_drewN | apply below_drew1) | exact HB.out)⟩
      · replace c8 := Bool.eq_false_iff.mpr c8
        subst c8
        have H1 : (armor_quad.l0 kj3 t101 (wrap64 ((t101.size : Int) - 1)) 0 0) = some (r1, r2) := by rw [if_neg (show ¬ (false = true) by decide)] at H; exact H
        clear H
        have H := H1
        clear H1
        have H' := Aside0.mk H
        clear H
        go_wp2
        go_loopg [8, 27] kj3 (fun kq v8 v27 w' => ∃ (x8_2 : Int) (x27_2 : Int), v8 = .int .u32 x8_2 ∧ v27 = .int .i64 x27_2 ∧ Aside0 (armor_quad.l0 kq t101 (wrap64 ((t101.size : Int) - 1)) x8_2 x27_2 = some (r1, r2)) ∧ Aside0 (kq ≤ kj3) ∧ Aside0 (Below w.heap.size w w'))
        case atStart => exact ⟨(0), (0), (by first | rfl | (simp; done) | (simp [*]; done)), (by first | rfl | (simp; done) | (simp [*]; done)), H', ⟨Nat.le_refl _⟩, ⟨by repeat (first | (with_reducible first | exact HB.out | apply below_alloc | apply pw_below_drewN | apply below_drew1) | exact HB.out)⟩⟩
        case round =>
          clear H'
          try clear c1
          try clear p2
          try clear c3
          try clear c6
          try clear c6b0
          try clear p6
          try clear c7
          try clear c7b0
          try clear c8
          try clear p2
          try clear p6
          obtain ⟨x8_2, x27_2, rfl, rfl, HA, HK2, HB⟩ := hrel
          cases gk with
          | zero => exact absurd HA.out (by simp [armor_quad.l0])
          | succ k2 =>
            have H := HA.out
            clear HA
            simp only [armor_quad.l0] at H
            by_cases c9 : x27_2 < 4
            · rw [if_pos c9] at H
              have c9b0 : decide (x27_2 < 4) = true := decide_eq_true c9
              clear c9
              by_cases c10 : x27_2 ≥ (t101.size : Int)
              · rw [if_pos c10] at H
                have c10b0 : decide ((t101.size : Int) ≤ x27_2) = true := decide_eq_true c10
                clear c10
                have H' := Aside0.mk H
                clear H
                go_wp2
                go_roundg k2
                case measure => have := HJ3.out; have := HK2.out; omega
                case rel => exact ⟨((x8_2 * 64) % 4294967296), (wrap64 (x27_2 + 1)), (by first | rfl | (simp; done) | (simp [*]; done)), (by first | rfl | (simp; done) | (simp [*]; done)), H', ⟨by have := HJ3.out; have := HK2.out; omega⟩, ⟨by repeat (first | (with_reducible first | exact HB.out | apply below_alloc | apply pw_below_drewN | apply below_drew1) | exact HB.out)⟩⟩
              · rw [if_neg c10] at H
                have c10b0 : decide ((t101.size : Int) ≤ x27_2) = false := decide_eq_false c10
                clear c10
                by_cases c11 : 0 ≤ x27_2
                · rw [if_pos c11] at H
                  have c11b0 : decide (0 ≤ x27_2) = true := decide_eq_true c11
                  clear c11
                  by_cases c12 : x27_2 < (t101.size : Int)
                  · rw [if_pos c12] at H
                    have c12b0 : decide (x27_2 < (t101.size : Int)) = true := decide_eq_true c12
                    clear c12
                    replace H := Option.bind_eq_some_iff.mp H
                    obtain ⟨t106, A140, H⟩ := H
                    replace H : (if t106 < 0 then (some ((⟨#[]⟩ : ByteArray), false)) else (armor_quad.l0 k2 t101 (wrap64 ((t101.size : Int) - 1)) (Go.bits .or .u32 ((x8_2 * 64) % 4294967296) ((t106) % 4294967296)) (wrap64 (x27_2 + 1)))) = some (r1, r2) := H
                    have A14 := Aside0.mk A140
                    clear A140
                    by_cases c15 : t106 < 0
                    · rw [if_pos c15] at H
                      have c15b0 : decide (t106 < 0) = true := decide_eq_true c15
                      clear c15
                      simp only [Option.some.injEq, Prod.mk.injEq] at H
                      obtain ⟨rfl, rfl⟩ := H
                      have p13 : 0 ≤ (x27_2 : Int) := of_decide_eq_true (by first | (with_reducible assumption) | assumption)
                      have q13 : x27_2 < (t101.size : Int) := of_decide_eq_true (by first | (with_reducible assumption) | assumption)
                      have hx13 := bt_at t101 x27_2
                      replace p13 := eq_true p13
                      replace q13 := eq_true q13
                      go_wp2_with (first | ((with_reducible refine gate_callee (f := 32) rfl ?_); refine goesL_ (some 39) rfl rfl Tryd.func32 (by kernel_rfl) rfl #[.string (⟨#[65, 66, 67, 68, 69, 70, 71, 72, 73, 74, 75, 76, 77, 78, 79, 80, 81, 82, 83, 84, 85, 86, 87, 88, 89, 90, 97, 98, 99, 100, 101, 102, 103, 104, 105, 106, 107, 108, 109, 110, 111, 112, 113, 114, 115, 116, 117, 118, 119, 120, 121, 122, 48, 49, 50, 51, 52, 53, 54, 55, 56, 57, 43, 47]⟩ : ByteArray), .int .u8 (bt t101 x27_2)] rfl (by (try simp only [List.map_toArray, List.map_cons, List.map_nil]); first | done | rfl | (simp only [List.length_drop, List.length_take]; rfl)) ?_; (with_reducible refine (strings_IndexByte.calls (⟨#[65, 66, 67, 68, 69, 70, 71, 72, 73, 74, 75, 76, 77, 78, 79, 80, 81, 82, 83, 84, 85, 86, 87, 88, 89, 90, 97, 98, 99, 100, 101, 102, 103, 104, 105, 106, 107, 108, 109, 110, 111, 112, 113, 114, 115, 116, 117, 118, 119, 120, 121, 122, 48, 49, 50, 51, 52, 53, 54, 55, 56, 57, 43, 47]⟩ : ByteArray) (bt t101 x27_2) t106 _ A14.out).mono ?_); rintro e w16 ⟨rfl, hb⟩; refine ⟨_, rfl, ?_⟩; have n0_ := Aside0.mk (below_step (by repeat (first | (with_reducible first | exact HB.out | apply below_alloc | apply pw_below_drewN | apply below_drew1) | exact HB.out)) hb); clear HB; have HB := n0_; clear n0_; (try clear hb); (try clear hb2); (try clear hk); (try clear hi)))
                      go_ret2
                      exact ⟨by first | rfl | (simp [errW_none, errW_some] <;> rfl) | (simp [*, errW_none, errW_some] <;> rfl), by repeat (first | (with_reducible first | exact HB.out | apply below_alloc | apply pw_below_drewN | apply below_drew1) | exact HB.out)⟩
                    · rw [if_neg c15] at H
                      have c15b0 : decide (t106 < 0) = false := decide_eq_false c15
                      clear c15
                      have H' := Aside0.mk H
                      clear H
                      have p13 : 0 ≤ (x27_2 : Int) := of_decide_eq_true (by first | (with_reducible assumption) | assumption)
                      have q13 : x27_2 < (t101.size : Int) := of_decide_eq_true (by first | (with_reducible assumption) | assumption)
                      have hx13 := bt_at t101 x27_2
                      replace p13 := eq_true p13
                      replace q13 := eq_true q13
                      go_wp2_with (first | ((with_reducible refine gate_callee (f := 32) rfl ?_); refine goesL_ (some 39) rfl rfl Tryd.func32 (by kernel_rfl) rfl #[.string (⟨#[65, 66, 67, 68, 69, 70, 71, 72, 73, 74, 75, 76, 77, 78, 79, 80, 81, 82, 83, 84, 85, 86, 87, 88, 89, 90, 97, 98, 99, 100, 101, 102, 103, 104, 105, 106, 107, 108, 109, 110, 111, 112, 113, 114, 115, 116, 117, 118, 119, 120, 121, 122, 48, 49, 50, 51, 52, 53, 54, 55, 56, 57, 43, 47]⟩ : ByteArray), .int .u8 (bt t101 x27_2)] rfl (by (try simp only [List.map_toArray, List.map_cons, List.map_nil]); first | done | rfl | (simp only [List.length_drop, List.length_take]; rfl)) ?_; (with_reducible refine (strings_IndexByte.calls (⟨#[65, 66, 67, 68, 69, 70, 71, 72, 73, 74, 75, 76, 77, 78, 79, 80, 81, 82, 83, 84, 85, 86, 87, 88, 89, 90, 97, 98, 99, 100, 101, 102, 103, 104, 105, 106, 107, 108, 109, 110, 111, 112, 113, 114, 115, 116, 117, 118, 119, 120, 121, 122, 48, 49, 50, 51, 52, 53, 54, 55, 56, 57, 43, 47]⟩ : ByteArray) (bt t101 x27_2) t106 _ A14.out).mono ?_); rintro e w17 ⟨rfl, hb⟩; refine ⟨_, rfl, ?_⟩; have n0_ := Aside0.mk (below_step (by repeat (first | (with_reducible first | exact HB.out | apply below_alloc | apply pw_below_drewN | apply below_drew1) | exact HB.out)) hb); clear HB; have HB := n0_; clear n0_; (try clear hb); (try clear hb2); (try clear hk); (try clear hi)))
                      go_roundg k2
                      case measure => have := HJ3.out; have := HK2.out; omega
                      case rel => exact ⟨(Go.bits .or .u32 ((x8_2 * 64) % 4294967296) ((t106) % 4294967296)), (wrap64 (x27_2 + 1)), (by first | rfl | (simp; done) | (simp [*]; done)), (by first | rfl | (simp; done) | (simp [*]; done)), H', ⟨by have := HJ3.out; have := HK2.out; omega⟩, ⟨by repeat (first | (with_reducible first | exact HB.out | apply below_alloc | apply pw_below_drewN | apply below_drew1) | exact HB.out)⟩⟩
                  · rw [if_neg c12] at H
                    exact absurd H (by simp)
                · rw [if_neg c11] at H
                  exact absurd H (by simp)
            · rw [if_neg c9] at H
              have c9b0 : decide (x27_2 < 4) = false := decide_eq_false c9
              clear c9
              obtain ⟨y102, hy102⟩ : ∃ y_ : List Int, y_ = (([(x8_2 / 65536) % 256, (x8_2 / 256) % 256, (x8_2) % 256] : List Int)) := ⟨_, rfl⟩
              replace H : (if 0 ≤ (wrap64 ((t101.size : Int) - 1)) then (if (wrap64 ((t101.size : Int) - 1)) ≤ ((strOfNums y102).size : Int) then ((strings_Trim.f ((strOfNums y102).extract ((wrap64 ((t101.size : Int) - 1)) : Int).toNat (strOfNums y102).size) (⟨#[0]⟩ : ByteArray)).bind fun t105 => (some ((strOfNums y102).extract 0 ((wrap64 ((t101.size : Int) - 1)) : Int).toNat, (t105.toList == ([] : List UInt8))))) else (none)) else (none)) = some (r1, r2) := by first | (rw [hy102]; with_reducible exact H) | (have H2_ := (Option.bind_some _ _).symm.trans H; rw [hy102]; with_reducible exact H2_) | (have H2_ := (Option.bind_some _ _).symm.trans H; with_reducible exact H2_) | with_reducible exact H | (rw [hy102]; exact H) | exact H
              have Ny102 := Aside0.mk hy102
              clear hy102
              obtain ⟨ji18, hji18⟩ : ∃ j_ : Int, (wrap64 ((t101.size : Int) - 1)) = j_ := ⟨_, rfl⟩
              replace H : (if 0 ≤ (ji18) then (if (ji18) ≤ ((strOfNums y102).size : Int) then ((strings_Trim.f ((strOfNums y102).extract ((ji18) : Int).toNat (strOfNums y102).size) (⟨#[0]⟩ : ByteArray)).bind fun t105 => (some ((strOfNums y102).extract 0 ((ji18) : Int).toNat, (t105.toList == ([] : List UInt8))))) else (none)) else (none)) = some (r1, r2) := by first | (rw [hji18] at H; exact H) | (simp only [hji18] at H ⊢; exact H)
              have hji18w : (IntKind.i64.wrap ((t101.size : Int) - 1)) = ji18 := (i64_w _).trans hji18
              by_cases c19 : 0 ≤ (ji18)
              · rw [if_pos c19] at H
                have c19b0 := eq_true c19
                have c19b1 : decide (0 ≤ (ji18)) = true := decide_eq_true c19
                clear c19
                by_cases c20 : (ji18) ≤ ((strOfNums y102).size : Int)
                · rw [if_pos c20] at H
                  have c20b0 := eq_true c20
                  have c20b1 : decide ((ji18) ≤ ((strOfNums y102).size : Int)) = true := decide_eq_true c20
                  clear c20
                  have c21b0 := eq_true (of_decide_eq_true (by first | (with_reducible assumption) | assumption) : 0 ≤ (ji18))
                  have c22b0 := eq_true (of_decide_eq_true (by first | (with_reducible assumption) | assumption) : (ji18) ≤ ((strOfNums y102).size : Int))
                  replace H := Option.bind_eq_some_iff.mp H
                  obtain ⟨t105, A230, H⟩ := H
                  replace H : (some ((strOfNums y102).extract 0 ((ji18) : Int).toNat, (t105.toList == ([] : List UInt8)))) = some (r1, r2) := H
                  have A23 := Aside0.mk A230
                  clear A230
                  simp only [Option.some.injEq, Prod.mk.injEq] at H
                  obtain ⟨rfl, rfl⟩ := H
                  try go_wp2_with (first | ((with_reducible refine gate_dst (N := 55) rfl ?_); refine Kd.R_lit (Kd.int .u8) _ 5 ?hg (N := 55) ?hd (xs := ([(x8_2 / 65536) % 256, (x8_2 / 256) % 256, (x8_2) % 256] : List Int)) (inner := [.int .u8 ((x8_2 / 65536) % 256), .int .u8 ((x8_2 / 256) % 256), .int .u8 ((x8_2) % 256)]) (ok := fun _ => True) (okp := fun _ => True) ?hr ?hp (fun _ hk => hk) trivial (Below.refl _ _) (Nat.le_refl _) (by simp) ?_; (case hd => rfl); (case hg => rfl); (case hr => first | (go_simp; done) | (go_simp; rfl)); (case hp => exact (Reps.one (show Kd.M (Kd.int .u8) _ _ _ ((x8_2 / 65536) % 256) [.int .u8 ((x8_2 / 65536) % 256)] from rfl) (Reps.one (show Kd.M (Kd.int .u8) _ _ _ ((x8_2 / 256) % 256) [.int .u8 ((x8_2 / 256) % 256)] from rfl) (Reps.one (show Kd.M (Kd.int .u8) _ _ _ ((x8_2) % 256) [.int .u8 ((x8_2) % 256)] from rfl) (Reps.none _ _))))); intro v103 w24 ho25 hb hg_ hnew_; clear hg_ hnew_; (first | rw [← Ny102.out] at ho25 | (simp only [Int.reduceToNat] at ho25; rw [← Ny102.out] at ho25)); have n0_ := Aside0.mk (Kd.R_lower ho25 (below_size (by repeat (first | (with_reducible first | exact HB.out | apply below_alloc | apply pw_below_drewN | apply below_drew1) | exact HB.out)))); have n1_ := Aside0.mk (below_step (by repeat (first | (with_reducible first | exact HB.out | apply below_alloc | apply pw_below_drewN | apply below_drew1) | exact HB.out)) hb); clear HB; have HO104 := n0_; have HB := n1_; clear n0_ n1_; clear hb ho25; have hcv26 := own_string (P := Tryd.prog) Tryd.underlying36 Tryd.underlying5 Tryd.underlying9 (Kd.own_of_R HO104.out)))
                  have n0_ := Aside0.mk (Kd.R_drew HO104.out)
                  have n1_ := Aside0.mk (below_drew1 HB.out)
                  clear HO104
                  clear HB
                  have HO104 := n0_
                  have HB := n1_
                  clear n0_ n1_
                  refine start_ (n := 10) (S := fun w' => True) (ds := []) #[false, false, false, false, false, false, false, false, false, false] (by kernel_rfl) rfl rfl trivial (fun hHeld => ?_); refine with_tabW armor_quad.tab17 armor_quad.bits17 (fun HT_ HW_ => ?_)
                  generalize w24.drew = w27 at HO104 HB hHeld ⊢
                  refine pure_ (i := 0) (N := some 57) (v := ?_) (a' := ?_) #[true, false, false, false, false, false, false, false, false, false] rfl rfl (any_of HT_.out (by kernel_rfl)) (fun _ _ _ h => h) (Or.inl ⟨by rfl, ?_⟩) ?_ ?_
                  rotate_left
                  · intro w'
                    go_simp
                    with_reducible rfl
                  rotate_left
                  · simp only [Act.put, List.setIfInBounds_toArray, List.set_cons_zero, List.set_cons_succ, i64_w, i32_w]
                    rfl
                  refine pure_ (i := 1) (N := some 58) (v := ?_) (a' := ?_) #[true, true, false, false, false, false, false, false, false, false] rfl rfl (any_of HT_.out (by kernel_rfl)) (fun _ _ _ h => h) (Or.inl ⟨by rfl, ?_⟩) ?_ ?_
                  rotate_left
                  · intro w'
                    go_simp
                    with_reducible rfl
                  rotate_left
                  · simp only [Act.put, List.setIfInBounds_toArray, List.set_cons_zero, List.set_cons_succ, i64_w, i32_w]
                    rfl
                  refine pure_ (i := 2) (N := some 59) (v := ?_) (a' := ?_) #[true, true, true, false, false, false, false, false, false, false] rfl rfl (any_of HT_.out (by kernel_rfl)) (fun _ _ _ h => h) (Or.inl ⟨by rfl, ?_⟩) ?_ ?_
                  rotate_left
                  · intro w'
                    go_simp
                    with_reducible rfl
                  rotate_left
                  · simp only [Act.put, List.setIfInBounds_toArray, List.set_cons_zero, List.set_cons_succ, i64_w, i32_w]
                    rfl
                  refine pure_ (i := 3) (N := some 60) (v := ?_) (a' := ?_) #[true, true, true, true, false, false, false, false, false, false] rfl rfl (any_of HT_.out (by kernel_rfl)) (fun _ _ _ h => h) (Or.inl ⟨by rfl, ?_⟩) ?_ ?_
                  rotate_left
                  · intro w'
                    go_simp
                    with_reducible rfl
                  rotate_left
                  · simp only [Act.put, List.setIfInBounds_toArray, List.set_cons_zero, List.set_cons_succ, i64_w, i32_w]
                    rfl
                  refine pure_ (i := 4) (N := some 61) (v := ?_) (a' := ?_) #[true, true, true, true, true, false, false, false, false, false] rfl rfl (any_of HT_.out (by kernel_rfl)) (fun _ _ _ h => h) (Or.inl ⟨by rfl, ?_⟩) ?_ ?_
                  rotate_left
                  · intro w'
                    go_simp
                    with_reducible rfl
                  rotate_left
                  · simp only [Act.put, List.setIfInBounds_toArray, List.set_cons_zero, List.set_cons_succ, i64_w, i32_w]
                    rfl
                  refine pure_ (i := 5) (N := some 62) (v := ?_) (a' := ?_) #[true, true, true, true, true, true, false, false, false, false] rfl rfl (any_of HT_.out (by kernel_rfl)) (fun _ _ _ h => h) (Or.inl ⟨by rfl, ?_⟩) ?_ ?_
                  rotate_left
                  · intro w'
                    go_simp
                    with_reducible rfl
                  rotate_left
                  · simp only [Act.put, List.setIfInBounds_toArray, List.set_cons_zero, List.set_cons_succ, i64_w, i32_w]
                    rfl
                  refine one_ (i := 6) (N := some 63) #[true, true, true, true, true, true, true, false, false, false] rfl rfl (one_of HT_.out (by kernel_rfl)) (by decide) (fun K hK => ?_)
                  refine goes_ Tryd.func33 (by kernel_rfl) rfl #[.string ((strOfNums y102).extract ((ji18) : Int).toNat (strOfNums y102).size), .string (⟨#[0]⟩ : ByteArray)] (by rfl) rfl rfl (by (try simp only [List.map_toArray, List.map_cons, List.map_nil]); first | done | (simp only [hji18]; rfl) | rfl | (simp only [List.length_drop, List.length_take]; rfl)) ?_
                  with_reducible refine (strings_Trim.calls ((strOfNums y102).extract ((ji18) : Int).toNat (strOfNums y102).size) (⟨#[0]⟩ : ByteArray) t105 _ A23.out).mono ?_
                  rintro e w28 ⟨rfl, hb⟩
                  refine ⟨_, rfl, ?_⟩
                  have n0_ := Aside0.mk (Kd.R_below (by (with_reducible repeat (first | apply Kd.R_alloc | apply Kd.R_drewN | apply Kd.R_drew)); exact HO104.out) hb)
                  have n1_ := Aside0.mk (below_step (by repeat (first | (with_reducible first | exact HB.out | apply below_alloc | apply pw_below_drewN | apply below_drew1) | exact HB.out)) hb)
                  clear HO104
                  clear HB
                  have HO104 := n0_
                  have HB := n1_
                  clear n0_ n1_
                  (try clear hb)
                  (try clear hb2)
                  (try clear hk)
                  (try clear hi)
                  refine hK.out _ _ trivial (fun hHeld => ?_)
                  clear hK K
                  refine norm_ (a' := ?_) ?_ ?_
                  rotate_left
                  · show Act.put _ (some 63) _ = _
                    simp only [Act.put, List.setIfInBounds_toArray, List.set_cons_zero, List.set_cons_succ, i64_w, i32_w]
                    rfl
                  refine pure_ (i := 7) (N := some 64) (v := ?_) (a' := ?_) #[true, true, true, true, true, true, true, true, false, false] rfl rfl (any_of HT_.out (by kernel_rfl)) (fun _ _ _ h => h) (Or.inl ⟨by rfl, ?_⟩) ?_ ?_
                  rotate_left
                  · intro w'
                    go_simp
                    with_reducible rfl
                  rotate_left
                  · simp only [Act.put, List.setIfInBounds_toArray, List.set_cons_zero, List.set_cons_succ, i64_w, i32_w]
                    rfl
                  refine pure_ (i := 8) (N := some 4) (v := ?_) (a' := ?_) #[true, true, true, true, true, true, true, true, true, false] rfl rfl (any_of HT_.out (by kernel_rfl)) (fun _ _ _ h => h) (Or.inl ⟨by rfl, ?_⟩) ?_ ?_
                  rotate_left
                  · intro w'
                    go_simp
                    with_reducible rfl
                  rotate_left
                  · simp only [Act.put, List.setIfInBounds_toArray, List.set_cons_zero, List.set_cons_succ, i64_w, i32_w]
                    rfl
                  refine pure_ (i := 9) (N := some 5) (v := ?_) (a' := ?_) #[true, true, true, true, true, true, true, true, true, true] rfl rfl (any_of HT_.out (by kernel_rfl)) (fun _ _ _ h => h) (Or.inl ⟨by rfl, ?_⟩) ?_ ?_
                  rotate_left
                  · intro w'
                    go_simp
                    with_reducible rfl
                  rotate_left
                  · simp only [Act.put, List.setIfInBounds_toArray, List.set_cons_zero, List.set_cons_succ, i64_w, i32_w]
                    rfl
                  refine done_ (done_of HT_.out (by kernel_rfl)) ?_
                  try go_wp2
                  go_ret2
                  exact ⟨by first | rfl | (simp [errW_none, errW_some] <;> rfl) | (simp only [← hji18]; first | rfl | (simp [errW_none, errW_some] <;> rfl)) | (simp [*, errW_none, errW_some] <;> rfl), by repeat (first | (with_reducible first | exact HB.out | apply below_alloc | apply pw_below_drewN | apply below_drew1) | exact HB.out)⟩
                · rw [if_neg c20] at H
                  exact absurd H (by simp)
              · rw [if_neg c19] at H
                exact absurd H (by simp)

/-! ### strings_Builder_WriteString: function 16 (its contract is typed by hand) -/

section
set_option maxHeartbeats 1000000
set_option maxRecDepth 100000
theorem strings_Builder_WriteString.calls (B b : Nat) (bs : List Value) (s : ByteArray) (w : World) (h : Lib.IsBuilder 38 5 B b bs w) (hlen : bs.length + s.size ≤ 140737488355328) (hBw : B ≤ w.heap.size) :
    Calls Tryd.prog 16 #[.pointer (some ⟨b, 0, none⟩), .string s] w fun e w' => e = .returned (.tuple #[.int .i64 s.size, .nilIface]) ∧ (Lib.BuilderAt 38 5 B b (.pointer (some ⟨b, 0, none⟩)) (bs ++ Lib.strCells s) w' ∧ Below B w w') := by
  obtain ⟨i0, hi, hz0, hz1, hz2⟩ := info_parts bld_infoByte
  go_enter Tryd.func16, Tryd.ntmps16
  go_wp2_with (go_at_call 30; refine (strings_Builder_copyCheck.calls B b bs _ h).mono ?_)
  rintro e w1 ⟨rfl, h1, hb1⟩
  obtain ⟨hB, v, hbk, hown, hne⟩ := h1
  have c0 : w1.cell? ⟨b, 0, none⟩ = some (.pointer (some ⟨b, 0, none⟩)) := by rw [Lib.cell_of_heap hbk]; rfl
  have c1 : w1.cell? ⟨b, 1, none⟩ = some v := by rw [Lib.cell_of_heap hbk]; rfl
  go_wp2_with (at_builtin; refine Lib.wpList_append_own_string _ rfl _ _ 36 9 rfl B 5 i0 Tryd.underlying36 Tryd.underlying9 hi hz0 hz1 hz2 _ _ _ rfl hown s rfl ?c3 ?c4 ?c5 ?_)
  case c3 => unfold maxLen; omega
  case c4 => omega
  case c5 => have := hb1.size; omega
  intro v' w2 hown' hgrow _
  have hlt : b < w1.heap.size := by
    rcases Nat.lt_or_ge b w1.heap.size with h' | h'
    · exact h'
    · simp [Array.getElem?_eq_none h'] at hbk
  have hb2 : w2.heap[b]? = some (.cells #[.pointer (some ⟨b, 0, none⟩), v] 38 (0, 0)) := by
    rw [hgrow.block b hlt (fun e => hne e.symm)]
    exact hbk
  have d0 : w2.cell? ⟨b, 0, none⟩ = some (.pointer (some ⟨b, 0, none⟩)) := by rw [Lib.cell_of_heap hb2]; rfl
  have d1 : w2.cell? ⟨b, 1, none⟩ = some v := by rw [Lib.cell_of_heap hb2]; rfl
  have f1 : w2.frozen? ⟨b, 1, none⟩ = false := Lib.frozen_of_heap hb2 1
  obtain ⟨ao, n', cap, rfl⟩ : ∃ ao n' cap, v' = .slice ao n' cap := by
    rcases hown'.2 with ⟨hv, _⟩ | ⟨g, cap, cur, hv, _⟩
    · exact ⟨_, _, _, hv⟩
    · exact ⟨_, _, _, hv⟩
  go_wp2
  go_ret2
  refine ⟨rfl, ?_, ?_⟩
  · exact Lib.BuilderAt.put (T := 38) (e := 5) hB hb2 (bs' := bs ++ Lib.strCells s) (by simpa [Lib.strCells_length] using hown') (by decide)
  · exact (hb1.grown hgrow (by have := hb1.size; omega) (fun k hk => (hown.lt k hk).1)).setCell (p := ⟨b, 1, none⟩) hB _
end

/-! ### armor_Bytes: function 7 (its contract is typed by hand) -/
/-- What signs say, four by four; acc: what is written already. -/
def bys : Nat → ByteArray → List UInt8 → Option (ByteArray × Int)
  | 0, _, _ => none
  | k + 1, s, acc => if s.size = 0 then some (⟨acc.toArray⟩, 0) else if s.size < 4 then none else (armor_quad.f 10 (s.extract 0 4) ((s.size : Int) == 4)).bind fun q => if q.2 = true then (if acc.length + q.1.size ≤ 100000000000 then bys k (s.extract 4 s.size) (acc ++ q.1.data.toList) else none) else some (⟨#[]⟩, 2)
def armor_Bytes.f (a0 : ByteArray) : Option (ByteArray × Int) := if a0.size ≤ 1000000000 then (if a0.size % 4 = 0 then bys (a0.size + 1) a0 [] else some (⟨#[]⟩, 2)) else none
theorem strCells_data (s : ByteArray) : Lib.strCells s = Lib.byteCells s.data.toList := by
  first | rfl | (unfold Lib.strCells Lib.byteCells; rfl)
set_option maxHeartbeats 8000000 in
set_option maxRecDepth 100000 in
theorem armor_Bytes.calls (a0 : ByteArray) (r1 : ByteArray) (r2 : Int) (w : World) (h : armor_Bytes.f a0 = some (r1, r2)) :
    Calls Tryd.prog 7 #[.string a0] w fun e w' => e = .returned (.tuple #[.string r1, .int .i64 r2]) ∧ Below w.heap.size w w' := by
  unfold armor_Bytes.f at h
  split at h
  case isFalse => cases h
  case isTrue hs =>
  have hrem : Int.tmod (a0.size : Int) 4 = ((a0.size % 4 : Nat) : Int) := by rw [Int.tmod_eq_emod_of_nonneg (by omega)]; omega
  by_cases h4 : a0.size % 4 = 0
  · rw [if_pos h4] at h
    have hremI : Int.tmod (a0.size : Int) 4 = 0 := by rw [hrem, h4]; rfl
    clear hrem h4
    have HN := Aside0.mk (IsBuilder_new w 38 5)
    have H := Aside0.mk h
    clear h
    go_enter Tryd.func7, Tryd.ntmps7
    go_wp2
    go_loopg [0] (a0.size + 1) (fun gg s0 wr => ∃ (rest : ByteArray) (acc : List UInt8) (k : Nat), s0 = .string rest ∧ rest.size < gg ∧ acc.length ≤ 100000000000 ∧ Aside0 (bys k rest acc = some (r1, r2)) ∧ Aside0 (Lib.IsBuilder 38 5 w.heap.size w.heap.size (Lib.byteCells acc) wr) ∧ Aside0 (Below w.heap.size w wr) ∧ w.heap.size < wr.heap.size)
    case atStart => exact ⟨a0, [], a0.size + 1, rfl, Nat.lt_succ_self _, Nat.zero_le _, H, HN, ⟨(Below.refl _ w).alloc (Nat.le_refl _) _⟩, by simp⟩
    case round =>
      obtain ⟨rest, acc, k, rfl, hg, hacc, HA, HI, HB, hsz⟩ := hrel
      obtain ⟨k, rfl⟩ : ∃ q, k = q + 1 := by
        cases k with
        | zero => exact absurd HA.out (by simp [bys])
        | succ k => exact ⟨k, rfl⟩
      have H1 := HA.out
      rw [bys] at H1
      clear HA
      by_cases hne : rest.size = 0
      · rw [if_pos hne] at H1
        have hne' := toList_none rest hne
        have H2 := Option.some.inj H1
        have e1 : (⟨acc.toArray⟩ : ByteArray) = r1 := congrArg Prod.fst H2
        have e2 : (0 : Int) = r2 := congrArg Prod.snd H2
        have E1 := Aside0.mk e1
        have E2 := Aside0.mk e2
        clear H1 H2 e1 e2
        go_wp2_with (go_at_call 14; refine (Tryd.Builder_String_any w.heap.size w.heap.size acc _ HI.out (by omega)).mono ?_; rintro e w3 ⟨rfl, hb3⟩; have HB3 := Aside0.mk hb3; clear hb3)
        go_ret2
        exact ⟨by rw [← E1.out, ← E2.out]; rfl, HB.out.trans HB3.out⟩
      · rw [if_neg hne] at H1
        have hne' := toList_ne rest hne
        by_cases hlt : rest.size < 4
        · rw [if_pos hlt] at H1; cases H1
        · rw [if_neg hlt] at H1
          obtain ⟨⟨q, ok⟩, HQ0, H1⟩ := Option.bind_eq_some_iff.mp H1
          have HQ := Aside0.mk HQ0
          clear HQ0
          have h4I : (4 : Int) ≤ (rest.size : Int) := by omega
          cases ok with
          | true =>
            rw [if_pos rfl] at H1
            by_cases hl : acc.length + q.size ≤ 100000000000
            · rw [if_pos hl] at H1
              have HA := Aside0.mk H1
              clear H1
              obtain ⟨bs, hbs⟩ : ∃ bs, bs = Lib.byteCells acc := ⟨_, rfl⟩
              have hlen : bs.length = acc.length := by rw [hbs, Lib.byteCells_length]
              rw [← hbs] at HI
              have HBS := Aside0.mk hbs
              clear hbs
              go_wp2_with (first | (go_at_call 15; refine (armor_quad.calls 10 (rest.extract 0 4) ((rest.size : Int) == 4) q true _ HQ.out).mono ?_; rintro e w3 ⟨rfl, hb3⟩; have HB3 := Aside0.mk hb3; have hs3 := hb3.size; clear hb3) | (go_at_call 16; refine (strings_Builder_WriteString.calls w.heap.size w.heap.size bs q _ (IsBuilder_below HI.out HB3.out) (by omega) (by omega)).mono ?_; rintro e w4 ⟨rfl, hi4, hb4⟩; have HI4 := Aside0.mk hi4; have HB4 := Aside0.mk hb4; have hs4 := hb4.size; clear hi4 hb4))
              go_roundg (rest.size - 4 + 1)
              case measure => omega
              case rel =>
                have hsz2 : (rest.extract 4 rest.size).size = rest.size - 4 := by rw [ByteArray.size_extract]; omega
                have hql : q.data.toList.length = q.size := data_length q
                refine ⟨rest.extract 4 rest.size, acc ++ q.data.toList, k, rfl, by omega, by rw [List.length_append]; omega, HA, ⟨.inr ?_⟩, ⟨(HB.out.trans (HB3.out.mono (by omega))).trans HB4.out⟩, by omega⟩
                have h5 := HI4.out
                rw [HBS.out, strCells_data, ← byteCells_append] at h5
                exact h5
            · rw [if_neg hl] at H1; cases H1
          | false =>
            rw [if_neg (by simp)] at H1
            have H2 := Option.some.inj H1
            have e1 : (⟨#[]⟩ : ByteArray) = r1 := congrArg Prod.fst H2
            have e2 : (2 : Int) = r2 := congrArg Prod.snd H2
            have E1 := Aside0.mk e1
            have E2 := Aside0.mk e2
            clear H1 H2 e1 e2
            go_wp2_with (go_at_call 15; refine (armor_quad.calls 10 (rest.extract 0 4) ((rest.size : Int) == 4) q false _ HQ.out).mono ?_; rintro e w3 ⟨rfl, hb3⟩; have HB3 := Aside0.mk hb3; have hs3 := hb3.size; clear hb3)
            go_ret2
            exact ⟨by rw [← E1.out, ← E2.out]; rfl, HB.out.trans (HB3.out.mono (by omega))⟩
  · rw [if_neg h4] at h
    have hremI : ¬ Int.tmod (a0.size : Int) 4 = 0 := by rw [hrem]; omega
    have hremB : (Int.tmod (a0.size : Int) 4 != 0) = true := bne_iff_ne.mpr hremI
    have hremC : ((a0.size : Int) % 4 != 0) = true := bne_iff_ne.mpr (by omega)
    have H2 := Option.some.inj h
    have e1 : (⟨#[]⟩ : ByteArray) = r1 := congrArg Prod.fst H2
    have e2 : (2 : Int) = r2 := congrArg Prod.snd H2
    clear h H2 h4 hrem
    go_enter Tryd.func7, Tryd.ntmps7
    go_wp2
    go_ret2
    exact ⟨by rw [← e1, ← e2]; rfl, Below.refl _ _⟩


/-! ### armor_right: function 19 -/
def armor_right.f (a0 : ByteArray) : Option (Bool) := if a0.toList = ([] : List UInt8) then (some false) else (if (a0.size : Int) ≤ 30 then ((strings_Trim.f a0 (⟨#[65, 66, 67, 68, 69, 70, 71, 72, 73, 74, 75, 76, 77, 78, 79, 80, 81, 82, 83, 84, 85, 86, 87, 88, 89, 90]⟩ : ByteArray)).bind fun t107 => (some (t107.toList == ([] : List UInt8)))) else (some false))
set_option maxHeartbeats 8000000 in
set_option maxRecDepth 100000 in
theorem armor_right.calls (a0 : ByteArray) (r : Bool) (w : World) (h : armor_right.f a0 = some r) :
    Calls Tryd.prog 19 #[.string a0] w fun e w' => e = .returned (.bool r) ∧ Below w.heap.size w w' := by
  have HB := Aside0.mk (Below.refl w.heap.size w)
  have H : (if a0.toList = ([] : List UInt8) then (some false) else (if (a0.size : Int) ≤ 30 then ((strings_Trim.f a0 (⟨#[65, 66, 67, 68, 69, 70, 71, 72, 73, 74, 75, 76, 77, 78, 79, 80, 81, 82, 83, 84, 85, 86, 87, 88, 89, 90]⟩ : ByteArray)).bind fun t107 => (some (t107.toList == ([] : List UInt8)))) else (some false))) = some r := h
  clear h
  by_cases c2 : a0.toList = ([] : List UInt8)
  · rw [if_pos c2] at H
    have c2b0 : (a0.toList == ([] : List UInt8)) = true := beq_iff_eq.mpr c2
    have c2b1 : (a0.toList != ([] : List UInt8)) = false := bne_eq_false_iff_eq.mpr c2
    clear c2
    obtain rfl := Option.some.inj H
    simp only [Option.some.injEq, Prod.mk.injEq] at H
    obtain ⟨rfl⟩ := H
    go_enter Tryd.func19, Tryd.ntmps19
    go_wp2
    go_ret
    exact ⟨by first | rfl | (simp [errW_none, errW_some] <;> rfl) | (simp [*, errW_none, errW_some] <;> rfl), by repeat (first | (with_reducible first | exact HB.out | apply below_alloc | apply pw_below_drewN | apply below_drew1) | exact HB.out)⟩
  · rw [if_neg c2] at H
    have c2b0 : (a0.toList == ([] : List UInt8)) = false := beq_eq_false_iff_ne.mpr c2
    have c2b1 : (a0.toList != ([] : List UInt8)) = true := bne_iff_ne.mpr c2
    by_cases c3 : (a0.size : Int) ≤ 30
    · rw [if_pos c3] at H
      have c3b0 : decide ((a0.size : Int) ≤ 30) = true := decide_eq_true c3
      have c3b1 : decide (a0.size ≤ 30) = true := decide_eq_true (by omega)
      clear c3
      replace H := Option.bind_eq_some_iff.mp H
      obtain ⟨t107, A40, H⟩ := H
      replace H : (some (t107.toList == ([] : List UInt8))) = some r := H
      have A4 := Aside0.mk A40
      clear A40
      obtain rfl := Option.some.inj H
      simp only [Option.some.injEq, Prod.mk.injEq] at H
      obtain ⟨rfl⟩ := H
      go_enter Tryd.func19, Tryd.ntmps19
      go_wp2_with (first | (go_at_call 33; (with_reducible refine (strings_Trim.calls a0 (⟨#[65, 66, 67, 68, 69, 70, 71, 72, 73, 74, 75, 76, 77, 78, 79, 80, 81, 82, 83, 84, 85, 86, 87, 88, 89, 90]⟩ : ByteArray) t107 _ A4.out).mono ?_); rintro e w5 ⟨rfl, hb⟩; have n0_ := Aside0.mk (below_step (by repeat (first | (with_reducible first | exact HB.out | apply below_alloc | apply pw_below_drewN | apply below_drew1) | exact HB.out)) hb); clear HB; have HB := n0_; clear n0_; (try clear hb); (try clear hb2); (try clear hk); (try clear hi)))
      go_ret
      exact ⟨by first | rfl | (simp [errW_none, errW_some] <;> rfl) | (simp [*, errW_none, errW_some] <;> rfl), by repeat (first | (with_reducible first | exact HB.out | apply below_alloc | apply pw_below_drewN | apply below_drew1) | exact HB.out)⟩
    · rw [if_neg c3] at H
      have c3b0 : decide ((a0.size : Int) ≤ 30) = false := decide_eq_false c3
      have c3b1 : decide (a0.size ≤ 30) = false := decide_eq_false (by omega)
      clear c3
      obtain rfl := Option.some.inj H
      simp only [Option.some.injEq, Prod.mk.injEq] at H
      obtain ⟨rfl⟩ := H
      go_enter Tryd.func19, Tryd.ntmps19
      go_wp2
      go_ret
      exact ⟨by first | rfl | (simp [errW_none, errW_some] <;> rfl) | (simp [*, errW_none, errW_some] <;> rfl), by repeat (first | (with_reducible first | exact HB.out | apply below_alloc | apply pw_below_drewN | apply below_drew1) | exact HB.out)⟩

end Go.Proofs.YtdnahkeiidbihaaDoor.PArmor
