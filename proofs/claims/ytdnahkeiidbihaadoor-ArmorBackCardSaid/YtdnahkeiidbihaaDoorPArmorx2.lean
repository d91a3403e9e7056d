-- Written by wip/xprint of this repo (not trusted: Lean checks it).
import Derived.Test.YtdnahkeiidbihaaDoorPArmorx0
import Derived.Test.YtdnahkeiidbihaaDoorPArmorx1
namespace Go.Proofs.YtdnahkeiidbihaaDoor.PArmor
open Go.RowKit Go.Proofs.YtdnahkeiidbihaaDoorW.PrintWords Go.Proofs.YtdnahkeiidbihaaDoorW.PrintLast Go.Proofs.YtdnahkeiidbihaaDoorW.PrintMore
attribute [local go_sem] max2_int min2_int max_two min_two max_three min_three max_four min_four   -- for this text's walks alone
set_option linter.unusedVariables false
set_option linter.unusedSimpArgs false

/-! ### armor_wide: function 20 -/
def armor_wide.f (a0 : Int) : Option (Bool) := if a0 ≥ 4 then (if a0 ≤ 76 then (some ((Int.tmod a0 4) == 0)) else (some false)) else (some false)
set_option maxHeartbeats 8000000 in
set_option maxRecDepth 100000 in
theorem armor_wide.calls (a0 : Int) (r : Bool) (w : World) (h : armor_wide.f a0 = some r) :
    Calls Tryd.prog 20 #[.int .i64 a0] w fun e w' => e = .returned (.bool r) ∧ Drawn0 w w' := by
  have H : (if a0 ≥ 4 then (if a0 ≤ 76 then (some ((Int.tmod a0 4) == 0)) else (some false)) else (some false)) = some r := h
  clear h
  by_cases c2 : a0 ≥ 4
  · rw [if_pos c2] at H
    have c2b0 : decide (4 ≤ a0) = true := decide_eq_true c2
    clear c2
    by_cases c3 : a0 ≤ 76
    · rw [if_pos c3] at H
      have c3b0 : decide (a0 ≤ 76) = true := decide_eq_true c3
      clear c3
      obtain rfl := Option.some.inj H
      simp only [Option.some.injEq, Prod.mk.injEq] at H
      obtain ⟨rfl⟩ := H
      go_enter Tryd.func20, Tryd.ntmps20
      go_wp2
      go_ret
      exact ⟨by first | rfl | (simp; done) | (simp [*]; done), by repeat (first | exact Drawn0.refl _ | apply Drawn0.step)⟩
    · rw [if_neg c3] at H
      have c3b0 : decide (a0 ≤ 76) = false := decide_eq_false c3
      clear c3
      obtain rfl := Option.some.inj H
      simp only [Option.some.injEq, Prod.mk.injEq] at H
      obtain ⟨rfl⟩ := H
      go_enter Tryd.func20, Tryd.ntmps20
      go_wp2
      go_ret
      exact ⟨by first | rfl | (simp; done) | (simp [*]; done), by repeat (first | exact Drawn0.refl _ | apply Drawn0.step)⟩
  · rw [if_neg c2] at H
    have c2b0 : decide (4 ≤ a0) = false := decide_eq_false c2
    clear c2
    obtain rfl := Option.some.inj H
    simp only [Option.some.injEq, Prod.mk.injEq] at H
    obtain ⟨rfl⟩ := H
    go_enter Tryd.func20, Tryd.ntmps20
    go_wp2
    go_ret
    exact ⟨by first | rfl | (simp; done) | (simp [*]; done), by repeat (first | exact Drawn0.refl _ | apply Drawn0.step)⟩

/-! ### crc_shifted: function 73 -/
def crc_shifted.l0 : Nat → Int → Int → Int → Option (Int)
  | 0, _, _, _ => none
  | k + 1, x0, x5, x6 => if x6 < x5 then (crc_shifted.l0 k (Go.bits .xor .u32 (x0 / 2) (Go.bits .and .u32 3988292384 ((-(Go.bits .and .u32 x0 1)) % 4294967296))) x5 (wrap64 (x6 + 1))) else (some x0)
def crc_shifted.f (k : Nat) (a0 : Int) (a1 : Int) : Option (Int) := crc_shifted.l0 k a0 a1 0
theorem crc_shifted.mono_l : ∀ k, (∀ y0 y1 y2, LeO (crc_shifted.l0 k y0 y1 y2) (crc_shifted.l0 (k + 1) y0 y1 y2))
  | 0 => fun _ _ _ r h => by simp [crc_shifted.l0] at h
  | k + 1 => by
    have ih0 := crc_shifted.mono_l k
    · intro y0 y1 y2
      unfold crc_shifted.l0
      repeat' first
      | (with_reducible exact ih0 _ _ _)
      | (with_reducible exact LeO.refl _)
      | (with_reducible exact LeO.none _)
      | (with_reducible refine LeO.ite ?_ ?_)
      | (with_reducible refine LeO.bind ?_ (fun _ => ?_))
      | exact ih0 _ _ _
      | exact LeO.none _
      | refine LeO.ite ?_ ?_
      | refine LeO.bind ?_ (fun _ => ?_)
theorem crc_shifted.mono : ∀ a0 a1 k, LeO (crc_shifted.f k a0 a1) (crc_shifted.f (k + 1) a0 a1) := by
  intro a0 a1 k
  have ih0 := crc_shifted.mono_l k
  unfold crc_shifted.f
  repeat' first
      | (with_reducible exact ih0 _ _ _)
      | (with_reducible exact LeO.refl _)
      | (with_reducible exact LeO.none _)
      | (with_reducible refine LeO.ite ?_ ?_)
      | (with_reducible refine LeO.bind ?_ (fun _ => ?_))
      | exact ih0 _ _ _
      | exact LeO.none _
      | refine LeO.ite ?_ ?_
      | refine LeO.bind ?_ (fun _ => ?_)
set_option maxHeartbeats 8000000 in
set_option maxRecDepth 100000 in
theorem crc_shifted.calls (k : Nat) (a0 : Int) (a1 : Int) (r : Int) (w : World) (h : crc_shifted.f k a0 a1 = some r) :
    Calls Tryd.prog 73 #[.int .u32 a0, .int .i64 a1] w fun e w' => e = .returned (.int .u32 r) ∧ Drawn0 w w' := by
  have H : (crc_shifted.l0 k a0 a1 0) = some r := h
  clear h
  have H' := Aside0.mk H
  clear H
  go_enter Tryd.func73, Tryd.ntmps73
  go_wp2
  go_loopg [0, 6] k (fun kq v0 v6 w' => ∃ (x0_1 : Int) (x6_1 : Int), v0 = .int .u32 x0_1 ∧ v6 = .int .i64 x6_1 ∧ Aside0 (crc_shifted.l0 kq x0_1 a1 x6_1 = some r) ∧ Aside0 (kq ≤ k) ∧ Drawn0 w w')
  case atStart => exact ⟨(a0), (0), (by first | rfl | (simp; done) | (simp [*]; done)), (by first | rfl | (simp; done) | (simp [*]; done)), H', ⟨Nat.le_refl _⟩, by repeat (first | exact Drawn0.refl _ | apply Drawn0.step)⟩
  case round =>
    clear H'
    try clear p2
    obtain ⟨x0_1, x6_1, rfl, rfl, HA, HK1, ⟨m1, rfl⟩⟩ := hrel
    cases gk with
    | zero => exact absurd HA.out (by simp [crc_shifted.l0])
    | succ k1 =>
      have H := HA.out
      clear HA
      simp only [crc_shifted.l0] at H
      by_cases c3 : x6_1 < a1
      · rw [if_pos c3] at H
        have c3b0 : decide (x6_1 < a1) = true := decide_eq_true c3
        clear c3
        have H' := Aside0.mk H
        clear H
        go_wp2
        go_roundg k1
        case measure => have := HK1.out; omega
        case rel => exact ⟨(Go.bits .xor .u32 (x0_1 / 2) (Go.bits .and .u32 3988292384 ((-(Go.bits .and .u32 x0_1 1)) % 4294967296))), (wrap64 (x6_1 + 1)), (by first | rfl | (simp; done) | (simp [*]; done)), (by first | rfl | (simp; done) | (simp [*]; done)), H', ⟨by have := HK1.out; omega⟩, by repeat (first | exact Drawn0.refl _ | apply Drawn0.step)⟩
      · rw [if_neg c3] at H
        have c3b0 : decide (x6_1 < a1) = false := decide_eq_false c3
        clear c3
        obtain rfl := Option.some.inj H
        simp only [Option.some.injEq, Prod.mk.injEq] at H
        obtain ⟨rfl⟩ := H
        go_wp2
        go_ret
        exact ⟨by first | rfl | (simp; done) | (simp [*]; done), by repeat (first | exact Drawn0.refl _ | apply Drawn0.step)⟩

/-! ### crc_Of: function 34 (its contract is typed by hand) -/
/-! ### crc.Of: typed by hand -/
def crcT (i : Nat) : Int := (crc_shifted.f 12 (i : Int) 8).getD 0
theorem crcT_some_c : ∀ i : Fin 256, (crc_shifted.f 12 (i.val : Int) 8).isSome = true := by decide +kernel
theorem crcT_some (i : Nat) (h : i < 256) : crc_shifted.f 12 (i : Int) 8 = some (crcT i) := by
  have h1 := crcT_some_c ⟨i, h⟩
  unfold crcT
  simp only [] at h1
  revert h1
  generalize crc_shifted.f 12 (i : Int) 8 = o
  intro h1
  cases o with
  | none => cases h1
  | some x => rfl
def tabPart (j : Nat) : Array Value := ((List.range 256).map fun i => Value.int .u32 (if i < j then crcT i else 0)).toArray
theorem map_zero (l : List Nat) : (l.map fun i => Value.int .u32 (if i < 0 then crcT i else 0)) = List.replicate l.length (Value.int .u32 0) := by
  induction l with
  | nil => rfl
  | cons x xs ih => rw [List.map_cons, ih, if_neg (Nat.not_lt_zero _)]; rfl
theorem tabPart_zero : Tryd.zeroCells93 = tabPart 0 := by
  unfold tabPart
  rw [map_zero, List.length_range]
  exact (show Tryd.zeroCells93 = (List.replicate 256 (Value.int .u32 0)).toArray by kernel_rfl)
theorem tabPart_size (j : Nat) : (tabPart j).size = 256 := by simp [tabPart]
theorem tabPart_get (j i : Nat) (h : i < 256) : (tabPart j)[i]? = some (Value.int .u32 (if i < j then crcT i else 0)) := by
  unfold tabPart
  rw [List.getElem?_toArray, List.getElem?_map, List.getElem?_range h]
  rfl
theorem tabPart_set (j : Nat) (h : j < 256) : (tabPart j).setIfInBounds j (.int .u32 (crcT j)) = tabPart (j + 1) := by
  apply Array.ext_getElem?
  intro i
  rw [Array.getElem?_setIfInBounds]
  by_cases hi : i < 256
  · rw [tabPart_get (j + 1) i hi]
    by_cases e : j = i
    · subst e
      rw [if_pos rfl, if_pos (by rw [tabPart_size]; omega), if_pos (by omega)]
    · rw [if_neg e, tabPart_get j i hi]
      by_cases hl : i < j
      · rw [if_pos hl, if_pos (by omega)]
      · rw [if_neg hl, if_neg (by omega)]
  · rw [if_neg (by omega), Array.getElem?_eq_none (by rw [tabPart_size]; omega), Array.getElem?_eq_none (by rw [tabPart_size]; omega)]
set_option maxHeartbeats 2000000 in
set_option maxRecDepth 100000 in
theorem crc_table.calls (w : World) :
    Calls Tryd.prog 64 #[] w fun e w' => ∃ g, e = .returned (.pointer (some ⟨g, 0, none⟩)) ∧ w.heap.size ≤ g ∧ w'.heap[g]? = some (.cells (tabPart 256) 93 (0, 0)) ∧ Below w.heap.size w w' := by
  go_enter Tryd.func64, Tryd.ntmps64
  go_upto_region 2 with (fail)
  have hw2 : ∃ w2 : World, w2 = w.alloc (Obj.cells Tryd.zeroCells93 93) := ⟨_, rfl⟩
  obtain ⟨w2, hw2⟩ := hw2
  rw [← hw2]
  have HB2 : Aside0 (Below w.heap.size w w2) := ⟨by rw [hw2]; exact ((Below.refl _ w).alloc (Nat.le_refl _) _)⟩
  have HC0 : Aside0 (w2.heap[w.heap.size]? = some (.cells (tabPart 0) 93 (0, 0))) := ⟨by rw [hw2, tabPart_zero]; show (Array.push _ _)[w.heap.size]? = _; rw [Array.getElem?_push, if_pos rfl]⟩
  clear hw2
  go_wp2_with (fail)
  go_loopg [3] 256 (fun gg s3 wr => ∃ j : Nat, s3 = .int .i64 j ∧ j ≤ 256 ∧ 256 - j ≤ gg ∧ Aside0 (wr.heap[w.heap.size]? = some (.cells (tabPart j) 93 (0, 0))) ∧ Aside0 (Below w.heap.size w wr))
  case atStart => exact ⟨0, rfl, Nat.zero_le _, Nat.le_refl _, HC0, HB2⟩
  case round =>
    obtain ⟨j, rfl, hj, hg, HC, HB⟩ := hrel
    by_cases hlt : j < 256
    · have hltI : (j : Int) < 256 := by omega
      have hu : (j : Int) % 4294967296 = (j : Int) := by omega
      have HS := Aside0.mk (crcT_some j hlt)
      go_wp2_with (go_at_call 73; (first | rw [hu] | skip); refine (crc_shifted.calls 12 (j : Int) 8 (crcT j) _ HS.out).mono ?_; rintro e w3 ⟨rfl, hb⟩; obtain ⟨nd, rfl⟩ := hb; have HC3 := Aside0.mk (blk_drewN HC.out nd); have hy : (wr.drewN nd).cell? ⟨w.heap.size, j, none⟩ = some (Value.int .u32 (if j < j then crcT j else 0)) := (blk_cell HC3.out j).trans (tabPart_get j j hlt); have hf := blk_frozen HC3.out j)
      go_roundg (256 - (j + 1))
      case measure => omega
      case rel =>
        refine ⟨j + 1, by go_num, by omega, by omega, ⟨blk_put HC3.out j _ (tabPart_set j hlt)⟩, ⟨below_set (pw_below_drewN HB.out nd) (Nat.le_refl _)⟩⟩
    · have hltI : ¬ (j : Int) < 256 := by omega
      obtain rfl : j = 256 := by omega
      go_wp2_with (fail)
      go_ret
      exact ⟨_, rfl, Nat.le_refl _, HC.out, HB.out⟩
set_option maxHeartbeats 2000000 in
set_option maxRecDepth 100000 in
theorem crc_New.calls (w : World) :
    Calls Tryd.prog 49 #[] w fun e w' => ∃ g p, e = .returned (.pointer (some ⟨p, 0, none⟩)) ∧ w.heap.size ≤ g ∧ w.heap.size ≤ p ∧ g ≠ p ∧ w'.heap[g]? = some (.cells (tabPart 256) 93 (0, 0)) ∧ w'.heap[p]? = some (.cells #[.pointer (some ⟨g, 0, none⟩), .int .u32 4294967295, .int .i64 0] 88 (0, 0)) ∧ Below w.heap.size w w' := by
  have hu88 := Tryd.underlying88
  go_enter Tryd.func49, Tryd.ntmps49
  go_wp2_with (go_at_call 64; refine (crc_table.calls _).mono ?_; rintro e w2 ⟨g, rfl, hg, hc, hb⟩; have HC := Aside0.mk hc; have HB := Aside0.mk hb; clear hc hb)
  go_ret
  refine ⟨g, w2.heap.size, rfl, hg, HB.out.size, Nat.ne_of_lt (blk_lt HC.out), ?_, ?_, ?_⟩
  · exact (Array.getElem?_push_lt (blk_lt HC.out)).trans ((Array.getElem?_eq_getElem (blk_lt HC.out)).symm.trans HC.out)
  · show (Array.push _ _)[w2.heap.size]? = _
    rw [Array.getElem?_push, if_pos rfl]
  · exact HB.out.alloc HB.out.size _
/-- One byte more. -/
def crcStep (c : Int) (b : UInt8) : Int := Go.bits .xor .u32 (c / 256) (crcT (Go.bits .xor .u8 (c % 256) (b.toNat : Int)).toNat)
def crcFold (l : List UInt8) : Int := l.foldl crcStep 4294967295
theorem crcFold_snoc (l : List UInt8) (b : UInt8) : crcFold (l ++ [b]) = crcStep (crcFold l) b := by unfold crcFold; rw [List.foldl_append]; rfl
theorem xor_u8_range (x y : Int) : 0 ≤ Go.bits .xor .u8 x y ∧ Go.bits .xor .u8 x y < 256 := by
  show 0 ≤ IntKind.u8.wrap _ ∧ IntKind.u8.wrap _ < 256
  rw [IntKind.wrap_u8]
  omega
set_option maxHeartbeats 4000000 in
set_option maxRecDepth 100000 in
theorem crc_Add.calls (s : ByteArray) (B g p : Nat) (w : World) (hs : s.size ≤ 4611686018427387904) (hBp : B ≤ p) (hgp : g ≠ p) (hg : w.heap[g]? = some (.cells (tabPart 256) 93 (0, 0))) (hp : w.heap[p]? = some (.cells #[.pointer (some ⟨g, 0, none⟩), .int .u32 4294967295, .int .i64 0] 88 (0, 0))) :
    Calls Tryd.prog 50 #[.pointer (some ⟨p, 0, none⟩), .string s] w fun e w' => e = .returned (.pointer (some ⟨p, 0, none⟩)) ∧ w'.heap[p]? = some (.cells #[.pointer (some ⟨g, 0, none⟩), .int .u32 (crcFold s.data.toList), .int .i64 s.size] 88 (0, 0)) ∧ Below B w w' := by
  have hu88 := Tryd.underlying88
  have HG := Aside0.mk hg
  have HP := Aside0.mk hp
  clear hg hp
  go_enter Tryd.func50, Tryd.ntmps50
  go_wp2_with (fail)
  go_loopg [10] s.size (fun gg s10 wr => ∃ j : Nat, s10 = .int .i64 j ∧ j ≤ s.size ∧ s.size - j ≤ gg ∧ Aside0 (wr.heap[g]? = some (.cells (tabPart 256) 93 (0, 0))) ∧ Aside0 (wr.heap[p]? = some (.cells #[.pointer (some ⟨g, 0, none⟩), .int .u32 (crcFold (s.data.toList.take j)), .int .i64 0] 88 (0, 0))) ∧ Aside0 (Below B w wr))
  case atStart => exact ⟨0, rfl, Nat.zero_le _, Nat.le_refl _, HG, HP, ⟨Below.refl _ _⟩⟩
  case round =>
    obtain ⟨j, rfl, hj, hgg, HG, HP, HB⟩ := hrel
    by_cases hlt : j < s.size
    · have hltI : (j : Int) < (s.size : Int) := by omega
      obtain ⟨c, hc⟩ : ∃ c, c = crcFold (s.data.toList.take j) := ⟨_, rfl⟩
      rw [← hc] at HP
      have HCC := Aside0.mk hc
      clear hc
      have hx := xor_u8_range (c % 256) ((s[j]'hlt).toNat : Int)
      obtain ⟨x, hxx⟩ : ∃ x : Nat, Go.bits .xor .u8 (c % 256) ((s[j]'hlt).toNat : Int) = (x : Int) := ⟨(Go.bits .xor .u8 (c % 256) ((s[j]'hlt).toNat : Int)).toNat, by omega⟩
      have hx256 : x < 256 := by omega
      have hy0 : wr.cell? ⟨p, 0, none⟩ = some (.pointer (some ⟨g, 0, none⟩)) := (blk_cell HP.out 0).trans rfl
      have hy1 : wr.cell? ⟨p, 1, none⟩ = some (.int .u32 c) := (blk_cell HP.out 1).trans rfl
      have hf1 := blk_frozen HP.out 1
      have hyt : wr.cell? ⟨g, x, none⟩ = some (.int .u32 (crcT x)) := (blk_cell HG.out x).trans ((tabPart_get 256 x hx256).trans (by rw [if_pos hx256]))
      have hxI : (x : Int) < 256 := by omega
      have HXX := Aside0.mk hxx
      go_wp2_with (fail)
      go_region
      go_wp2_with (fail)
      go_roundg (s.size - (j + 1))
      case measure => omega
      case rel =>
        refine ⟨j + 1, by go_num, by omega, by omega, ⟨?_⟩, ⟨?_⟩, ⟨?_⟩⟩
        · exact blk_drew (blk_far HG.out hgp _)
        · refine blk_drew (blk_put HP.out 1 _ ?_)
          rw [List.take_succ_eq_append_getElem (by simpa using hlt), crcFold_snoc, ← HCC.out]
          have e : s.data.toList[j]'(by simpa using hlt) = s[j]'hlt := rfl
          simp only [crcStep, e, HXX.out, Int.toNat_natCast]
          rfl
        · exact below_drew1 (HB.out.setCell (p := ⟨p, 1, none⟩) hBp _)
    · have hltI : ¬ (j : Int) < (s.size : Int) := by omega
      obtain rfl : j = s.size := by omega
      have ht : s.data.toList.take s.size = s.data.toList := List.take_of_length_le (by simp)
      rw [ht] at HP
      clear ht
      obtain ⟨c, hc⟩ : ∃ c, c = crcFold s.data.toList := ⟨_, rfl⟩
      rw [← hc] at HP
      have HCC := Aside0.mk hc
      clear hc
      have hy2 : wr.cell? ⟨p, 2, none⟩ = some (.int .i64 0) := (blk_cell HP.out 2).trans rfl
      have hf2 := blk_frozen HP.out 2
      have hw : wrap64 (0 + (s.size : Int)) = (s.size : Int) := by unfold wrap64; omega
      go_wp2_with (fail)
      go_ret
      refine ⟨rfl, ?_, HB.out.setCell (p := ⟨p, 2, none⟩) hBp _⟩
      rw [← HCC.out]
      exact blk_put HP.out 2 _ rfl
theorem crcStep_range (c : Int) (b : UInt8) : 0 ≤ crcStep c b ∧ crcStep c b < 4294967296 := by
  show 0 ≤ IntKind.u32.wrap _ ∧ IntKind.u32.wrap _ < 4294967296
  rw [IntKind.wrap_u32]
  omega
set_option maxHeartbeats 2000000 in
set_option maxRecDepth 100000 in
theorem crc_Value.calls (p : Nat) (g n : Value) (cI : Int) (w : World) (hp : w.heap[p]? = some (.cells #[g, .int .u32 cI, n] 88 (0, 0))) :
    Calls Tryd.prog 51 #[.pointer (some ⟨p, 0, none⟩)] w fun e w' => e = .returned (.int .u32 (Go.bits .xor .u32 4294967295 cI)) ∧ w' = w := by
  have hu88 := Tryd.underlying88
  have hsg : IntKind.u32.signed = false := rfl
  have hmx : IntKind.u32.max = 4294967295 := rfl
  have hy1 : w.cell? ⟨p, 1, none⟩ = some (.int .u32 cI) := (blk_cell hp 1).trans rfl
  clear hp
  go_enter Tryd.func51, Tryd.ntmps51
  go_wp2_with (fail)
  go_ret
  first | exact ⟨rfl, rfl⟩ | trace_state
/-- The CRC of bytes. -/
def crc_Of.f (a0 : ByteArray) : Option Int := if a0.size ≤ 4611686018427387904 then some (Go.bits .xor .u32 4294967295 (crcFold a0.data.toList)) else none
set_option maxHeartbeats 2000000 in
set_option maxRecDepth 100000 in
theorem crc_Of.calls (a0 : ByteArray) (r : Int) (w : World) (h : crc_Of.f a0 = some r) :
    Calls Tryd.prog 34 #[.string a0] w fun e w' => e = .returned (.int .u32 r) ∧ Below w.heap.size w w' := by
  unfold crc_Of.f at h
  split at h
  case isFalse => cases h
  case isTrue hs =>
  have HR := Aside0.mk (Option.some.inj h)
  clear h
  go_enter Tryd.func34, Tryd.ntmps34
  go_wp2_with (first | (go_at_call 49; refine (crc_New.calls _).mono ?_; rintro e w2 ⟨g, p, rfl, hg, hp, hne, hc, hq, hb⟩; have HC := Aside0.mk hc; have HQ := Aside0.mk hq; have HB := Aside0.mk hb; clear hc hq hb) | (go_at_call 50; refine (crc_Add.calls a0 w.heap.size g p _ hs hp hne HC.out HQ.out).mono ?_; rintro e w3 ⟨rfl, hq3, hb3⟩; have HQ3 := Aside0.mk hq3; have HB3 := Aside0.mk hb3; clear hq3 hb3) | (go_at_call 51; refine (crc_Value.calls p _ _ _ _ HQ3.out).mono ?_; rintro e w4 ⟨rfl, rfl⟩))
  go_ret
  exact ⟨by rw [← HR.out]; rfl, HB.out.trans HB3.out⟩


/-! ### armor_sum: function 21 -/
def armor_sum.f (a0 : ByteArray) : Option (ByteArray) := (crc_Of.f a0).bind fun t108 => ((armor_Signs.f (strOfNums (([(t108 / 65536) % 256, (t108 / 256) % 256, (t108) % 256] : List Int)))).bind fun t112 => (if 1 + t112.size ≤ 9223372036854775807 then (some ((⟨#[61]⟩ : ByteArray) ++ t112)) else (none)))
set_option maxHeartbeats 8000000 in
set_option maxRecDepth 100000 in
theorem armor_sum.calls (a0 : ByteArray) (r : ByteArray) (w : World) (h : armor_sum.f a0 = some r) :
    Calls Tryd.prog 21 #[.string a0] w fun e w' => e = .returned (.string r) ∧ Below w.heap.size w w' := by
  have HB := Aside0.mk (Below.refl w.heap.size w)
  have H : ((crc_Of.f a0).bind fun t108 => ((armor_Signs.f (strOfNums (([(t108 / 65536) % 256, (t108 / 256) % 256, (t108) % 256] : List Int)))).bind fun t112 => (if 1 + t112.size ≤ 9223372036854775807 then (some ((⟨#[61]⟩ : ByteArray) ++ t112)) else (none)))) = some r := h
  clear h
  replace H := Option.bind_eq_some_iff.mp H
  obtain ⟨t108, A20, H⟩ := H
  replace H : ((armor_Signs.f (strOfNums (([(t108 / 65536) % 256, (t108 / 256) % 256, (t108) % 256] : List Int)))).bind fun t112 => (if 1 + t112.size ≤ 9223372036854775807 then (some ((⟨#[61]⟩ : ByteArray) ++ t112)) else (none))) = some r := H
  have A2 := Aside0.mk A20
  clear A20
  obtain ⟨y109, hy109⟩ : ∃ y_ : List Int, y_ = (([(t108 / 65536) % 256, (t108 / 256) % 256, (t108) % 256] : List Int)) := ⟨_, rfl⟩
  replace H : ((armor_Signs.f (strOfNums y109)).bind fun t112 => (if 1 + t112.size ≤ 9223372036854775807 then (some ((⟨#[61]⟩ : ByteArray) ++ t112)) else (none))) = some r := by first | (rw [hy109]; with_reducible exact H) | (have H2_ := (Option.bind_some _ _).symm.trans H; rw [hy109]; with_reducible exact H2_) | (have H2_ := (Option.bind_some _ _).symm.trans H; with_reducible exact H2_) | with_reducible exact H | (rw [hy109]; exact H) | exact H
  have Ny109 := Aside0.mk hy109
  clear hy109
  replace H := Option.bind_eq_some_iff.mp H
  obtain ⟨t112, A30, H⟩ := H
  replace H : (if 1 + t112.size ≤ 9223372036854775807 then (some ((⟨#[61]⟩ : ByteArray) ++ t112)) else (none)) = some r := H
  have A3 := Aside0.mk A30
  clear A30
  by_cases c4 : 1 + t112.size ≤ 9223372036854775807
  · rw [if_pos c4] at H
    have c4b0 := eq_true c4
    have c4b1 : decide (1 + t112.size ≤ 9223372036854775807) = true := decide_eq_true c4
    try have c4b2 : (9223372036854775807 < 1 + t112.size) = False := eq_false (Nat.not_lt.2 c4)
    obtain rfl := Option.some.inj H
    simp only [Option.some.injEq, Prod.mk.injEq] at H
    obtain ⟨rfl⟩ := H
    go_enter Tryd.func21, Tryd.ntmps21
    go_wp2_with (first | ((with_reducible refine gate_callee (f := 34) rfl ?_); refine goesL_ (some 5) rfl rfl Tryd.func34 (by kernel_rfl) rfl #[.string a0] rfl (by (try simp only [List.map_toArray, List.map_cons, List.map_nil]); first | done | rfl | (simp only [List.length_drop, List.length_take]; rfl)) ?_; (with_reducible refine (crc_Of.calls a0 t108 _ A2.out).mono ?_); rintro e w5 ⟨rfl, hb⟩; refine ⟨_, rfl, ?_⟩; have n0_ := Aside0.mk (below_step (by repeat (first | (with_reducible first | exact HB.out | apply below_alloc | apply pw_below_drewN | apply below_drew1) | exact HB.out)) hb); clear HB; have HB := n0_; clear n0_; (try clear hb); (try clear hb2); (try clear hk); (try clear hi)) | ((with_reducible refine gate_dst (N := 14) rfl ?_); refine Kd.R_lit (Kd.int .u8) _ 5 ?hg (N := 14) ?hd (xs := ([(t108 / 65536) % 256, (t108 / 256) % 256, (t108) % 256] : List Int)) (inner := [.int .u8 ((t108 / 65536) % 256), .int .u8 ((t108 / 256) % 256), .int .u8 ((t108) % 256)]) (ok := fun _ => True) (okp := fun _ => True) ?hr ?hp (fun _ hk => hk) trivial (Below.refl _ _) (Nat.le_refl _) (by simp) ?_; (case hd => rfl); (case hg => rfl); (case hr => first | (go_simp; done) | (go_simp; rfl)); (case hp => exact (Reps.one (show Kd.M (Kd.int .u8) _ _ _ ((t108 / 65536) % 256) [.int .u8 ((t108 / 65536) % 256)] from rfl) (Reps.one (show Kd.M (Kd.int .u8) _ _ _ ((t108 / 256) % 256) [.int .u8 ((t108 / 256) % 256)] from rfl) (Reps.one (show Kd.M (Kd.int .u8) _ _ _ ((t108) % 256) [.int .u8 ((t108) % 256)] from rfl) (Reps.none _ _))))); intro v110 w6 ho7 hb hg_ hnew_; clear hg_ hnew_; (first | rw [← Ny109.out] at ho7 | (simp only [Int.reduceToNat] at ho7; rw [← Ny109.out] at ho7)); have n0_ := Aside0.mk (Kd.R_lower ho7 (below_size (by repeat (first | (with_reducible first | exact HB.out | apply below_alloc | apply pw_below_drewN | apply below_drew1) | exact HB.out)))); have n1_ := Aside0.mk (below_step (by repeat (first | (with_reducible first | exact HB.out | apply below_alloc | apply pw_below_drewN | apply below_drew1) | exact HB.out)) hb); clear HB; have HO111 := n0_; have HB := n1_; clear n0_ n1_; clear hb ho7; have hcv8 := own_string (P := Tryd.prog) Tryd.underlying36 Tryd.underlying5 Tryd.underlying9 (Kd.own_of_R HO111.out)) | ((with_reducible refine gate_callee (f := 6) rfl ?_); refine goesL_ (some 16) rfl rfl Tryd.func6 (by kernel_rfl) rfl #[.string (strOfNums y109)] rfl (by (try simp only [List.map_toArray, List.map_cons, List.map_nil]); first | done | rfl | (simp only [List.length_drop, List.length_take]; rfl)) ?_; (with_reducible refine (armor_Signs.calls (strOfNums y109) t112 _ A3.out).mono ?_); rintro e w9 ⟨rfl, hb⟩; refine ⟨_, rfl, ?_⟩; have n0_ := Aside0.mk (Kd.R_below (by (with_reducible repeat (first | apply Kd.R_alloc | apply Kd.R_drewN | apply Kd.R_drew)); exact HO111.out) hb); have n1_ := Aside0.mk (below_step (by repeat (first | (with_reducible first | exact HB.out | apply below_alloc | apply pw_below_drewN | apply below_drew1) | exact HB.out)) hb); clear HO111; clear HB; have HO111 := n0_; have HB := n1_; clear n0_ n1_; (try clear hb); (try clear hb2); (try clear hk); (try clear hi)))
    go_ret
    exact ⟨by first | rfl | (simp [errW_none, errW_some] <;> rfl) | (simp [*, errW_none, errW_some] <;> rfl), by repeat (first | (with_reducible first | exact HB.out | apply below_alloc | apply pw_below_drewN | apply below_drew1) | exact HB.out)⟩
  · rw [if_neg c4] at H
    exact absurd H (by simp)

/-! ### armor_Encode: function 10 (its contract is typed by hand) -/
theorem data_append10 (a b : ByteArray) : (a ++ b).data.toList = a.data.toList ++ b.data.toList := by
  rw [ByteArray.data_append, Array.toList_append]
theorem sgs_length : ∀ (k : Nat) (s : ByteArray), (sgs k s).length ≤ 4 * s.size
  | 0, _ => by simp [sgs]
  | k + 1, s => by
    rw [sgs]
    by_cases h : s.size = 0
    · rw [if_pos h]; exact Nat.zero_le _
    · rw [if_neg h, List.length_append, outTo_length]
      have h1 := sgs_length k (s.extract (min 3 s.size) s.size)
      rw [ByteArray.size_extract] at h1
      omega
/-- A text in lines. -/
def lns (n : Nat) : Nat → ByteArray → List UInt8
  | 0, _ => []
  | k + 1, t => if t.size = 0 then [] else ((t.extract 0 (min n t.size)).data.toList ++ [10]) ++ lns n k (t.extract (min n t.size) t.size)
def encHead (a1 : ByteArray) : ByteArray := (((⟨#[45, 45, 45, 45, 45, 66, 69, 71, 73, 78, 32]⟩ : ByteArray) ++ a1) ++ (⟨#[45, 45, 45, 45, 45]⟩ : ByteArray)) ++ (⟨#[10]⟩ : ByteArray)
def encTail (sm a1 : ByteArray) : ByteArray := (((((sm ++ (⟨#[10]⟩ : ByteArray)) ++ (⟨#[45, 45, 45, 45, 45, 69, 78, 68, 32]⟩ : ByteArray)) ++ a1) ++ (⟨#[45, 45, 45, 45, 45]⟩ : ByteArray)) ++ (⟨#[10]⟩ : ByteArray))
def armor_Encode.f (a0 a1 : ByteArray) (a2 : Int) : Option (ByteArray × Int) :=
  if a0.size ≤ 10000000 ∧ a1.size ≤ 1000000 then
  (armor_right.f a1).bind fun r => (armor_wide.f a2).bind fun wd =>
    if r = true ∧ wd = true then
      (if a0.size ≤ 4194304 then (armor_Signs.f a0).bind fun t => (armor_sum.f a0).bind fun sm =>
        if sm.size ≤ 1000 then some (⟨((encHead a1).data.toList ++ lns a2.toNat (t.size + 1) t ++ (encTail sm a1).data.toList).toArray⟩, 0) else none
      else some (⟨#[]⟩, 7))
    else some (⟨#[]⟩, 1)
  else none
set_option maxHeartbeats 8000000 in
set_option maxRecDepth 100000 in
theorem armor_Encode.calls (a0 a1 : ByteArray) (a2 : Int) (r1 : ByteArray) (r2 : Int) (w : World) (h : armor_Encode.f a0 a1 a2 = some (r1, r2)) :
    Calls Tryd.prog 10 #[.string a0, .string a1, .int .i64 a2] w fun e w' => e = .returned (.tuple #[.string r1, .int .i64 r2]) ∧ Below w.heap.size w w' := by
  unfold armor_Encode.f at h
  split at h
  case isFalse => cases h
  case isTrue hs =>
  obtain ⟨hs0, hs1⟩ := hs
  obtain ⟨rt, HR0, h⟩ := Option.bind_eq_some_iff.mp h
  obtain ⟨wd, HW0, h⟩ := Option.bind_eq_some_iff.mp h
  have HR := Aside0.mk HR0
  have HW := Aside0.mk HW0
  clear HR0
  cases rt with
  | false =>
    rw [if_neg (by simp)] at h
    have H2 := Option.some.inj h
    have e1 : (⟨#[]⟩ : ByteArray) = r1 := congrArg Prod.fst H2
    have e2 : (1 : Int) = r2 := congrArg Prod.snd H2
    have E1 := Aside0.mk e1
    have E2 := Aside0.mk e2
    clear h H2 HW0 e1 e2
    go_enter Tryd.func10, Tryd.ntmps10
    go_wp2_with (go_at_call 19; refine (armor_right.calls a1 false _ HR.out).mono ?_; rintro e w3 ⟨rfl, hb3⟩; have HB3 := Aside0.mk hb3; clear hb3)
    go_ret2
    exact ⟨by rw [← E1.out, ← E2.out]; rfl, HB3.out⟩
  | true =>
    cases wd with
    | false =>
      rw [if_neg (by simp)] at h
      have H2 := Option.some.inj h
      have e1 : (⟨#[]⟩ : ByteArray) = r1 := congrArg Prod.fst H2
      have e2 : (1 : Int) = r2 := congrArg Prod.snd H2
      have E1 := Aside0.mk e1
      have E2 := Aside0.mk e2
      clear h H2 HW0 e1 e2
      go_enter Tryd.func10, Tryd.ntmps10
      go_wp2_with (first | (go_at_call 19; refine (armor_right.calls a1 true _ HR.out).mono ?_; rintro e w3 ⟨rfl, hb3⟩; have HB3 := Aside0.mk hb3; clear hb3) | (go_at_call 20; refine (armor_wide.calls a2 false _ HW.out).mono ?_; rintro e w4 ⟨rfl, hb4⟩; obtain ⟨nd, rfl⟩ := hb4))
      go_ret2
      exact ⟨by rw [← E1.out, ← E2.out]; rfl, pw_below_drewN HB3.out nd⟩
    | true =>
      rw [if_pos (by simp)] at h
      obtain ⟨n, hn, hn4, hn76⟩ : ∃ n : Nat, a2 = (n : Int) ∧ 4 ≤ n ∧ n ≤ 76 := by
        unfold armor_wide.f at HW0
        by_cases c1 : a2 ≥ 4
        · rw [if_pos c1] at HW0
          by_cases c2 : a2 ≤ 76
          · exact ⟨a2.toNat, by omega, by omega, by omega⟩
          · rw [if_neg c2] at HW0; cases HW0
        · rw [if_neg c1] at HW0; cases HW0
      subst hn
      clear HW0
      by_cases hb : a0.size ≤ 4194304
      · rw [if_pos hb] at h
        have hbI : ¬ (4194304 : Int) < (a0.size : Int) := by omega
        obtain ⟨t, HT0, h⟩ := Option.bind_eq_some_iff.mp h
        obtain ⟨sm, HS0, h⟩ := Option.bind_eq_some_iff.mp h
        have HT := Aside0.mk HT0
        have HS := Aside0.mk HS0
        have htl : t.size ≤ 4 * a0.size := by
          unfold armor_Signs.f at HT0
          rw [if_pos (by omega)] at HT0
          have e := Option.some.inj HT0
          have h1 := sgs_length (a0.size + 1) a0
          rw [← e]
          exact h1
        clear HT0 HS0
        by_cases hsm : sm.size ≤ 1000
        · rw [if_pos hsm] at h
          have H2 := Option.some.inj h
          have e1 := congrArg Prod.fst H2
          have e2 := congrArg Prod.snd H2
          simp only [] at e1 e2
          have E1 := Aside0.mk e1
          have E2 := Aside0.mk e2
          clear h H2 e1 e2
          have hdl : (encHead a1).size = 11 + a1.size + 5 + 1 := by
            unfold encHead; simp only [ByteArray.size_append, xfix_mk, List.size_toArray, List.length_cons, List.length_nil, Nat.reduceAdd, Nat.zero_add]
          go_enter Tryd.func10, Tryd.ntmps10
          go_wp2_with (first | (go_at_call 19; refine (armor_right.calls a1 true _ HR.out).mono ?_; rintro e w3 ⟨rfl, hb3⟩; have HB3 := Aside0.mk hb3; clear hb3) | (go_at_call 20; refine (armor_wide.calls (n : Int) true _ HW.out).mono ?_; rintro e w4 ⟨rfl, hb4⟩; obtain ⟨nd, rfl⟩ := hb4) | (go_at_call 16; refine (strings_Builder_WriteString.calls w3.heap.size w3.heap.size [] (encHead a1) _ (IsBuilder_new (w3.drewN nd) 38 5) (by rw [List.length_nil]; omega) (by simp [World.drewN])).mono ?_; rintro e w5 ⟨rfl, hi5, hb5⟩; have HI5 := Aside0.mk hi5; have hbb : Below w3.heap.size w3 w5 := ((Below.refl _ w3 |> fun h => pw_below_drewN h nd).alloc (Nat.le_refl _) _).trans hb5; have HB5 := Aside0.mk hbb; have hs5 := hb5.size; clear hi5 hb5 hbb) | (go_at_call 6; refine (armor_Signs.calls a0 t _ HT.out).mono ?_; rintro e w6 ⟨rfl, hb6⟩; have HB6 := Aside0.mk hb6; have hs6 := hb6.size; clear hb6))
          have hs35 : w3.heap.size + 1 ≤ w5.heap.size := by simpa [World.drewN] using hs5
          have HI6 : Aside0 (Lib.IsBuilder 38 5 w3.heap.size w3.heap.size (Lib.byteCells (encHead a1).data.toList) w6) := ⟨IsBuilder_below (.inr (by have h5 := HI5.out; rw [List.nil_append, strCells_data] at h5; exact h5)) HB6.out⟩
          have HBB : Aside0 (Below w.heap.size w w6) := ⟨(HB3.out.trans (HB5.out.mono HB3.out.size)).trans (HB6.out.mono (by have := HB3.out.size; omega))⟩
          have hs3 := HB3.out.size
          clear HI5 HB5 HB6 HB3
          go_loopg [9] (t.size) (fun gg s9 wr => ∃ (rest : ByteArray) (acc : List UInt8) (k : Nat), s9 = .string rest ∧ rest.size ≤ gg ∧ rest.size < k ∧ acc.length + 2 * rest.size ≤ 200000000 ∧ Aside0 (acc ++ lns n k rest = (encHead a1).data.toList ++ lns n (t.size + 1) t) ∧ Aside0 (Lib.IsBuilder 38 5 w3.heap.size w3.heap.size (Lib.byteCells acc) wr) ∧ Aside0 (Below w.heap.size w wr) ∧ w3.heap.size < wr.heap.size)
          case atStart => exact ⟨t, (encHead a1).data.toList, t.size + 1, rfl, Nat.le_refl _, Nat.lt_succ_self _, by have := data_length (encHead a1); omega, ⟨rfl⟩, HI6, HBB, by omega⟩
          case round =>
            obtain ⟨rest, acc, k, rfl, hg, hk, hacc, HA, HI, HB, hsz⟩ := hrel
            obtain ⟨bs, hbs⟩ : ∃ bs, bs = Lib.byteCells acc := ⟨_, rfl⟩
            have hlen : bs.length = acc.length := by rw [hbs, Lib.byteCells_length]
            rw [← hbs] at HI
            have HBS := Aside0.mk hbs
            clear hbs
            obtain ⟨k, rfl⟩ : ∃ q, k = q + 1 := ⟨k - 1, by omega⟩
            have H1 := HA.out
            rw [lns] at H1
            clear HA
            by_cases hne : rest.size = 0
            · rw [if_pos hne, List.append_nil] at H1
              have HACC := Aside0.mk H1
              clear H1
              have hne' := toList_none rest hne
              have htl2 : (encTail sm a1).size = sm.size + 1 + 9 + a1.size + 5 + 1 := by
                unfold encTail; simp only [ByteArray.size_append, xfix_mk, List.size_toArray, List.length_cons, List.length_nil, Nat.reduceAdd, Nat.zero_add]
              go_wp2_with (first | (go_at_call 21; refine (armor_sum.calls a0 sm _ HS.out).mono ?_; rintro e w7 ⟨rfl, hb7⟩; have HB7 := Aside0.mk hb7; have hs7 := hb7.size; clear hb7) | (go_at_call 16; refine (strings_Builder_WriteString.calls w3.heap.size w3.heap.size bs (encTail sm a1) _ (IsBuilder_below HI.out HB7.out) (by omega) (by omega)).mono ?_; rintro e w8 ⟨rfl, hi8, hb8⟩; have HI8 := Aside0.mk hi8; have HB8 := Aside0.mk hb8; have hs8 := hb8.size; clear hi8 hb8) | (go_at_call 14; refine (Tryd.Builder_String_any w3.heap.size w3.heap.size (acc ++ (encTail sm a1).data.toList) _ (.inr (by have h5 := HI8.out; rw [HBS.out, strCells_data, ← byteCells_append] at h5; exact h5)) (by omega)).mono ?_; rintro e w9 ⟨rfl, hb9⟩; have HB9 := Aside0.mk hb9; clear hb9))
              go_ret2
              refine ⟨?_, ((HB.out.trans (HB7.out.mono (by omega))).trans (HB8.out.mono hs3)).trans (HB9.out.mono hs3)⟩
              rw [← E1.out, ← E2.out, Int.toNat_natCast, ← HACC.out]
              rfl
            · rw [if_neg hne] at H1
              have hne' := toList_ne rest hne
              obtain ⟨mN, hm⟩ : ∃ mN : Nat, mN = min n rest.size := ⟨_, rfl⟩
              have hmin : (if rest.size < n then (rest.size : Int) else (n : Int)) = (mN : Int) := by split <;> omega
              have hml : mN ≤ rest.size := by omega
              have hm1 : 1 ≤ mN := by omega
              have hmI : (mN : Int) ≤ (rest.size : Int) := by omega
              rw [← hm, ← List.append_assoc] at H1
              have HA := Aside0.mk H1
              clear H1 hm
              have hxs : (rest.extract 0 mN).size = mN := by rw [ByteArray.size_extract]; omega
              have hxs2 : ((rest.extract 0 mN) ++ (⟨#[10]⟩ : ByteArray)).size = mN + 1 := by rw [ByteArray.size_append, hxs]; rfl
              go_wp2_with (go_at_call 16; refine (strings_Builder_WriteString.calls w3.heap.size w3.heap.size bs ((rest.extract 0 mN) ++ (⟨#[10]⟩ : ByteArray)) _ HI.out (by omega) (by omega)).mono ?_; rintro e w8 ⟨rfl, hi8, hb8⟩; have HI8 := Aside0.mk hi8; have HB8 := Aside0.mk hb8; have hs8 := hb8.size; clear hi8 hb8)
              go_roundg (rest.size - mN)
              case measure => omega
              case rel =>
                have hsz2 : (rest.extract mN rest.size).size = rest.size - mN := by rw [ByteArray.size_extract]; omega
                have hdt : ((rest.extract 0 mN) ++ (⟨#[10]⟩ : ByteArray)).data.toList = (rest.extract 0 mN).data.toList ++ [10] := by rw [data_append10]
                have hlt2 : ((rest.extract 0 mN).data.toList ++ [10]).length = mN + 1 := by rw [List.length_append, data_length, hxs]; rfl
                refine ⟨rest.extract mN rest.size, acc ++ ((rest.extract 0 mN).data.toList ++ [10]), k, rfl, by omega, by omega, ?_, HA, ⟨.inr ?_⟩, ⟨HB.out.trans (HB8.out.mono hs3)⟩, by omega⟩
                · rw [List.length_append]; omega
                · have h5 := HI8.out
                  rw [HBS.out, strCells_data, hdt, ← byteCells_append] at h5
                  exact h5
        · rw [if_neg hsm] at h; cases h
      · rw [if_neg hb] at h
        have hbI : (4194304 : Int) < (a0.size : Int) := by omega
        have H2 := Option.some.inj h
        have e1 : (⟨#[]⟩ : ByteArray) = r1 := congrArg Prod.fst H2
        have e2 : (7 : Int) = r2 := congrArg Prod.snd H2
        have E1 := Aside0.mk e1
        have E2 := Aside0.mk e2
        clear h H2 e1 e2
        go_enter Tryd.func10, Tryd.ntmps10
        go_wp2_with (first | (go_at_call 19; refine (armor_right.calls a1 true _ HR.out).mono ?_; rintro e w3 ⟨rfl, hb3⟩; have HB3 := Aside0.mk hb3; clear hb3) | (go_at_call 20; refine (armor_wide.calls (n : Int) true _ HW.out).mono ?_; rintro e w4 ⟨rfl, hb4⟩; obtain ⟨nd, rfl⟩ := hb4))
        go_ret2
        exact ⟨by rw [← E1.out, ← E2.out]; rfl, pw_below_drewN HB3.out nd⟩


/-! ### stringslite_HasSuffix: function 53 -/
def stringslite_HasSuffix.f (a0 : ByteArray) (a1 : ByteArray) : Option (Bool) := if (a0.size : Int) ≥ (a1.size : Int) then (if 0 ≤ (wrap64 ((a0.size : Int) - (a1.size : Int))) then (if (wrap64 ((a0.size : Int) - (a1.size : Int))) ≤ (a0.size : Int) then (some ((a0.extract ((wrap64 ((a0.size : Int) - (a1.size : Int))) : Int).toNat a0.size).toList == a1.toList)) else (none)) else (none)) else (some false)
set_option maxHeartbeats 8000000 in
set_option maxRecDepth 100000 in
theorem stringslite_HasSuffix.calls (a0 : ByteArray) (a1 : ByteArray) (r : Bool) (w : World) (h : stringslite_HasSuffix.f a0 a1 = some r) :
    Calls Tryd.prog 53 #[.string a0, .string a1] w fun e w' => e = .returned (.bool r) ∧ Drawn0 w w' := by
  have H : (if (a0.size : Int) ≥ (a1.size : Int) then (if 0 ≤ (wrap64 ((a0.size : Int) - (a1.size : Int))) then (if (wrap64 ((a0.size : Int) - (a1.size : Int))) ≤ (a0.size : Int) then (some ((a0.extract ((wrap64 ((a0.size : Int) - (a1.size : Int))) : Int).toNat a0.size).toList == a1.toList)) else (none)) else (none)) else (some false)) = some r := h
  clear h
  by_cases c3 : (a0.size : Int) ≥ (a1.size : Int)
  · rw [if_pos c3] at H
    have c3b0 : decide ((a1.size : Int) ≤ (a0.size : Int)) = true := decide_eq_true c3
    have c3b1 : decide (a1.size ≤ a0.size) = true := decide_eq_true (Int.ofNat_le.mp c3)
    clear c3
    obtain ⟨ji4, hji4⟩ : ∃ j_ : Int, (wrap64 ((a0.size : Int) - (a1.size : Int))) = j_ := ⟨_, rfl⟩
    replace H : (if 0 ≤ (ji4) then (if (ji4) ≤ (a0.size : Int) then (some ((a0.extract ((ji4) : Int).toNat a0.size).toList == a1.toList)) else (none)) else (none)) = some r := by first | (rw [hji4] at H; exact H) | (simp only [hji4] at H ⊢; exact H)
    have hji4w : (IntKind.i64.wrap ((a0.size : Int) - (a1.size : Int))) = ji4 := (i64_w _).trans hji4
    by_cases c5 : 0 ≤ (ji4)
    · rw [if_pos c5] at H
      have c5b0 := eq_true c5
      have c5b1 : decide (0 ≤ (ji4)) = true := decide_eq_true c5
      clear c5
      by_cases c6 : (ji4) ≤ (a0.size : Int)
      · rw [if_pos c6] at H
        have c6b0 := eq_true c6
        have c6b1 : decide ((ji4) ≤ (a0.size : Int)) = true := decide_eq_true c6
        clear c6
        obtain rfl := Option.some.inj H
        simp only [Option.some.injEq, Prod.mk.injEq] at H
        obtain ⟨rfl⟩ := H
        go_enter Tryd.func53, Tryd.ntmps53
        go_wp2
        go_ret
        exact ⟨by first | rfl | (simp; done) | (simp only [← hji4] <;> (first | rfl | simp)) | (simp [*]; done), by repeat (first | exact Drawn0.refl _ | apply Drawn0.step)⟩
      · rw [if_neg c6] at H
        exact absurd H (by simp)
    · rw [if_neg c5] at H
      exact absurd H (by simp)
  · rw [if_neg c3] at H
    have c3b0 : decide ((a1.size : Int) ≤ (a0.size : Int)) = false := decide_eq_false c3
    have c3b1 : decide (a1.size ≤ a0.size) = false := decide_eq_false (fun h => c3 (Int.ofNat_le.mpr h))
    clear c3
    obtain rfl := Option.some.inj H
    simp only [Option.some.injEq, Prod.mk.injEq] at H
    obtain ⟨rfl⟩ := H
    go_enter Tryd.func53, Tryd.ntmps53
    go_wp2
    go_ret
    exact ⟨by first | rfl | (simp; done) | (simp [*]; done), by repeat (first | exact Drawn0.refl _ | apply Drawn0.step)⟩

/-! ### stringslite_CutSuffix: function 36 -/
def stringslite_CutSuffix.f (a0 : ByteArray) (a1 : ByteArray) : Option (ByteArray × Bool) := (stringslite_HasSuffix.f a0 a1).bind fun t113 => (if t113 = true then (if 0 ≤ (wrap64 ((a0.size : Int) - (a1.size : Int))) then (if (wrap64 ((a0.size : Int) - (a1.size : Int))) ≤ (a0.size : Int) then (some (a0.extract 0 ((wrap64 ((a0.size : Int) - (a1.size : Int))) : Int).toNat, true)) else (none)) else (none)) else (some (a0, false)))
set_option maxHeartbeats 8000000 in
set_option maxRecDepth 100000 in
theorem stringslite_CutSuffix.calls (a0 : ByteArray) (a1 : ByteArray) (r1 : ByteArray) (r2 : Bool) (w : World) (h : stringslite_CutSuffix.f a0 a1 = some (r1, r2)) :
    Calls Tryd.prog 36 #[.string a0, .string a1] w fun e w' => e = .returned (.tuple #[.string r1, .bool r2]) ∧ Drawn0 w w' := by
  have H : ((stringslite_HasSuffix.f a0 a1).bind fun t113 => (if t113 = true then (if 0 ≤ (wrap64 ((a0.size : Int) - (a1.size : Int))) then (if (wrap64 ((a0.size : Int) - (a1.size : Int))) ≤ (a0.size : Int) then (some (a0.extract 0 ((wrap64 ((a0.size : Int) - (a1.size : Int))) : Int).toNat, true)) else (none)) else (none)) else (some (a0, false)))) = some (r1, r2) := h
  clear h
  replace H := Option.bind_eq_some_iff.mp H
  obtain ⟨t113, A30, H⟩ := H
  replace H : (if t113 = true then (if 0 ≤ (wrap64 ((a0.size : Int) - (a1.size : Int))) then (if (wrap64 ((a0.size : Int) - (a1.size : Int))) ≤ (a0.size : Int) then (some (a0.extract 0 ((wrap64 ((a0.size : Int) - (a1.size : Int))) : Int).toNat, true)) else (none)) else (none)) else (some (a0, false))) = some (r1, r2) := H
  have A3 := Aside0.mk A30
  clear A30
  by_cases c4 : t113 = true
  · subst c4
    have H1 : (if 0 ≤ (wrap64 ((a0.size : Int) - (a1.size : Int))) then (if (wrap64 ((a0.size : Int) - (a1.size : Int))) ≤ (a0.size : Int) then (some (a0.extract 0 ((wrap64 ((a0.size : Int) - (a1.size : Int))) : Int).toNat, true)) else (none)) else (none)) = some (r1, r2) := by rw [if_pos rfl] at H; exact H
    clear H
    have H := H1
    clear H1
    obtain ⟨ji5, hji5⟩ : ∃ j_ : Int, (wrap64 ((a0.size : Int) - (a1.size : Int))) = j_ := ⟨_, rfl⟩
    replace H : (if 0 ≤ (ji5) then (if (ji5) ≤ (a0.size : Int) then (some (a0.extract 0 ((ji5) : Int).toNat, true)) else (none)) else (none)) = some (r1, r2) := by first | (rw [hji5] at H; exact H) | (simp only [hji5] at H ⊢; exact H)
    (try rw [hji5] at A3)
    have hji5w : (IntKind.i64.wrap ((a0.size : Int) - (a1.size : Int))) = ji5 := (i64_w _).trans hji5
    by_cases c6 : 0 ≤ (ji5)
    · rw [if_pos c6] at H
      have c6b0 := eq_true c6
      have c6b1 : decide (0 ≤ (ji5)) = true := decide_eq_true c6
      clear c6
      by_cases c7 : (ji5) ≤ (a0.size : Int)
      · rw [if_pos c7] at H
        have c7b0 := eq_true c7
        have c7b1 : decide ((ji5) ≤ (a0.size : Int)) = true := decide_eq_true c7
        clear c7
        simp only [Option.some.injEq, Prod.mk.injEq] at H
        obtain ⟨rfl, rfl⟩ := H
        go_enter Tryd.func36, Tryd.ntmps36
        go_wp2_with (first | ((with_reducible refine gate_callee (f := 53) rfl ?_); refine goesL_ (some 8) rfl rfl Tryd.func53 (by kernel_rfl) rfl #[.string a0, .string a1] rfl (by (try simp only [List.map_toArray, List.map_cons, List.map_nil]); first | done | rfl | (simp only [List.length_drop, List.length_take]; rfl)) ?_; (with_reducible refine (stringslite_HasSuffix.calls a0 a1 true _ A3.out).mono ?_); rintro e w' ⟨rfl, ⟨nd, rfl⟩⟩; refine ⟨_, rfl, ?_⟩))
        go_ret2
        exact ⟨by first | rfl | (simp; done) | (simp only [← hji5] <;> (first | rfl | simp)) | (simp [*]; done), by repeat (first | exact Drawn0.refl _ | apply Drawn0.step)⟩
      · rw [if_neg c7] at H
        exact absurd H (by simp)
    · rw [if_neg c6] at H
      exact absurd H (by simp)
  · replace c4 := Bool.eq_false_iff.mpr c4
    subst c4
    have H1 : (some (a0, false)) = some (r1, r2) := by rw [if_neg (show ¬ (false = true) by decide)] at H; exact H
    clear H
    have H := H1
    clear H1
    simp only [Option.some.injEq, Prod.mk.injEq] at H
    obtain ⟨rfl, rfl⟩ := H
    go_enter Tryd.func36, Tryd.ntmps36
    go_wp2_with (first | ((with_reducible refine gate_callee (f := 53) rfl ?_); refine goesL_ (some 8) rfl rfl Tryd.func53 (by kernel_rfl) rfl #[.string a0, .string a1] rfl (by (try simp only [List.map_toArray, List.map_cons, List.map_nil]); first | done | rfl | (simp only [List.length_drop, List.length_take]; rfl)) ?_; (with_reducible refine (stringslite_HasSuffix.calls a0 a1 false _ A3.out).mono ?_); rintro e w' ⟨rfl, ⟨nd, rfl⟩⟩; refine ⟨_, rfl, ?_⟩))
    go_ret2
    exact ⟨by first | rfl | (simp; done) | (simp [*]; done), by repeat (first | exact Drawn0.refl _ | apply Drawn0.step)⟩

/-! ### strings_CutSuffix: function 24 -/
def strings_CutSuffix.f (a0 : ByteArray) (a1 : ByteArray) : Option (ByteArray × Bool) := (stringslite_CutSuffix.f a0 a1).bind fun bt114 => (some (bt114.1, bt114.2))
set_option maxHeartbeats 8000000 in
set_option maxRecDepth 100000 in
theorem strings_CutSuffix.calls (a0 : ByteArray) (a1 : ByteArray) (r1 : ByteArray) (r2 : Bool) (w : World) (h : strings_CutSuffix.f a0 a1 = some (r1, r2)) :
    Calls Tryd.prog 24 #[.string a0, .string a1] w fun e w' => e = .returned (.tuple #[.string r1, .bool r2]) ∧ Drawn0 w w' := by
  have H : ((stringslite_CutSuffix.f a0 a1).bind fun bt114 => (some (bt114.1, bt114.2))) = some (r1, r2) := h
  clear h
  replace H := Option.bind_eq_some_iff.mp H
  obtain ⟨⟨t114, t115⟩, A30, H⟩ := H
  replace H : (some (t114, t115)) = some (r1, r2) := H
  have A3 := Aside0.mk A30
  clear A30
  simp only [Option.some.injEq, Prod.mk.injEq] at H
  obtain ⟨rfl, rfl⟩ := H
  go_enter Tryd.func24, Tryd.ntmps24
  go_wp2_with (first | ((with_reducible refine gate_callee (f := 36) rfl ?_); refine goesL_ (some 8) rfl rfl Tryd.func36 (by kernel_rfl) rfl #[.string a0, .string a1] rfl (by (try simp only [List.map_toArray, List.map_cons, List.map_nil]); first | done | rfl | (simp only [List.length_drop, List.length_take]; rfl)) ?_; (with_reducible refine (stringslite_CutSuffix.calls a0 a1 t114 t115 _ A3.out).mono ?_); rintro e w' ⟨rfl, ⟨nd, rfl⟩⟩; refine ⟨_, rfl, ?_⟩))
  go_ret2
  exact ⟨by first | rfl | (simp; done) | (simp [*]; done), by repeat (first | exact Drawn0.refl _ | apply Drawn0.step)⟩

/-! ### strings_Split: function 25 (its contract is typed by hand) -/
/-- The pieces of a row of bytes between those that are c. -/
def splitL (c : UInt8) : List UInt8 → List (List UInt8)
  | [] => [[]]
  | x :: xs => if x = c then [] :: splitL c xs else match splitL c xs with | [] => [[x]] | h :: t => (x :: h) :: t
theorem splitL_none (c : UInt8) : ∀ l : List UInt8, c ∉ l → splitL c l = [l]
  | [], _ => rfl
  | x :: xs, h => by
    have h1 : ¬ x = c := fun e => h (by rw [e]; exact List.mem_cons_self)
    have h2 := splitL_none c xs (fun e => h (List.mem_cons_of_mem _ e))
    simp [splitL, h1, h2]
theorem splitL_cut (c : UInt8) : ∀ (l r : List UInt8), c ∉ l → splitL c (l ++ c :: r) = l :: splitL c r
  | [], r, _ => by simp [splitL]
  | x :: xs, r, h => by
    have h1 : ¬ x = c := fun e => h (by rw [e]; exact List.mem_cons_self)
    have h2 := splitL_cut c xs r (fun e => h (List.mem_cons_of_mem _ e))
    simp [splitL, h1, h2]
theorem splitB_splitL (c : UInt8) : ∀ (k : Nat) (s : ByteArray), s.data.toList.count c = k → Lib.splitB ⟨#[c]⟩ 0 k s = (splitL c s.data.toList).map fun l => ⟨l.toArray⟩
  | 0, s, h => by
    rw [Lib.splitB_zero, splitL_none c _ (List.count_eq_zero.1 h)]
    rfl
  | k + 1, s, h => by
    have hm : c ∈ s.data.toList := List.count_pos_iff.1 (by omega)
    obtain ⟨i, hi⟩ : ∃ i : Nat, Lib.indexByte s.data.toList c = i := by
      rcases Int.lt_or_le (Lib.indexByte s.data.toList c) 0 with h1 | h1
      · have h2 := Lib.indexByte_ge s.data.toList c
        obtain ⟨j, hj, hj2⟩ := List.getElem_of_mem hm
        exact absurd (by rw [List.getElem?_eq_getElem hj, hj2]) (Lib.indexByte_none (show Lib.indexByte s.data.toList c = -1 by omega) j)
      · exact ⟨_, (Int.toNat_of_nonneg h1).symm⟩
    obtain ⟨h1, h2⟩ := Lib.indexByte_some hi
    have hib : Lib.indexB s ⟨#[c]⟩ = i := (Lib.index_one _ _).trans hi
    rw [Lib.splitB_hit _ _ _ _ _ hib]
    have hlt : i < s.data.toList.length := by
      rcases Nat.lt_or_ge i s.data.toList.length with h3 | h3
      · exact h3
      · rw [List.getElem?_eq_none h3] at h1; cases h1
    have hsp : s.data.toList = s.data.toList.take i ++ c :: s.data.toList.drop (i + 1) := by
      have h3 := List.getElem?_eq_getElem hlt
      rw [h1] at h3
      conv => lhs; rw [← List.take_append_drop i s.data.toList]
      rw [List.drop_eq_getElem_cons hlt, ← Option.some.inj h3]
    have hno : c ∉ s.data.toList.take i := fun hc => by
      obtain ⟨j, hj, hj2⟩ := List.getElem_of_mem hc
      rw [List.length_take] at hj
      rw [List.getElem_take] at hj2
      exact h2 j (by omega) (by rw [List.getElem?_eq_getElem (by omega), hj2])
    have hd : (s.extract (i + 1) s.size).data.toList = s.data.toList.drop (i + 1) := by
      rw [Lib.extract_data]
      exact List.take_of_length_le (by simp)
    have he : (s.extract 0 (i + 0)).data.toList = s.data.toList.take i := by
      rw [Lib.extract_data]; simp
    have hc : (s.data.toList.drop (i + 1)).count c = k := by
      rw [hsp, List.count_append, List.count_cons_self, List.count_eq_zero.2 hno] at h
      omega
    have ih := splitB_splitL c k (s.extract (i + 1) s.size) (by rw [hd]; exact hc)
    show s.extract 0 (i + 0) :: Lib.splitB ⟨#[c]⟩ 0 k (s.extract (i + 1) s.size) = _
    rw [ih, hd]
    conv => rhs; rw [hsp, splitL_cut c _ _ hno]
    rw [List.map_cons]
    congr 1
    rw [← he]
def strings_Split.f (a0 : ByteArray) (a1 : ByteArray) : Option (List ByteArray) := if a1.size = 1 ∧ a0.size < 4294967281 then some ((splitL (a1.data.toList.headD 0) a0.data.toList).map fun l => ⟨l.toArray⟩) else none
theorem row_strings (w : World) (cs : Array Value) (xs : List ByteArray) (hc : cs = (xs.map Value.string).toArray) (hn : xs.length ≤ maxLen) (hp : 0 < xs.length) (e : Nat) :
    Kd.R Kd.string e (w.alloc (.cells cs e)) w.heap.size (fun _ => True) (.slice (some ⟨w.heap.size, 0, none⟩) xs.length xs.length) xs := by
  refine Kd.R_of_own ?_ (fun _ _ => trivial)
  subst hc
  refine ⟨?_, .inr ⟨w.heap.size, xs.length, (xs.map Value.string).toArray, rfl, Nat.le_refl _, ?_, Nat.le_refl _, hn, ?_, ?_⟩⟩
  · simp [encs]
  · show (w.heap.push _)[w.heap.size]? = _
    rw [Array.getElem?_push, if_pos rfl]
  · simp
  · rw [Nat.mul_one]; exact List.take_of_length_le (by simp)
set_option maxHeartbeats 1000000 in
set_option maxRecDepth 100000 in
theorem strings_Split.calls (a0 : ByteArray) (a1 : ByteArray) (r : List ByteArray) (w : World) (h : strings_Split.f a0 a1 = some r) :
    Calls Tryd.prog 25 #[.string a0, .string a1] w fun e w' => ∃ v0_ : Value, e = .returned (v0_) ∧ Kd.R Kd.string 9 w' w.heap.size (fun _ => True) v0_ r ∧ Below w.heap.size w w' := by
  unfold strings_Split.f at h
  split at h
  case isFalse => cases h
  case isTrue hc =>
  obtain ⟨h1, hs⟩ := hc
  obtain ⟨c, rfl⟩ := Lib.one_byte a1 h1
  obtain rfl := Option.some.inj h
  clear h
  have hcount : Lib.countB a0 ⟨#[c]⟩ = a0.data.toList.count c := Lib.count_one c _
  have hspl := splitB_splitL c _ a0 rfl
  have hlen := Lib.splitB_all ⟨#[c]⟩ (Nat.le_refl 1) 0 _ a0 rfl
  rw [hcount] at hlen
  have hC : Calls Tryd.prog 55 #[.string a0, .string ⟨#[c]⟩] w fun e w' => e = .returned (.int .i64 (Lib.countB a0 ⟨#[c]⟩)) ∧ w' = w :=
    (Tryd.strings_Count_one a0 c w).mono fun e w' ⟨he, hw⟩ => ⟨by rw [he, hcount]; rfl, hw⟩
  have C := Any.strings_genSplit_core Tryd.lays221 info9 a0 ⟨#[c]⟩ 0 (-1) (Lib.countB a0 ⟨#[c]⟩ + 1) w hs (Nat.le_refl 1) (Nat.zero_le _)
    (fun x cs _ => (Tryd.strings_Index_one x c _).mono fun e w' ⟨he, hw⟩ => ⟨by rw [he]; show _ = Ending.returned (Value.int .i64 (Lib.index _ [c])); rw [Lib.index_one], hw⟩)
    hC (by decide) (by decide) (by rw [if_pos (by decide)]; have := List.count_le_length (a := c) (l := a0.data.toList); have e2 : a0.data.toList.length = a0.size := rfl; omega)
  rw [Nat.add_sub_cancel, hcount, hlen, hspl] at C
  generalize hxs : ((splitL c a0.data.toList).map fun l => (⟨l.toArray⟩ : ByteArray)) = xs at C
  have hl2 : xs.length = a0.data.toList.count c + 1 := by rw [← hxs, ← hspl, hlen]
  rw [← hl2, Lib.cellsOf_full] at C
  have hr : ((splitL ((⟨#[c]⟩ : ByteArray).data.toList.headD 0) a0.data.toList).map fun l => (⟨l.toArray⟩ : ByteArray)) = xs := hxs
  rw [hr]
  have hk := row_strings w _ xs rfl (by have := List.count_le_length (a := c) (l := a0.data.toList); have e2 : a0.data.toList.length = a0.size := rfl; unfold maxLen; omega) (by omega) 9
  have HK := Aside0.mk hk
  clear hk hr hxs hl2 hspl hlen hcount hC
  go_enter Tryd.func25, Tryd.ntmps25
  go_wp2_with (go_at_call 37; refine C.mono ?_; rintro e w' ⟨rfl, rfl⟩)
  go_ret
  exact ⟨_, rfl, HK.out, (Below.refl _ w).alloc (Nat.le_refl _) _⟩

/-! ### stringslite_HasPrefix: function 58 -/
def stringslite_HasPrefix.f (a0 : ByteArray) (a1 : ByteArray) : Option (Bool) := if (a0.size : Int) ≥ (a1.size : Int) then (if 0 ≤ (a1.size : Int) then (if (a1.size : Int) ≤ (a0.size : Int) then (some ((a0.extract 0 ((a1.size : Int) : Int).toNat).toList == a1.toList)) else (none)) else (none)) else (some false)
set_option maxHeartbeats 8000000 in
set_option maxRecDepth 100000 in
theorem stringslite_HasPrefix.calls (a0 : ByteArray) (a1 : ByteArray) (r : Bool) (w : World) (h : stringslite_HasPrefix.f a0 a1 = some r) :
    Calls Tryd.prog 58 #[.string a0, .string a1] w fun e w' => e = .returned (.bool r) ∧ Drawn0 w w' := by
  have H : (if (a0.size : Int) ≥ (a1.size : Int) then (if 0 ≤ (a1.size : Int) then (if (a1.size : Int) ≤ (a0.size : Int) then (some ((a0.extract 0 ((a1.size : Int) : Int).toNat).toList == a1.toList)) else (none)) else (none)) else (some false)) = some r := h
  clear h
  by_cases c3 : (a0.size : Int) ≥ (a1.size : Int)
  · rw [if_pos c3] at H
    have c3b0 : decide ((a1.size : Int) ≤ (a0.size : Int)) = true := decide_eq_true c3
    have c3b1 : decide (a1.size ≤ a0.size) = true := decide_eq_true (Int.ofNat_le.mp c3)
    clear c3
    by_cases c4 : 0 ≤ (a1.size : Int)
    · rw [if_pos c4] at H
      have c4b0 := eq_true c4
      have c4b1 : decide (0 ≤ (a1.size : Int)) = true := decide_eq_true c4
      clear c4
      by_cases c5 : (a1.size : Int) ≤ (a0.size : Int)
      · rw [if_pos c5] at H
        have c5b0 := eq_true c5
        have c5b1 : decide ((a1.size : Int) ≤ (a0.size : Int)) = true := decide_eq_true c5
        clear c5
        obtain rfl := Option.some.inj H
        simp only [Option.some.injEq, Prod.mk.injEq] at H
        obtain ⟨rfl⟩ := H
        go_enter Tryd.func58, Tryd.ntmps58
        go_wp2
        go_ret
        exact ⟨by first | rfl | (simp; done) | (simp [*]; done), by repeat (first | exact Drawn0.refl _ | apply Drawn0.step)⟩
      · rw [if_neg c5] at H
        exact absurd H (by simp)
    · rw [if_neg c4] at H
      exact absurd H (by simp)
  · rw [if_neg c3] at H
    have c3b0 : decide ((a1.size : Int) ≤ (a0.size : Int)) = false := decide_eq_false c3
    have c3b1 : decide (a1.size ≤ a0.size) = false := decide_eq_false (fun h => c3 (Int.ofNat_le.mpr h))
    clear c3
    obtain rfl := Option.some.inj H
    simp only [Option.some.injEq, Prod.mk.injEq] at H
    obtain ⟨rfl⟩ := H
    go_enter Tryd.func58, Tryd.ntmps58
    go_wp2
    go_ret
    exact ⟨by first | rfl | (simp; done) | (simp [*]; done), by repeat (first | exact Drawn0.refl _ | apply Drawn0.step)⟩

/-! ### stringslite_CutPrefix: function 39 -/
def stringslite_CutPrefix.f (a0 : ByteArray) (a1 : ByteArray) : Option (ByteArray × Bool) := (stringslite_HasPrefix.f a0 a1).bind fun t116 => (if t116 = true then (if 0 ≤ (a1.size : Int) then (if (a1.size : Int) ≤ (a0.size : Int) then (some (a0.extract ((a1.size : Int) : Int).toNat a0.size, true)) else (none)) else (none)) else (some (a0, false)))
set_option maxHeartbeats 8000000 in
set_option maxRecDepth 100000 in
theorem stringslite_CutPrefix.calls (a0 : ByteArray) (a1 : ByteArray) (r1 : ByteArray) (r2 : Bool) (w : World) (h : stringslite_CutPrefix.f a0 a1 = some (r1, r2)) :
    Calls Tryd.prog 39 #[.string a0, .string a1] w fun e w' => e = .returned (.tuple #[.string r1, .bool r2]) ∧ Drawn0 w w' := by
  have H : ((stringslite_HasPrefix.f a0 a1).bind fun t116 => (if t116 = true then (if 0 ≤ (a1.size : Int) then (if (a1.size : Int) ≤ (a0.size : Int) then (some (a0.extract ((a1.size : Int) : Int).toNat a0.size, true)) else (none)) else (none)) else (some (a0, false)))) = some (r1, r2) := h
  clear h
  replace H := Option.bind_eq_some_iff.mp H
  obtain ⟨t116, A30, H⟩ := H
  replace H : (if t116 = true then (if 0 ≤ (a1.size : Int) then (if (a1.size : Int) ≤ (a0.size : Int) then (some (a0.extract ((a1.size : Int) : Int).toNat a0.size, true)) else (none)) else (none)) else (some (a0, false))) = some (r1, r2) := H
  have A3 := Aside0.mk A30
  clear A30
  by_cases c4 : t116 = true
  · subst c4
    have H1 : (if 0 ≤ (a1.size : Int) then (if (a1.size : Int) ≤ (a0.size : Int) then (some (a0.extract ((a1.size : Int) : Int).toNat a0.size, true)) else (none)) else (none)) = some (r1, r2) := by rw [if_pos rfl] at H; exact H
    clear H
    have H := H1
    clear H1
    by_cases c5 : 0 ≤ (a1.size : Int)
    · rw [if_pos c5] at H
      have c5b0 := eq_true c5
      have c5b1 : decide (0 ≤ (a1.size : Int)) = true := decide_eq_true c5
      clear c5
      by_cases c6 : (a1.size : Int) ≤ (a0.size : Int)
      · rw [if_pos c6] at H
        have c6b0 := eq_true c6
        have c6b1 : decide ((a1.size : Int) ≤ (a0.size : Int)) = true := decide_eq_true c6
        clear c6
        simp only [Option.some.injEq, Prod.mk.injEq] at H
        obtain ⟨rfl, rfl⟩ := H
        go_enter Tryd.func39, Tryd.ntmps39
        go_wp2_with (first | ((with_reducible refine gate_callee (f := 58) rfl ?_); refine goesL_ (some 8) rfl rfl Tryd.func58 (by kernel_rfl) rfl #[.string a0, .string a1] rfl (by (try simp only [List.map_toArray, List.map_cons, List.map_nil]); first | done | rfl | (simp only [List.length_drop, List.length_take]; rfl)) ?_; (with_reducible refine (stringslite_HasPrefix.calls a0 a1 true _ A3.out).mono ?_); rintro e w' ⟨rfl, ⟨nd, rfl⟩⟩; refine ⟨_, rfl, ?_⟩))
        go_ret2
        exact ⟨by first | rfl | (simp; done) | (simp [*]; done), by repeat (first | exact Drawn0.refl _ | apply Drawn0.step)⟩
      · rw [if_neg c6] at H
        exact absurd H (by simp)
    · rw [if_neg c5] at H
      exact absurd H (by simp)
  · replace c4 := Bool.eq_false_iff.mpr c4
    subst c4
    have H1 : (some (a0, false)) = some (r1, r2) := by rw [if_neg (show ¬ (false = true) by decide)] at H; exact H
    clear H
    have H := H1
    clear H1
    simp only [Option.some.injEq, Prod.mk.injEq] at H
    obtain ⟨rfl, rfl⟩ := H
    go_enter Tryd.func39, Tryd.ntmps39
    go_wp2_with (first | ((with_reducible refine gate_callee (f := 58) rfl ?_); refine goesL_ (some 8) rfl rfl Tryd.func58 (by kernel_rfl) rfl #[.string a0, .string a1] rfl (by (try simp only [List.map_toArray, List.map_cons, List.map_nil]); first | done | rfl | (simp only [List.length_drop, List.length_take]; rfl)) ?_; (with_reducible refine (stringslite_HasPrefix.calls a0 a1 false _ A3.out).mono ?_); rintro e w' ⟨rfl, ⟨nd, rfl⟩⟩; refine ⟨_, rfl, ?_⟩))
    go_ret2
    exact ⟨by first | rfl | (simp; done) | (simp [*]; done), by repeat (first | exact Drawn0.refl _ | apply Drawn0.step)⟩

/-! ### strings_CutPrefix: function 29 -/
def strings_CutPrefix.f (a0 : ByteArray) (a1 : ByteArray) : Option (ByteArray × Bool) := (stringslite_CutPrefix.f a0 a1).bind fun bt117 => (some (bt117.1, bt117.2))
set_option maxHeartbeats 8000000 in
set_option maxRecDepth 100000 in
theorem strings_CutPrefix.calls (a0 : ByteArray) (a1 : ByteArray) (r1 : ByteArray) (r2 : Bool) (w : World) (h : strings_CutPrefix.f a0 a1 = some (r1, r2)) :
    Calls Tryd.prog 29 #[.string a0, .string a1] w fun e w' => e = .returned (.tuple #[.string r1, .bool r2]) ∧ Drawn0 w w' := by
  have H : ((stringslite_CutPrefix.f a0 a1).bind fun bt117 => (some (bt117.1, bt117.2))) = some (r1, r2) := h
  clear h
  replace H := Option.bind_eq_some_iff.mp H
  obtain ⟨⟨t117, t118⟩, A30, H⟩ := H
  replace H : (some (t117, t118)) = some (r1, r2) := H
  have A3 := Aside0.mk A30
  clear A30
  simp only [Option.some.injEq, Prod.mk.injEq] at H
  obtain ⟨rfl, rfl⟩ := H
  go_enter Tryd.func29, Tryd.ntmps29
  go_wp2_with (first | ((with_reducible refine gate_callee (f := 39) rfl ?_); refine goesL_ (some 8) rfl rfl Tryd.func39 (by kernel_rfl) rfl #[.string a0, .string a1] rfl (by (try simp only [List.map_toArray, List.map_cons, List.map_nil]); first | done | rfl | (simp only [List.length_drop, List.length_take]; rfl)) ?_; (with_reducible refine (stringslite_CutPrefix.calls a0 a1 t117 t118 _ A3.out).mono ?_); rintro e w' ⟨rfl, ⟨nd, rfl⟩⟩; refine ⟨_, rfl, ?_⟩))
  go_ret2
  exact ⟨by first | rfl | (simp; done) | (simp [*]; done), by repeat (first | exact Drawn0.refl _ | apply Drawn0.step)⟩

end Go.Proofs.YtdnahkeiidbihaaDoor.PArmor
