-- Written by wip/xprint of this repo (not trusted: Lean checks it).
import Derived.Test.YtodeagijmfoojaaDoorPClockx0
import Derived.Test.YtodeagijmfoojaaDoorPClockx4
namespace Go.Proofs.YtodeagijmfoojaaDoor.PClock
open Go.RowKit Go.Proofs.YtodeagijmfoojaaDoorW.PrintWords Go.Proofs.YtodeagijmfoojaaDoorW.PrintLast Go.Proofs.YtodeagijmfoojaaDoorW.PrintMore
attribute [local go_sem] max2_int min2_int max_two min_two max_three min_three max_four min_four   -- for this text's walks alone
set_option linter.unusedVariables false
set_option linter.unusedSimpArgs false

/-! ### montageref41_digits: function 25 -/
def montageref41_digits.l0 : Nat → Int → Int → ByteArray → Int → Option (ByteArray)
  | 0, _, _, _, _ => none
  | k + 1, x0, x1, x5, x6 => if x6 < x1 then ((some (([(wrap64 (48 + (Int.tmod x0 10))) % 256] : List Int) : List Int)).bind fun y159 => (if (strOfNums y159).size + x5.size ≤ 9223372036854775807 then (montageref41_digits.l0 k (wrap64 (Int.tdiv x0 10)) x1 ((strOfNums y159) ++ x5) (wrap64 (x6 + 1))) else (none))) else (some x5)
def montageref41_digits.f (k : Nat) (a0 : Int) (a1 : Int) : Option (ByteArray) := montageref41_digits.l0 k a0 a1 (⟨#[]⟩ : ByteArray) 0
theorem montageref41_digits.mono_l : ∀ k, (∀ y0 y1 y2 y3, LeO (montageref41_digits.l0 k y0 y1 y2 y3) (montageref41_digits.l0 (k + 1) y0 y1 y2 y3))
  | 0 => fun _ _ _ _ r h => by simp [montageref41_digits.l0] at h
  | k + 1 => by
    have ih0 := montageref41_digits.mono_l k
    · intro y0 y1 y2 y3
      unfold montageref41_digits.l0
      repeat' first
      | (with_reducible exact ih0 _ _ _ _)
      | (with_reducible exact LeO.refl _)
      | (with_reducible exact LeO.none _)
      | (with_reducible refine LeO.ite ?_ ?_)
      | (with_reducible refine LeO.bind ?_ (fun _ => ?_))
      | exact ih0 _ _ _ _
      | exact LeO.none _
      | refine LeO.ite ?_ ?_
      | refine LeO.bind ?_ (fun _ => ?_)
theorem montageref41_digits.mono : ∀ a0 a1 k, LeO (montageref41_digits.f k a0 a1) (montageref41_digits.f (k + 1) a0 a1) := by
  intro a0 a1 k
  have ih0 := montageref41_digits.mono_l k
  unfold montageref41_digits.f
  repeat' first
      | (with_reducible exact ih0 _ _ _ _)
      | (with_reducible exact LeO.refl _)
      | (with_reducible exact LeO.none _)
      | (with_reducible refine LeO.ite ?_ ?_)
      | (with_reducible refine LeO.bind ?_ (fun _ => ?_))
      | exact ih0 _ _ _ _
      | exact LeO.none _
      | refine LeO.ite ?_ ?_
      | refine LeO.bind ?_ (fun _ => ?_)
set_option maxHeartbeats 8000000 in
set_option maxRecDepth 100000 in
theorem montageref41_digits.calls (k : Nat) (a0 : Int) (a1 : Int) (r : ByteArray) (w : World) (h : montageref41_digits.f k a0 a1 = some r) :
    Calls Tryd.prog 25 #[.int .i64 a0, .int .i64 a1] w fun e w' => e = .returned (.string r) ∧ Below w.heap.size w w' := by
  have HB := Aside0.mk (Below.refl w.heap.size w)
  have H : (montageref41_digits.l0 k a0 a1 (⟨#[]⟩ : ByteArray) 0) = some r := h
  clear h
  have H' := Aside0.mk H
  clear H
  go_enter Tryd.func25, Tryd.ntmps25
  go_wp2
  go_loopg [0, 5, 6] k (fun kq v0 v5 v6 w' => ∃ (x0_1 : Int) (x5_1 : ByteArray) (x6_1 : Int), v0 = .int .i64 x0_1 ∧ v5 = .string x5_1 ∧ v6 = .int .i64 x6_1 ∧ Aside0 (montageref41_digits.l0 kq x0_1 a1 x5_1 x6_1 = some r) ∧ Aside0 (kq ≤ k) ∧ Aside0 (Below w.heap.size w w'))
  case atStart => exact ⟨(a0), ((⟨#[]⟩ : ByteArray)), (0), (by first | rfl | (simp; done) | (simp [*]; done)), (by first | rfl | (simp; done) | (simp [*]; done)), (by first | rfl | (simp; done) | (simp [*]; done)), H', ⟨Nat.le_refl _⟩, ⟨by repeat (first | (with_reducible first | exact HB.out | apply below_alloc | apply pw_below_drewN | apply below_drew1) | exact HB.out)⟩⟩
  case round =>
    clear H'
    try clear c2
    try clear p2
    obtain ⟨x0_1, x5_1, x6_1, rfl, rfl, rfl, HA, HK1, HB⟩ := hrel
    cases gk with
    | zero => exact absurd HA.out (by simp [montageref41_digits.l0])
    | succ k1 =>
      have H := HA.out
      clear HA
      simp only [montageref41_digits.l0] at H
      by_cases c3 : x6_1 < a1
      · rw [if_pos c3] at H
        have c3b0 : decide (x6_1 < a1) = true := decide_eq_true c3
        clear c3
        obtain ⟨y159, hy159⟩ : ∃ y_ : List Int, y_ = (([(wrap64 (48 + (Int.tmod x0_1 10))) % 256] : List Int)) := ⟨_, rfl⟩
        replace H : (if (strOfNums y159).size + x5_1.size ≤ 9223372036854775807 then (montageref41_digits.l0 k1 (wrap64 (Int.tdiv x0_1 10)) a1 ((strOfNums y159) ++ x5_1) (wrap64 (x6_1 + 1))) else (none)) = some r := by first | (rw [hy159]; with_reducible exact H) | (have H2_ := (Option.bind_some _ _).symm.trans H; rw [hy159]; with_reducible exact H2_) | (have H2_ := (Option.bind_some _ _).symm.trans H; with_reducible exact H2_) | with_reducible exact H | (rw [hy159]; exact H) | exact H
        have Ny159 := Aside0.mk hy159
        clear hy159
        by_cases c4 : (strOfNums y159).size + x5_1.size ≤ 9223372036854775807
        · rw [if_pos c4] at H
          have c4b0 := eq_true c4
          have c4b1 : decide ((strOfNums y159).size + x5_1.size ≤ 9223372036854775807) = true := decide_eq_true c4
          try have c4b2 : (9223372036854775807 < (strOfNums y159).size + x5_1.size) = False := eq_false (Nat.not_lt.2 c4)
          have H' := Aside0.mk H
          clear H
          go_wp2_with (first | ((with_reducible refine gate_dst (N := 16) rfl ?_); refine Kd.R_lit (Kd.int .u8) _ 5 ?hg (N := 16) ?hd (xs := ([(wrap64 (48 + (Int.tmod x0_1 10))) % 256] : List Int)) (inner := [.int .u8 ((wrap64 (48 + (Int.tmod x0_1 10))) % 256)]) (ok := fun _ => True) (okp := fun _ => True) ?hr ?hp (fun _ hk => hk) trivial (Below.refl _ _) (Nat.le_refl _) (by simp) ?_; (case hd => rfl); (case hg => rfl); (case hr => first | (go_simp; done) | (go_simp; rfl)); (case hp => exact (Reps.one (show Kd.M (Kd.int .u8) _ _ _ ((wrap64 (48 + (Int.tmod x0_1 10))) % 256) [.int .u8 ((wrap64 (48 + (Int.tmod x0_1 10))) % 256)] from rfl) (Reps.none _ _))); intro v160 w5 ho6 hb hg_ hnew_; clear hg_ hnew_; (first | rw [← Ny159.out] at ho6 | (simp only [Int.reduceToNat] at ho6; rw [← Ny159.out] at ho6)); have n0_ := Aside0.mk (Kd.R_lower ho6 (below_size (by repeat (first | (with_reducible first | exact HB.out | apply below_alloc | apply pw_below_drewN | apply below_drew1) | exact HB.out)))); have n1_ := Aside0.mk (below_step (by repeat (first | (with_reducible first | exact HB.out | apply below_alloc | apply pw_below_drewN | apply below_drew1) | exact HB.out)) hb); clear HB; have HO161 := n0_; have HB := n1_; clear n0_ n1_; clear hb ho6; have hcv7 := own_string (P := Tryd.prog) Tryd.underlying58 Tryd.underlying5 Tryd.underlying9 (Kd.own_of_R HO161.out)))
          go_roundg k1
          case measure => have := HK1.out; omega
          case rel => exact ⟨(wrap64 (Int.tdiv x0_1 10)), ((strOfNums y159) ++ x5_1), (wrap64 (x6_1 + 1)), (by first | rfl | (simp; done) | (simp [*]; done)), (by first | rfl | (simp; done) | (simp [*]; done)), (by first | rfl | (simp; done) | (simp [*]; done)), H', ⟨by have := HK1.out; omega⟩, ⟨by repeat (first | (with_reducible first | exact HB.out | apply below_alloc | apply pw_below_drewN | apply below_drew1) | exact HB.out)⟩⟩
        · rw [if_neg c4] at H
          exact absurd H (by simp)
      · rw [if_neg c3] at H
        have c3b0 : decide (x6_1 < a1) = false := decide_eq_false c3
        clear c3
        obtain rfl := Option.some.inj H
        go_wp2
        go_ret
        exact ⟨by first | rfl | (simp [errW_none, errW_some] <;> rfl) | (simp [*, errW_none, errW_some] <;> rfl), by repeat (first | (with_reducible first | exact HB.out | apply below_alloc | apply pw_below_drewN | apply below_drew1) | exact HB.out)⟩

/-! ### montageref41_Text: function 13 -/
def montageref41_Text.f (k : Nat) (a0_0 : Int) (a0_1 : Int) (a0_2 : Int) (a0_3 : Int) (a0_4 : Int) (a0_5 : Int) : Option (ByteArray) := (montageref41_digits.f k a0_0 4).bind fun t163 => (if t163.size + 1 ≤ 9223372036854775807 then ((montageref41_digits.f k a0_1 2).bind fun t164 => (if (t163 ++ (⟨#[45]⟩ : ByteArray)).size + t164.size ≤ 9223372036854775807 then (if ((t163 ++ (⟨#[45]⟩ : ByteArray)) ++ t164).size + 1 ≤ 9223372036854775807 then ((montageref41_digits.f k a0_2 2).bind fun t165 => (if (((t163 ++ (⟨#[45]⟩ : ByteArray)) ++ t164) ++ (⟨#[45]⟩ : ByteArray)).size + t165.size ≤ 9223372036854775807 then (if ((((t163 ++ (⟨#[45]⟩ : ByteArray)) ++ t164) ++ (⟨#[45]⟩ : ByteArray)) ++ t165).size + 1 ≤ 9223372036854775807 then ((montageref41_digits.f k a0_3 2).bind fun t166 => (if (((((t163 ++ (⟨#[45]⟩ : ByteArray)) ++ t164) ++ (⟨#[45]⟩ : ByteArray)) ++ t165) ++ (⟨#[32]⟩ : ByteArray)).size + t166.size ≤ 9223372036854775807 then (if ((((((t163 ++ (⟨#[45]⟩ : ByteArray)) ++ t164) ++ (⟨#[45]⟩ : ByteArray)) ++ t165) ++ (⟨#[32]⟩ : ByteArray)) ++ t166).size + 1 ≤ 9223372036854775807 then ((montageref41_digits.f k a0_4 2).bind fun t167 => (if (((((((t163 ++ (⟨#[45]⟩ : ByteArray)) ++ t164) ++ (⟨#[45]⟩ : ByteArray)) ++ t165) ++ (⟨#[32]⟩ : ByteArray)) ++ t166) ++ (⟨#[58]⟩ : ByteArray)).size + t167.size ≤ 9223372036854775807 then (if ((((((((t163 ++ (⟨#[45]⟩ : ByteArray)) ++ t164) ++ (⟨#[45]⟩ : ByteArray)) ++ t165) ++ (⟨#[32]⟩ : ByteArray)) ++ t166) ++ (⟨#[58]⟩ : ByteArray)) ++ t167).size + 1 ≤ 9223372036854775807 then ((montageref41_digits.f k a0_5 2).bind fun t168 => (if (((((((((t163 ++ (⟨#[45]⟩ : ByteArray)) ++ t164) ++ (⟨#[45]⟩ : ByteArray)) ++ t165) ++ (⟨#[32]⟩ : ByteArray)) ++ t166) ++ (⟨#[58]⟩ : ByteArray)) ++ t167) ++ (⟨#[58]⟩ : ByteArray)).size + t168.size ≤ 9223372036854775807 then (some ((((((((((t163 ++ (⟨#[45]⟩ : ByteArray)) ++ t164) ++ (⟨#[45]⟩ : ByteArray)) ++ t165) ++ (⟨#[32]⟩ : ByteArray)) ++ t166) ++ (⟨#[58]⟩ : ByteArray)) ++ t167) ++ (⟨#[58]⟩ : ByteArray)) ++ t168)) else (none))) else (none)) else (none))) else (none)) else (none))) else (none)) else (none))) else (none)) else (none))) else (none))
theorem montageref41_Text.mono : ∀ a0 a1 a2 a3 a4 a5 k, LeO (montageref41_Text.f k a0 a1 a2 a3 a4 a5) (montageref41_Text.f (k + 1) a0 a1 a2 a3 a4 a5) := by
  intro a0 a1 a2 a3 a4 a5 k
  unfold montageref41_Text.f
  repeat' first
      | (with_reducible exact montageref41_digits.mono _ _ _)
      | (with_reducible exact LeO.refl _)
      | (with_reducible exact LeO.none _)
      | (with_reducible refine LeO.ite ?_ ?_)
      | (with_reducible refine LeO.bind ?_ (fun _ => ?_))
      | exact montageref41_digits.mono _ _ _
      | exact LeO.none _
      | refine LeO.ite ?_ ?_
      | refine LeO.bind ?_ (fun _ => ?_)
def montageref41_Text.T1 : Bool × List (List Nat × List Nat) := (true, [([], []), ([0], [0]), ([1], [1]), ([2], [2]), ([], []), ([4], [4]), ([5, 2], [5]), ([3, 6], [3, 6]), ([7], [7]), ([], []), ([9], [9]), ([10, 6], [10]), ([8, 11], [8, 11]), ([12], [12]), ([], []), ([14], [14]), ([15, 11], [15]), ([13, 16], [13, 16]), ([17], [17]), ([], []), ([19], [19]), ([20, 16], [20]), ([18, 21], [18, 21]), ([22], [22]), ([], []), ([24], [24]), ([25, 21], [25]), ([23, 26], [23, 26]), ([27, 26, 0, 1, 2, 3, 4, 5, 6, 7, 8, 9, 10, 11, 12, 13, 14, 15, 16, 17, 18, 19, 20, 21, 22, 23, 24, 25, 26, 27], [27])])
def montageref41_Text.B1 : List Nat := [0, 1, 3, 7, 0, 16, 55, 127, 255, 0, 512, 1655, 4095, 8191, 0, 16384, 52855, 131071, 262143, 0, 524288, 1691255, 4194303, 8388607, 0, 16777216, 54120055, 134217727, 268435455]
theorem montageref41_Text.tab1 : rtab .any (opsOf Tryd.f13 1) = montageref41_Text.T1 := by kernel_rfl
theorem montageref41_Text.bits1 : waitsOk montageref41_Text.T1.2 montageref41_Text.B1 = true := by kernel_rfl
set_option maxHeartbeats 8000000 in
set_option maxRecDepth 100000 in
theorem montageref41_Text.calls (k : Nat) (a0_0 : Int) (a0_1 : Int) (a0_2 : Int) (a0_3 : Int) (a0_4 : Int) (a0_5 : Int) (r : ByteArray) (w : World) (h : montageref41_Text.f k a0_0 a0_1 a0_2 a0_3 a0_4 a0_5 = some r) :
    Calls Tryd.prog 13 #[.agg #[.int .i64 a0_0, .int .i64 a0_1, .int .i64 a0_2, .int .i64 a0_3, .int .i64 a0_4, .int .i64 a0_5]] w fun e w' => e = .returned (.string r) ∧ Below w.heap.size w w' := by
  have hu23 := Tryd.underlying23
  have HB := Aside0.mk (Below.refl w.heap.size w)
  have H : ((montageref41_digits.f k a0_0 4).bind fun t163 => (if t163.size + 1 ≤ 9223372036854775807 then ((montageref41_digits.f k a0_1 2).bind fun t164 => (if (t163 ++ (⟨#[45]⟩ : ByteArray)).size + t164.size ≤ 9223372036854775807 then (if ((t163 ++ (⟨#[45]⟩ : ByteArray)) ++ t164).size + 1 ≤ 9223372036854775807 then ((montageref41_digits.f k a0_2 2).bind fun t165 => (if (((t163 ++ (⟨#[45]⟩ : ByteArray)) ++ t164) ++ (⟨#[45]⟩ : ByteArray)).size + t165.size ≤ 9223372036854775807 then (if ((((t163 ++ (⟨#[45]⟩ : ByteArray)) ++ t164) ++ (⟨#[45]⟩ : ByteArray)) ++ t165).size + 1 ≤ 9223372036854775807 then ((montageref41_digits.f k a0_3 2).bind fun t166 => (if (((((t163 ++ (⟨#[45]⟩ : ByteArray)) ++ t164) ++ (⟨#[45]⟩ : ByteArray)) ++ t165) ++ (⟨#[32]⟩ : ByteArray)).size + t166.size ≤ 9223372036854775807 then (if ((((((t163 ++ (⟨#[45]⟩ : ByteArray)) ++ t164) ++ (⟨#[45]⟩ : ByteArray)) ++ t165) ++ (⟨#[32]⟩ : ByteArray)) ++ t166).size + 1 ≤ 9223372036854775807 then ((montageref41_digits.f k a0_4 2).bind fun t167 => (if (((((((t163 ++ (⟨#[45]⟩ : ByteArray)) ++ t164) ++ (⟨#[45]⟩ : ByteArray)) ++ t165) ++ (⟨#[32]⟩ : ByteArray)) ++ t166) ++ (⟨#[58]⟩ : ByteArray)).size + t167.size ≤ 9223372036854775807 then (if ((((((((t163 ++ (⟨#[45]⟩ : ByteArray)) ++ t164) ++ (⟨#[45]⟩ : ByteArray)) ++ t165) ++ (⟨#[32]⟩ : ByteArray)) ++ t166) ++ (⟨#[58]⟩ : ByteArray)) ++ t167).size + 1 ≤ 9223372036854775807 then ((montageref41_digits.f k a0_5 2).bind fun t168 => (if (((((((((t163 ++ (⟨#[45]⟩ : ByteArray)) ++ t164) ++ (⟨#[45]⟩ : ByteArray)) ++ t165) ++ (⟨#[32]⟩ : ByteArray)) ++ t166) ++ (⟨#[58]⟩ : ByteArray)) ++ t167) ++ (⟨#[58]⟩ : ByteArray)).size + t168.size ≤ 9223372036854775807 then (some ((((((((((t163 ++ (⟨#[45]⟩ : ByteArray)) ++ t164) ++ (⟨#[45]⟩ : ByteArray)) ++ t165) ++ (⟨#[32]⟩ : ByteArray)) ++ t166) ++ (⟨#[58]⟩ : ByteArray)) ++ t167) ++ (⟨#[58]⟩ : ByteArray)) ++ t168)) else (none))) else (none)) else (none))) else (none)) else (none))) else (none)) else (none))) else (none)) else (none))) else (none))) = some r := h
  clear h
  replace H := Option.bind_eq_some_iff.mp H
  obtain ⟨t163, A20, H⟩ := H
  replace H : (if t163.size + 1 ≤ 9223372036854775807 then ((montageref41_digits.f k a0_1 2).bind fun t164 => (if (t163 ++ (⟨#[45]⟩ : ByteArray)).size + t164.size ≤ 9223372036854775807 then (if ((t163 ++ (⟨#[45]⟩ : ByteArray)) ++ t164).size + 1 ≤ 9223372036854775807 then ((montageref41_digits.f k a0_2 2).bind fun t165 => (if (((t163 ++ (⟨#[45]⟩ : ByteArray)) ++ t164) ++ (⟨#[45]⟩ : ByteArray)).size + t165.size ≤ 9223372036854775807 then (if ((((t163 ++ (⟨#[45]⟩ : ByteArray)) ++ t164) ++ (⟨#[45]⟩ : ByteArray)) ++ t165).size + 1 ≤ 9223372036854775807 then ((montageref41_digits.f k a0_3 2).bind fun t166 => (if (((((t163 ++ (⟨#[45]⟩ : ByteArray)) ++ t164) ++ (⟨#[45]⟩ : ByteArray)) ++ t165) ++ (⟨#[32]⟩ : ByteArray)).size + t166.size ≤ 9223372036854775807 then (if ((((((t163 ++ (⟨#[45]⟩ : ByteArray)) ++ t164) ++ (⟨#[45]⟩ : ByteArray)) ++ t165) ++ (⟨#[32]⟩ : ByteArray)) ++ t166).size + 1 ≤ 9223372036854775807 then ((montageref41_digits.f k a0_4 2).bind fun t167 => (if (((((((t163 ++ (⟨#[45]⟩ : ByteArray)) ++ t164) ++ (⟨#[45]⟩ : ByteArray)) ++ t165) ++ (⟨#[32]⟩ : ByteArray)) ++ t166) ++ (⟨#[58]⟩ : ByteArray)).size + t167.size ≤ 9223372036854775807 then (if ((((((((t163 ++ (⟨#[45]⟩ : ByteArray)) ++ t164) ++ (⟨#[45]⟩ : ByteArray)) ++ t165) ++ (⟨#[32]⟩ : ByteArray)) ++ t166) ++ (⟨#[58]⟩ : ByteArray)) ++ t167).size + 1 ≤ 9223372036854775807 then ((montageref41_digits.f k a0_5 2).bind fun t168 => (if (((((((((t163 ++ (⟨#[45]⟩ : ByteArray)) ++ t164) ++ (⟨#[45]⟩ : ByteArray)) ++ t165) ++ (⟨#[32]⟩ : ByteArray)) ++ t166) ++ (⟨#[58]⟩ : ByteArray)) ++ t167) ++ (⟨#[58]⟩ : ByteArray)).size + t168.size ≤ 9223372036854775807 then (some ((((((((((t163 ++ (⟨#[45]⟩ : ByteArray)) ++ t164) ++ (⟨#[45]⟩ : ByteArray)) ++ t165) ++ (⟨#[32]⟩ : ByteArray)) ++ t166) ++ (⟨#[58]⟩ : ByteArray)) ++ t167) ++ (⟨#[58]⟩ : ByteArray)) ++ t168)) else (none))) else (none)) else (none))) else (none)) else (none))) else (none)) else (none))) else (none)) else (none))) else (none)) = some r := H
  have A2 := Aside0.mk A20
  clear A20
  by_cases c3 : t163.size + 1 ≤ 9223372036854775807
  · rw [if_pos c3] at H
    have c3b0 := eq_true c3
    have c3b1 : decide (t163.size + 1 ≤ 9223372036854775807) = true := decide_eq_true c3
    try have c3b2 : (9223372036854775807 < t163.size + 1) = False := eq_false (Nat.not_lt.2 c3)
    replace H := Option.bind_eq_some_iff.mp H
    obtain ⟨t164, A40, H⟩ := H
    replace H : (if (t163 ++ (⟨#[45]⟩ : ByteArray)).size + t164.size ≤ 9223372036854775807 then (if ((t163 ++ (⟨#[45]⟩ : ByteArray)) ++ t164).size + 1 ≤ 9223372036854775807 then ((montageref41_digits.f k a0_2 2).bind fun t165 => (if (((t163 ++ (⟨#[45]⟩ : ByteArray)) ++ t164) ++ (⟨#[45]⟩ : ByteArray)).size + t165.size ≤ 9223372036854775807 then (if ((((t163 ++ (⟨#[45]⟩ : ByteArray)) ++ t164) ++ (⟨#[45]⟩ : ByteArray)) ++ t165).size + 1 ≤ 9223372036854775807 then ((montageref41_digits.f k a0_3 2).bind fun t166 => (if (((((t163 ++ (⟨#[45]⟩ : ByteArray)) ++ t164) ++ (⟨#[45]⟩ : ByteArray)) ++ t165) ++ (⟨#[32]⟩ : ByteArray)).size + t166.size ≤ 9223372036854775807 then (if ((((((t163 ++ (⟨#[45]⟩ : ByteArray)) ++ t164) ++ (⟨#[45]⟩ : ByteArray)) ++ t165) ++ (⟨#[32]⟩ : ByteArray)) ++ t166).size + 1 ≤ 9223372036854775807 then ((montageref41_digits.f k a0_4 2).bind fun t167 => (if (((((((t163 ++ (⟨#[45]⟩ : ByteArray)) ++ t164) ++ (⟨#[45]⟩ : ByteArray)) ++ t165) ++ (⟨#[32]⟩ : ByteArray)) ++ t166) ++ (⟨#[58]⟩ : ByteArray)).size + t167.size ≤ 9223372036854775807 then (if ((((((((t163 ++ (⟨#[45]⟩ : ByteArray)) ++ t164) ++ (⟨#[45]⟩ : ByteArray)) ++ t165) ++ (⟨#[32]⟩ : ByteArray)) ++ t166) ++ (⟨#[58]⟩ : ByteArray)) ++ t167).size + 1 ≤ 9223372036854775807 then ((montageref41_digits.f k a0_5 2).bind fun t168 => (if (((((((((t163 ++ (⟨#[45]⟩ : ByteArray)) ++ t164) ++ (⟨#[45]⟩ : ByteArray)) ++ t165) ++ (⟨#[32]⟩ : ByteArray)) ++ t166) ++ (⟨#[58]⟩ : ByteArray)) ++ t167) ++ (⟨#[58]⟩ : ByteArray)).size + t168.size ≤ 9223372036854775807 then (some ((((((((((t163 ++ (⟨#[45]⟩ : ByteArray)) ++ t164) ++ (⟨#[45]⟩ : ByteArray)) ++ t165) ++ (⟨#[32]⟩ : ByteArray)) ++ t166) ++ (⟨#[58]⟩ : ByteArray)) ++ t167) ++ (⟨#[58]⟩ : ByteArray)) ++ t168)) else (none))) else (none)) else (none))) else (none)) else (none))) else (none)) else (none))) else (none)) else (none)) = some r := H
    have A4 := Aside0.mk A40
    clear A40
    by_cases c5 : (t163 ++ (⟨#[45]⟩ : ByteArray)).size + t164.size ≤ 9223372036854775807
    · rw [if_pos c5] at H
      have c5b0 := eq_true c5
      have c5b1 : decide ((t163 ++ (⟨#[45]⟩ : ByteArray)).size + t164.size ≤ 9223372036854775807) = true := decide_eq_true c5
      try have c5b2 : (9223372036854775807 < (t163 ++ (⟨#[45]⟩ : ByteArray)).size + t164.size) = False := eq_false (Nat.not_lt.2 c5)
      try (have c5b3 := c5; simp only [xfix_one, ByteArray.size_append] at c5b3; replace c5b3 := eq_false (Nat.not_lt.2 c5b3))
      by_cases c6 : ((t163 ++ (⟨#[45]⟩ : ByteArray)) ++ t164).size + 1 ≤ 9223372036854775807
      · rw [if_pos c6] at H
        have c6b0 := eq_true c6
        have c6b1 : decide (((t163 ++ (⟨#[45]⟩ : ByteArray)) ++ t164).size + 1 ≤ 9223372036854775807) = true := decide_eq_true c6
        try have c6b2 : (9223372036854775807 < ((t163 ++ (⟨#[45]⟩ : ByteArray)) ++ t164).size + 1) = False := eq_false (Nat.not_lt.2 c6)
        try (have c6b3 := c6; simp only [xfix_one, ByteArray.size_append] at c6b3; replace c6b3 := eq_false (Nat.not_lt.2 c6b3))
        replace H := Option.bind_eq_some_iff.mp H
        obtain ⟨t165, A70, H⟩ := H
        replace H : (if (((t163 ++ (⟨#[45]⟩ : ByteArray)) ++ t164) ++ (⟨#[45]⟩ : ByteArray)).size + t165.size ≤ 9223372036854775807 then (if ((((t163 ++ (⟨#[45]⟩ : ByteArray)) ++ t164) ++ (⟨#[45]⟩ : ByteArray)) ++ t165).size + 1 ≤ 9223372036854775807 then ((montageref41_digits.f k a0_3 2).bind fun t166 => (if (((((t163 ++ (⟨#[45]⟩ : ByteArray)) ++ t164) ++ (⟨#[45]⟩ : ByteArray)) ++ t165) ++ (⟨#[32]⟩ : ByteArray)).size + t166.size ≤ 9223372036854775807 then (if ((((((t163 ++ (⟨#[45]⟩ : ByteArray)) ++ t164) ++ (⟨#[45]⟩ : ByteArray)) ++ t165) ++ (⟨#[32]⟩ : ByteArray)) ++ t166).size + 1 ≤ 9223372036854775807 then ((montageref41_digits.f k a0_4 2).bind fun t167 => (if (((((((t163 ++ (⟨#[45]⟩ : ByteArray)) ++ t164) ++ (⟨#[45]⟩ : ByteArray)) ++ t165) ++ (⟨#[32]⟩ : ByteArray)) ++ t166) ++ (⟨#[58]⟩ : ByteArray)).size + t167.size ≤ 9223372036854775807 then (if ((((((((t163 ++ (⟨#[45]⟩ : ByteArray)) ++ t164) ++ (⟨#[45]⟩ : ByteArray)) ++ t165) ++ (⟨#[32]⟩ : ByteArray)) ++ t166) ++ (⟨#[58]⟩ : ByteArray)) ++ t167).size + 1 ≤ 9223372036854775807 then ((montageref41_digits.f k a0_5 2).bind fun t168 => (if (((((((((t163 ++ (⟨#[45]⟩ : ByteArray)) ++ t164) ++ (⟨#[45]⟩ : ByteArray)) ++ t165) ++ (⟨#[32]⟩ : ByteArray)) ++ t166) ++ (⟨#[58]⟩ : ByteArray)) ++ t167) ++ (⟨#[58]⟩ : ByteArray)).size + t168.size ≤ 9223372036854775807 then (some ((((((((((t163 ++ (⟨#[45]⟩ : ByteArray)) ++ t164) ++ (⟨#[45]⟩ : ByteArray)) ++ t165) ++ (⟨#[32]⟩ : ByteArray)) ++ t166) ++ (⟨#[58]⟩ : ByteArray)) ++ t167) ++ (⟨#[58]⟩ : ByteArray)) ++ t168)) else (none))) else (none)) else (none))) else (none)) else (none))) else (none)) else (none)) = some r := H
        have A7 := Aside0.mk A70
        clear A70
        by_cases c8 : (((t163 ++ (⟨#[45]⟩ : ByteArray)) ++ t164) ++ (⟨#[45]⟩ : ByteArray)).size + t165.size ≤ 9223372036854775807
        · rw [if_pos c8] at H
          have c8b0 := eq_true c8
          have c8b1 : decide ((((t163 ++ (⟨#[45]⟩ : ByteArray)) ++ t164) ++ (⟨#[45]⟩ : ByteArray)).size + t165.size ≤ 9223372036854775807) = true := decide_eq_true c8
          try have c8b2 : (9223372036854775807 < (((t163 ++ (⟨#[45]⟩ : ByteArray)) ++ t164) ++ (⟨#[45]⟩ : ByteArray)).size + t165.size) = False := eq_false (Nat.not_lt.2 c8)
          try (have c8b3 := c8; simp only [xfix_one, ByteArray.size_append] at c8b3; replace c8b3 := eq_false (Nat.not_lt.2 c8b3))
          by_cases c9 : ((((t163 ++ (⟨#[45]⟩ : ByteArray)) ++ t164) ++ (⟨#[45]⟩ : ByteArray)) ++ t165).size + 1 ≤ 9223372036854775807
          · rw [if_pos c9] at H
            have c9b0 := eq_true c9
            have c9b1 : decide (((((t163 ++ (⟨#[45]⟩ : ByteArray)) ++ t164) ++ (⟨#[45]⟩ : ByteArray)) ++ t165).size + 1 ≤ 9223372036854775807) = true := decide_eq_true c9
            try have c9b2 : (9223372036854775807 < ((((t163 ++ (⟨#[45]⟩ : ByteArray)) ++ t164) ++ (⟨#[45]⟩ : ByteArray)) ++ t165).size + 1) = False := eq_false (Nat.not_lt.2 c9)
            try (have c9b3 := c9; simp only [xfix_one, ByteArray.size_append] at c9b3; replace c9b3 := eq_false (Nat.not_lt.2 c9b3))
            replace H := Option.bind_eq_some_iff.mp H
            obtain ⟨t166, A100, H⟩ := H
            replace H : (if (((((t163 ++ (⟨#[45]⟩ : ByteArray)) ++ t164) ++ (⟨#[45]⟩ : ByteArray)) ++ t165) ++ (⟨#[32]⟩ : ByteArray)).size + t166.size ≤ 9223372036854775807 then (if ((((((t163 ++ (⟨#[45]⟩ : ByteArray)) ++ t164) ++ (⟨#[45]⟩ : ByteArray)) ++ t165) ++ (⟨#[32]⟩ : ByteArray)) ++ t166).size + 1 ≤ 9223372036854775807 then ((montageref41_digits.f k a0_4 2).bind fun t167 => (if (((((((t163 ++ (⟨#[45]⟩ : ByteArray)) ++ t164) ++ (⟨#[45]⟩ : ByteArray)) ++ t165) ++ (⟨#[32]⟩ : ByteArray)) ++ t166) ++ (⟨#[58]⟩ : ByteArray)).size + t167.size ≤ 9223372036854775807 then (if ((((((((t163 ++ (⟨#[45]⟩ : ByteArray)) ++ t164) ++ (⟨#[45]⟩ : ByteArray)) ++ t165) ++ (⟨#[32]⟩ : ByteArray)) ++ t166) ++ (⟨#[58]⟩ : ByteArray)) ++ t167).size + 1 ≤ 9223372036854775807 then ((montageref41_digits.f k a0_5 2).bind fun t168 => (if (((((((((t163 ++ (⟨#[45]⟩ : ByteArray)) ++ t164) ++ (⟨#[45]⟩ : ByteArray)) ++ t165) ++ (⟨#[32]⟩ : ByteArray)) ++ t166) ++ (⟨#[58]⟩ : ByteArray)) ++ t167) ++ (⟨#[58]⟩ : ByteArray)).size + t168.size ≤ 9223372036854775807 then (some ((((((((((t163 ++ (⟨#[45]⟩ : ByteArray)) ++ t164) ++ (⟨#[45]⟩ : ByteArray)) ++ t165) ++ (⟨#[32]⟩ : ByteArray)) ++ t166) ++ (⟨#[58]⟩ : ByteArray)) ++ t167) ++ (⟨#[58]⟩ : ByteArray)) ++ t168)) else (none))) else (none)) else (none))) else (none)) else (none)) = some r := H
            have A10 := Aside0.mk A100
            clear A100
            by_cases c11 : (((((t163 ++ (⟨#[45]⟩ : ByteArray)) ++ t164) ++ (⟨#[45]⟩ : ByteArray)) ++ t165) ++ (⟨#[32]⟩ : ByteArray)).size + t166.size ≤ 9223372036854775807
            · rw [if_pos c11] at H
              have c11b0 := eq_true c11
              have c11b1 : decide ((((((t163 ++ (⟨#[45]⟩ : ByteArray)) ++ t164) ++ (⟨#[45]⟩ : ByteArray)) ++ t165) ++ (⟨#[32]⟩ : ByteArray)).size + t166.size ≤ 9223372036854775807) = true := decide_eq_true c11
              try have c11b2 : (9223372036854775807 < (((((t163 ++ (⟨#[45]⟩ : ByteArray)) ++ t164) ++ (⟨#[45]⟩ : ByteArray)) ++ t165) ++ (⟨#[32]⟩ : ByteArray)).size + t166.size) = False := eq_false (Nat.not_lt.2 c11)
              try (have c11b3 := c11; simp only [xfix_one, ByteArray.size_append] at c11b3; replace c11b3 := eq_false (Nat.not_lt.2 c11b3))
              by_cases c12 : ((((((t163 ++ (⟨#[45]⟩ : ByteArray)) ++ t164) ++ (⟨#[45]⟩ : ByteArray)) ++ t165) ++ (⟨#[32]⟩ : ByteArray)) ++ t166).size + 1 ≤ 9223372036854775807
              · rw [if_pos c12] at H
                have c12b0 := eq_true c12
                have c12b1 : decide (((((((t163 ++ (⟨#[45]⟩ : ByteArray)) ++ t164) ++ (⟨#[45]⟩ : ByteArray)) ++ t165) ++ (⟨#[32]⟩ : ByteArray)) ++ t166).size + 1 ≤ 9223372036854775807) = true := decide_eq_true c12
                try have c12b2 : (9223372036854775807 < ((((((t163 ++ (⟨#[45]⟩ : ByteArray)) ++ t164) ++ (⟨#[45]⟩ : ByteArray)) ++ t165) ++ (⟨#[32]⟩ : ByteArray)) ++ t166).size + 1) = False := eq_false (Nat.not_lt.2 c12)
                try (have c12b3 := c12; simp only [xfix_one, ByteArray.size_append] at c12b3; replace c12b3 := eq_false (Nat.not_lt.2 c12b3))
                replace H := Option.bind_eq_some_iff.mp H
                obtain ⟨t167, A130, H⟩ := H
                replace H : (if (((((((t163 ++ (⟨#[45]⟩ : ByteArray)) ++ t164) ++ (⟨#[45]⟩ : ByteArray)) ++ t165) ++ (⟨#[32]⟩ : ByteArray)) ++ t166) ++ (⟨#[58]⟩ : ByteArray)).size + t167.size ≤ 9223372036854775807 then (if ((((((((t163 ++ (⟨#[45]⟩ : ByteArray)) ++ t164) ++ (⟨#[45]⟩ : ByteArray)) ++ t165) ++ (⟨#[32]⟩ : ByteArray)) ++ t166) ++ (⟨#[58]⟩ : ByteArray)) ++ t167).size + 1 ≤ 9223372036854775807 then ((montageref41_digits.f k a0_5 2).bind fun t168 => (if (((((((((t163 ++ (⟨#[45]⟩ : ByteArray)) ++ t164) ++ (⟨#[45]⟩ : ByteArray)) ++ t165) ++ (⟨#[32]⟩ : ByteArray)) ++ t166) ++ (⟨#[58]⟩ : ByteArray)) ++ t167) ++ (⟨#[58]⟩ : ByteArray)).size + t168.size ≤ 9223372036854775807 then (some ((((((((((t163 ++ (⟨#[45]⟩ : ByteArray)) ++ t164) ++ (⟨#[45]⟩ : ByteArray)) ++ t165) ++ (⟨#[32]⟩ : ByteArray)) ++ t166) ++ (⟨#[58]⟩ : ByteArray)) ++ t167) ++ (⟨#[58]⟩ : ByteArray)) ++ t168)) else (none))) else (none)) else (none)) = some r := H
                have A13 := Aside0.mk A130
                clear A130
                by_cases c14 : (((((((t163 ++ (⟨#[45]⟩ : ByteArray)) ++ t164) ++ (⟨#[45]⟩ : ByteArray)) ++ t165) ++ (⟨#[32]⟩ : ByteArray)) ++ t166) ++ (⟨#[58]⟩ : ByteArray)).size + t167.size ≤ 9223372036854775807
                · rw [if_pos c14] at H
                  have c14b0 := eq_true c14
                  have c14b1 : decide ((((((((t163 ++ (⟨#[45]⟩ : ByteArray)) ++ t164) ++ (⟨#[45]⟩ : ByteArray)) ++ t165) ++ (⟨#[32]⟩ : ByteArray)) ++ t166) ++ (⟨#[58]⟩ : ByteArray)).size + t167.size ≤ 9223372036854775807) = true := decide_eq_true c14
                  try have c14b2 : (9223372036854775807 < (((((((t163 ++ (⟨#[45]⟩ : ByteArray)) ++ t164) ++ (⟨#[45]⟩ : ByteArray)) ++ t165) ++ (⟨#[32]⟩ : ByteArray)) ++ t166) ++ (⟨#[58]⟩ : ByteArray)).size + t167.size) = False := eq_false (Nat.not_lt.2 c14)
                  try (have c14b3 := c14; simp only [xfix_one, ByteArray.size_append] at c14b3; replace c14b3 := eq_false (Nat.not_lt.2 c14b3))
                  by_cases c15 : ((((((((t163 ++ (⟨#[45]⟩ : ByteArray)) ++ t164) ++ (⟨#[45]⟩ : ByteArray)) ++ t165) ++ (⟨#[32]⟩ : ByteArray)) ++ t166) ++ (⟨#[58]⟩ : ByteArray)) ++ t167).size + 1 ≤ 9223372036854775807
                  · rw [if_pos c15] at H
                    have c15b0 := eq_true c15
                    have c15b1 : decide (((((((((t163 ++ (⟨#[45]⟩ : ByteArray)) ++ t164) ++ (⟨#[45]⟩ : ByteArray)) ++ t165) ++ (⟨#[32]⟩ : ByteArray)) ++ t166) ++ (⟨#[58]⟩ : ByteArray)) ++ t167).size + 1 ≤ 9223372036854775807) = true := decide_eq_true c15
                    try have c15b2 : (9223372036854775807 < ((((((((t163 ++ (⟨#[45]⟩ : ByteArray)) ++ t164) ++ (⟨#[45]⟩ : ByteArray)) ++ t165) ++ (⟨#[32]⟩ : ByteArray)) ++ t166) ++ (⟨#[58]⟩ : ByteArray)) ++ t167).size + 1) = False := eq_false (Nat.not_lt.2 c15)
                    try (have c15b3 := c15; simp only [xfix_one, ByteArray.size_append] at c15b3; replace c15b3 := eq_false (Nat.not_lt.2 c15b3))
                    replace H := Option.bind_eq_some_iff.mp H
                    obtain ⟨t168, A160, H⟩ := H
                    replace H : (if (((((((((t163 ++ (⟨#[45]⟩ : ByteArray)) ++ t164) ++ (⟨#[45]⟩ : ByteArray)) ++ t165) ++ (⟨#[32]⟩ : ByteArray)) ++ t166) ++ (⟨#[58]⟩ : ByteArray)) ++ t167) ++ (⟨#[58]⟩ : ByteArray)).size + t168.size ≤ 9223372036854775807 then (some ((((((((((t163 ++ (⟨#[45]⟩ : ByteArray)) ++ t164) ++ (⟨#[45]⟩ : ByteArray)) ++ t165) ++ (⟨#[32]⟩ : ByteArray)) ++ t166) ++ (⟨#[58]⟩ : ByteArray)) ++ t167) ++ (⟨#[58]⟩ : ByteArray)) ++ t168)) else (none)) = some r := H
                    have A16 := Aside0.mk A160
                    clear A160
                    by_cases c17 : (((((((((t163 ++ (⟨#[45]⟩ : ByteArray)) ++ t164) ++ (⟨#[45]⟩ : ByteArray)) ++ t165) ++ (⟨#[32]⟩ : ByteArray)) ++ t166) ++ (⟨#[58]⟩ : ByteArray)) ++ t167) ++ (⟨#[58]⟩ : ByteArray)).size + t168.size ≤ 9223372036854775807
                    · rw [if_pos c17] at H
                      have c17b0 := eq_true c17
                      have c17b1 : decide ((((((((((t163 ++ (⟨#[45]⟩ : ByteArray)) ++ t164) ++ (⟨#[45]⟩ : ByteArray)) ++ t165) ++ (⟨#[32]⟩ : ByteArray)) ++ t166) ++ (⟨#[58]⟩ : ByteArray)) ++ t167) ++ (⟨#[58]⟩ : ByteArray)).size + t168.size ≤ 9223372036854775807) = true := decide_eq_true c17
                      try have c17b2 : (9223372036854775807 < (((((((((t163 ++ (⟨#[45]⟩ : ByteArray)) ++ t164) ++ (⟨#[45]⟩ : ByteArray)) ++ t165) ++ (⟨#[32]⟩ : ByteArray)) ++ t166) ++ (⟨#[58]⟩ : ByteArray)) ++ t167) ++ (⟨#[58]⟩ : ByteArray)).size + t168.size) = False := eq_false (Nat.not_lt.2 c17)
                      try (have c17b3 := c17; simp only [xfix_one, ByteArray.size_append] at c17b3; replace c17b3 := eq_false (Nat.not_lt.2 c17b3))
                      obtain rfl := Option.some.inj H
                      go_enter Tryd.func13, Tryd.ntmps13
                      try go_wp2_with (first | ((with_reducible refine gate_dst (N := 1) rfl ?_); refine box_event ?hg (N := 1) ?hd (cs := #[.int .i64 a0_0, .int .i64 a0_1, .int .i64 a0_2, .int .i64 a0_3, .int .i64 a0_4, .int .i64 a0_5]) (t := 23) ?hr ?_; (case hd => rfl); (case hg => rfl); (case hr => first | (go_simp; done) | (go_simp; rfl)); intro gb162 hg w18 hbox hb; have n0_ := Aside0.mk (below_step (by repeat (first | (with_reducible first | exact HB.out | apply below_alloc | apply pw_below_drewN | apply below_drew1) | exact HB.out)) hb); have n1_ := Aside0.mk (hbox); have n2_ := Aside0.mk ((by rw [hg]; exact (below_size (by repeat (first | (with_reducible first | exact HB.out | apply below_alloc | apply pw_below_drewN | apply below_drew1) | exact HB.out))) : w.heap.size ≤ gb162)); have n3_ := Aside0.mk ((by rw [hg]; exact (below_size (by repeat (first | (with_reducible first | exact HB.out | apply below_alloc | apply pw_below_drewN | apply below_drew1) | exact HB.out))) : w.heap.size ≤ gb162)); clear HB; have HB := n0_; have BK162 := n1_; have GW162 := n2_; have GE162 := n3_; clear n0_ n1_ n2_ n3_; clear hb hbox hg))
                      have n0_ := Aside0.mk (blk_drew BK162.out)
                      have n1_ := Aside0.mk (below_drew1 HB.out)
                      clear BK162
                      clear HB
                      have BK162 := n0_
                      have HB := n1_
                      clear n0_ n1_
                      refine start_ (n := 29) (S := fun w' => w'.cell? ⟨gb162, 0, none⟩ = some (.int .i64 a0_0) ∧ w'.cell? ⟨gb162, 1, none⟩ = some (.int .i64 a0_1) ∧ w'.cell? ⟨gb162, 2, none⟩ = some (.int .i64 a0_2) ∧ w'.cell? ⟨gb162, 3, none⟩ = some (.int .i64 a0_3) ∧ w'.cell? ⟨gb162, 4, none⟩ = some (.int .i64 a0_4) ∧ w'.cell? ⟨gb162, 5, none⟩ = some (.int .i64 a0_5)) (ds := []) #[false, false, false, false, false, false, false, false, false, false, false, false, false, false, false, false, false, false, false, false, false, false, false, false, false, false, false, false, false] (by kernel_rfl) rfl rfl ⟨(blk_cell BK162.out 0).trans rfl, (blk_cell BK162.out 1).trans rfl, (blk_cell BK162.out 2).trans rfl, (blk_cell BK162.out 3).trans rfl, (blk_cell BK162.out 4).trans rfl, (blk_cell BK162.out 5).trans rfl⟩ (fun hHeld => ?_); refine with_tabW montageref41_Text.tab1 montageref41_Text.bits1 (fun HT_ HW_ => ?_)
                      generalize w18.drew = w19 at BK162 HB hHeld ⊢
                      refine pure_ (i := 0) (N := some 3) (v := ?_) (a' := ?_) #[true, false, false, false, false, false, false, false, false, false, false, false, false, false, false, false, false, false, false, false, false, false, false, false, false, false, false, false, false] rfl rfl (any_of HT_.out (by kernel_rfl)) (fun _ _ _ h => h) (Or.inl ⟨by rfl, ?_⟩) ?_ ?_
                      rotate_left
                      · intro w'
                        go_simp
                        with_reducible rfl
                      rotate_left
                      · simp only [Act.put, List.setIfInBounds_toArray, List.set_cons_zero, List.set_cons_succ, i64_w, i32_w]
                        rfl
                      refine pure_ (i := 4) (N := some 7) (v := ?_) (a' := ?_) #[true, false, false, false, true, false, false, false, false, false, false, false, false, false, false, false, false, false, false, false, false, false, false, false, false, false, false, false, false] rfl rfl (any_of HT_.out (by kernel_rfl)) (fun _ _ _ h => h) (Or.inl ⟨by rfl, ?_⟩) ?_ ?_
                      rotate_left
                      · intro w'
                        go_simp
                        with_reducible rfl
                      rotate_left
                      · simp only [Act.put, List.setIfInBounds_toArray, List.set_cons_zero, List.set_cons_succ, i64_w, i32_w]
                        rfl
                      refine pure_ (i := 9) (N := some 12) (v := ?_) (a' := ?_) #[true, false, false, false, true, false, false, false, false, true, false, false, false, false, false, false, false, false, false, false, false, false, false, false, false, false, false, false, false] rfl rfl (any_of HT_.out (by kernel_rfl)) (fun _ _ _ h => h) (Or.inl ⟨by rfl, ?_⟩) ?_ ?_
                      rotate_left
                      · intro w'
                        go_simp
                        with_reducible rfl
                      rotate_left
                      · simp only [Act.put, List.setIfInBounds_toArray, List.set_cons_zero, List.set_cons_succ, i64_w, i32_w]
                        rfl
                      refine pure_ (i := 14) (N := some 17) (v := ?_) (a' := ?_) #[true, false, false, false, true, false, false, false, false, true, false, false, false, false, true, false, false, false, false, false, false, false, false, false, false, false, false, false, false] rfl rfl (any_of HT_.out (by kernel_rfl)) (fun _ _ _ h => h) (Or.inl ⟨by rfl, ?_⟩) ?_ ?_
                      rotate_left
                      · intro w'
                        go_simp
                        with_reducible rfl
                      rotate_left
                      · simp only [Act.put, List.setIfInBounds_toArray, List.set_cons_zero, List.set_cons_succ, i64_w, i32_w]
                        rfl
                      refine pure_ (i := 19) (N := some 22) (v := ?_) (a' := ?_) #[true, false, false, false, true, false, false, false, false, true, false, false, false, false, true, false, false, false, false, true, false, false, false, false, false, false, false, false, false] rfl rfl (any_of HT_.out (by kernel_rfl)) (fun _ _ _ h => h) (Or.inl ⟨by rfl, ?_⟩) ?_ ?_
                      rotate_left
                      · intro w'
                        go_simp
                        with_reducible rfl
                      rotate_left
                      · simp only [Act.put, List.setIfInBounds_toArray, List.set_cons_zero, List.set_cons_succ, i64_w, i32_w]
                        rfl
                      refine pure_ (i := 24) (N := some 27) (v := ?_) (a' := ?_) #[true, false, false, false, true, false, false, false, false, true, false, false, false, false, true, false, false, false, false, true, false, false, false, false, true, false, false, false, false] rfl rfl (any_of HT_.out (by kernel_rfl)) (fun _ _ _ h => h) (Or.inl ⟨by rfl, ?_⟩) ?_ ?_
                      rotate_left
                      · intro w'
                        go_simp
                        with_reducible rfl
                      rotate_left
                      · simp only [Act.put, List.setIfInBounds_toArray, List.set_cons_zero, List.set_cons_succ, i64_w, i32_w]
                        rfl
                      refine take_ (i := 1) (N := some 4) (v := ?_) (a' := ?_) #[true, true, false, false, true, false, false, false, false, true, false, false, false, false, true, false, false, false, false, true, false, false, false, false, true, false, false, false, false] rfl rfl (take_ofW HT_.out HW_.out (by kernel_rfl)) (fun _ _ _ h => h) (Or.inl ⟨by rfl, ?_⟩) hHeld ?_ ?_
                      rotate_left
                      · rintro w' ⟨s0, s1, s2, s3, s4, s5⟩
                        go_simp
                        with_reducible rfl
                      rotate_left
                      · simp only [Act.put, List.setIfInBounds_toArray, List.set_cons_zero, List.set_cons_succ, i64_w, i32_w]
                        rfl
                      refine take_ (i := 5) (N := some 8) (v := ?_) (a' := ?_) #[true, true, false, false, true, true, false, false, false, true, false, false, false, false, true, false, false, false, false, true, false, false, false, false, true, false, false, false, false] rfl rfl (take_ofW HT_.out HW_.out (by kernel_rfl)) (fun _ _ _ h => h) (Or.inl ⟨by rfl, ?_⟩) hHeld ?_ ?_
                      rotate_left
                      · rintro w' ⟨s0, s1, s2, s3, s4, s5⟩
                        go_simp
                        with_reducible rfl
                      rotate_left
                      · simp only [Act.put, List.setIfInBounds_toArray, List.set_cons_zero, List.set_cons_succ, i64_w, i32_w]
                        rfl
                      refine take_ (i := 10) (N := some 13) (v := ?_) (a' := ?_) #[true, true, false, false, true, true, false, false, false, true, true, false, false, false, true, false, false, false, false, true, false, false, false, false, true, false, false, false, false] rfl rfl (take_ofW HT_.out HW_.out (by kernel_rfl)) (fun _ _ _ h => h) (Or.inl ⟨by rfl, ?_⟩) hHeld ?_ ?_
                      rotate_left
                      · rintro w' ⟨s0, s1, s2, s3, s4, s5⟩
                        go_simp
                        with_reducible rfl
                      rotate_left
                      · simp only [Act.put, List.setIfInBounds_toArray, List.set_cons_zero, List.set_cons_succ, i64_w, i32_w]
                        rfl
                      refine take_ (i := 15) (N := some 18) (v := ?_) (a' := ?_) #[true, true, false, false, true, true, false, false, false, true, true, false, false, false, true, true, false, false, false, true, false, false, false, false, true, false, false, false, false] rfl rfl (take_ofW HT_.out HW_.out (by kernel_rfl)) (fun _ _ _ h => h) (Or.inl ⟨by rfl, ?_⟩) hHeld ?_ ?_
                      rotate_left
                      · rintro w' ⟨s0, s1, s2, s3, s4, s5⟩
                        go_simp
                        with_reducible rfl
                      rotate_left
                      · simp only [Act.put, List.setIfInBounds_toArray, List.set_cons_zero, List.set_cons_succ, i64_w, i32_w]
                        rfl
                      refine take_ (i := 20) (N := some 23) (v := ?_) (a' := ?_) #[true, true, false, false, true, true, false, false, false, true, true, false, false, false, true, true, false, false, false, true, true, false, false, false, true, false, false, false, false] rfl rfl (take_ofW HT_.out HW_.out (by kernel_rfl)) (fun _ _ _ h => h) (Or.inl ⟨by rfl, ?_⟩) hHeld ?_ ?_
                      rotate_left
                      · rintro w' ⟨s0, s1, s2, s3, s4, s5⟩
                        go_simp
                        with_reducible rfl
                      rotate_left
                      · simp only [Act.put, List.setIfInBounds_toArray, List.set_cons_zero, List.set_cons_succ, i64_w, i32_w]
                        rfl
                      refine take_ (i := 25) (N := some 28) (v := ?_) (a' := ?_) #[true, true, false, false, true, true, false, false, false, true, true, false, false, false, true, true, false, false, false, true, true, false, false, false, true, true, false, false, false] rfl rfl (take_ofW HT_.out HW_.out (by kernel_rfl)) (fun _ _ _ h => h) (Or.inl ⟨by rfl, ?_⟩) hHeld ?_ ?_
                      rotate_left
                      · rintro w' ⟨s0, s1, s2, s3, s4, s5⟩
                        go_simp
                        with_reducible rfl
                      rotate_left
                      · simp only [Act.put, List.setIfInBounds_toArray, List.set_cons_zero, List.set_cons_succ, i64_w, i32_w]
                        rfl
                      refine one_ (i := 2) (N := some 5) #[true, true, true, false, true, true, false, false, false, true, true, false, false, false, true, true, false, false, false, true, true, false, false, false, true, true, false, false, false] rfl rfl (one_of HT_.out (by kernel_rfl)) (by decide) (fun K hK => ?_)
                      refine goes_ Tryd.func25 (by kernel_rfl) rfl #[.int .i64 a0_0, .int .i64 4] (by rfl) rfl rfl (by (try simp only [List.map_toArray, List.map_cons, List.map_nil]); first | done | rfl | (simp only [List.length_drop, List.length_take]; rfl)) ?_
                      with_reducible refine (montageref41_digits.calls k a0_0 4 t163 _ A2.out).mono ?_
                      rintro e w20 ⟨rfl, hb⟩
                      refine ⟨_, rfl, ?_⟩
                      have n0_ := Aside0.mk (blk_below (g := gb162) (o := .cells #[.int .i64 a0_0, .int .i64 a0_1, .int .i64 a0_2, .int .i64 a0_3, .int .i64 a0_4, .int .i64 a0_5] 23 (0, 0)) (by (with_reducible repeat (first | refine blk_drewN ?_ _ | refine blk_drew ?_ | refine blk_alloc ?_ _)); exact BK162.out) hb)
                      have n1_ := Aside0.mk (below_step (by repeat (first | (with_reducible first | exact HB.out | apply below_alloc | apply pw_below_drewN | apply below_drew1 | refine below_set ?_ GE162.out) | exact HB.out)) hb)
                      clear BK162
                      clear HB
                      have BK162 := n0_
                      have HB := n1_
                      clear n0_ n1_
                      (try clear hb)
                      (try clear hb2)
                      (try clear hk)
                      (try clear hi)
                      refine hK.out _ _ ⟨(blk_cell BK162.out 0).trans rfl, (blk_cell BK162.out 1).trans rfl, (blk_cell BK162.out 2).trans rfl, (blk_cell BK162.out 3).trans rfl, (blk_cell BK162.out 4).trans rfl, (blk_cell BK162.out 5).trans rfl⟩ (fun hHeld => ?_)
                      clear hK K
                      refine norm_ (a' := ?_) ?_ ?_
                      rotate_left
                      · show Act.put _ (some 5) _ = _
                        simp only [Act.put, List.setIfInBounds_toArray, List.set_cons_zero, List.set_cons_succ, i64_w, i32_w]
                        rfl
                      refine pure_ (i := 3) (N := some 6) (v := ?_) (a' := ?_) #[true, true, true, true, true, true, false, false, false, true, true, false, false, false, true, true, false, false, false, true, true, false, false, false, true, true, false, false, false] rfl rfl (any_of HT_.out (by kernel_rfl)) (fun _ _ _ h => h) (Or.inl ⟨by rfl, ?_⟩) ?_ ?_
                      rotate_left
                      · intro w'
                        go_simp
                        with_reducible rfl
                      rotate_left
                      · simp only [Act.put, List.setIfInBounds_toArray, List.set_cons_zero, List.set_cons_succ, i64_w, i32_w]
                        rfl
                      refine one_ (i := 6) (N := some 9) #[true, true, true, true, true, true, true, false, false, true, true, false, false, false, true, true, false, false, false, true, true, false, false, false, true, true, false, false, false] rfl rfl (one_of HT_.out (by kernel_rfl)) (by decide) (fun K hK => ?_)
                      refine goes_ Tryd.func25 (by kernel_rfl) rfl #[.int .i64 a0_1, .int .i64 2] (by rfl) rfl rfl (by (try simp only [List.map_toArray, List.map_cons, List.map_nil]); first | done | rfl | (simp only [List.length_drop, List.length_take]; rfl)) ?_
                      with_reducible refine (montageref41_digits.calls k a0_1 2 t164 _ A4.out).mono ?_
                      rintro e w21 ⟨rfl, hb⟩
                      refine ⟨_, rfl, ?_⟩
                      have n0_ := Aside0.mk (blk_below (g := gb162) (o := .cells #[.int .i64 a0_0, .int .i64 a0_1, .int .i64 a0_2, .int .i64 a0_3, .int .i64 a0_4, .int .i64 a0_5] 23 (0, 0)) (by (with_reducible repeat (first | refine blk_drewN ?_ _ | refine blk_drew ?_ | refine blk_alloc ?_ _)); exact BK162.out) hb)
                      have n1_ := Aside0.mk (below_step (by repeat (first | (with_reducible first | exact HB.out | apply below_alloc | apply pw_below_drewN | apply below_drew1 | refine below_set ?_ GE162.out) | exact HB.out)) hb)
                      clear BK162
                      clear HB
                      have BK162 := n0_
                      have HB := n1_
                      clear n0_ n1_
                      (try clear hb)
                      (try clear hb2)
                      (try clear hk)
                      (try clear hi)
                      refine hK.out _ _ ⟨(blk_cell BK162.out 0).trans rfl, (blk_cell BK162.out 1).trans rfl, (blk_cell BK162.out 2).trans rfl, (blk_cell BK162.out 3).trans rfl, (blk_cell BK162.out 4).trans rfl, (blk_cell BK162.out 5).trans rfl⟩ (fun hHeld => ?_)
                      clear hK K
                      refine norm_ (a' := ?_) ?_ ?_
                      rotate_left
                      · show Act.put _ (some 9) _ = _
                        simp only [Act.put, List.setIfInBounds_toArray, List.set_cons_zero, List.set_cons_succ, i64_w, i32_w]
                        rfl
                      refine pure_ (i := 7) (N := some 10) (v := ?_) (a' := ?_) #[true, true, true, true, true, true, true, true, false, true, true, false, false, false, true, true, false, false, false, true, true, false, false, false, true, true, false, false, false] rfl rfl (any_of HT_.out (by kernel_rfl)) (fun _ _ _ h => h) (Or.inl ⟨by rfl, ?_⟩) ?_ ?_
                      rotate_left
                      · intro w'
                        go_simp
                        with_reducible rfl
                      rotate_left
                      · simp only [Act.put, List.setIfInBounds_toArray, List.set_cons_zero, List.set_cons_succ, i64_w, i32_w]
                        rfl
                      refine pure_ (i := 8) (N := some 11) (v := ?_) (a' := ?_) #[true, true, true, true, true, true, true, true, true, true, true, false, false, false, true, true, false, false, false, true, true, false, false, false, true, true, false, false, false] rfl rfl (any_of HT_.out (by kernel_rfl)) (fun _ _ _ h => h) (Or.inl ⟨by rfl, ?_⟩) ?_ ?_
                      rotate_left
                      · intro w'
                        go_simp
                        with_reducible rfl
                      rotate_left
                      · simp only [Act.put, List.setIfInBounds_toArray, List.set_cons_zero, List.set_cons_succ, i64_w, i32_w]
                        rfl
                      refine one_ (i := 11) (N := some 14) #[true, true, true, true, true, true, true, true, true, true, true, true, false, false, true, true, false, false, false, true, true, false, false, false, true, true, false, false, false] rfl rfl (one_of HT_.out (by kernel_rfl)) (by decide) (fun K hK => ?_)
                      refine goes_ Tryd.func25 (by kernel_rfl) rfl #[.int .i64 a0_2, .int .i64 2] (by rfl) rfl rfl (by (try simp only [List.map_toArray, List.map_cons, List.map_nil]); first | done | rfl | (simp only [List.length_drop, List.length_take]; rfl)) ?_
                      with_reducible refine (montageref41_digits.calls k a0_2 2 t165 _ A7.out).mono ?_
                      rintro e w22 ⟨rfl, hb⟩
                      refine ⟨_, rfl, ?_⟩
                      have n0_ := Aside0.mk (blk_below (g := gb162) (o := .cells #[.int .i64 a0_0, .int .i64 a0_1, .int .i64 a0_2, .int .i64 a0_3, .int .i64 a0_4, .int .i64 a0_5] 23 (0, 0)) (by (with_reducible repeat (first | refine blk_drewN ?_ _ | refine blk_drew ?_ | refine blk_alloc ?_ _)); exact BK162.out) hb)
                      have n1_ := Aside0.mk (below_step (by repeat (first | (with_reducible first | exact HB.out | apply below_alloc | apply pw_below_drewN | apply below_drew1 | refine below_set ?_ GE162.out) | exact HB.out)) hb)
                      clear BK162
                      clear HB
                      have BK162 := n0_
                      have HB := n1_
                      clear n0_ n1_
                      (try clear hb)
                      (try clear hb2)
                      (try clear hk)
                      (try clear hi)
                      refine hK.out _ _ ⟨(blk_cell BK162.out 0).trans rfl, (blk_cell BK162.out 1).trans rfl, (blk_cell BK162.out 2).trans rfl, (blk_cell BK162.out 3).trans rfl, (blk_cell BK162.out 4).trans rfl, (blk_cell BK162.out 5).trans rfl⟩ (fun hHeld => ?_)
                      clear hK K
                      refine norm_ (a' := ?_) ?_ ?_
                      rotate_left
                      · show Act.put _ (some 14) _ = _
                        simp only [Act.put, List.setIfInBounds_toArray, List.set_cons_zero, List.set_cons_succ, i64_w, i32_w]
                        rfl
                      refine pure_ (i := 12) (N := some 15) (v := ?_) (a' := ?_) #[true, true, true, true, true, true, true, true, true, true, true, true, true, false, true, true, false, false, false, true, true, false, false, false, true, true, false, false, false] rfl rfl (any_of HT_.out (by kernel_rfl)) (fun _ _ _ h => h) (Or.inl ⟨by rfl, ?_⟩) ?_ ?_
                      rotate_left
                      · intro w'
                        go_simp
                        with_reducible rfl
                      rotate_left
                      · simp only [Act.put, List.setIfInBounds_toArray, List.set_cons_zero, List.set_cons_succ, i64_w, i32_w]
                        rfl
                      refine pure_ (i := 13) (N := some 16) (v := ?_) (a' := ?_) #[true, true, true, true, true, true, true, true, true, true, true, true, true, true, true, true, false, false, false, true, true, false, false, false, true, true, false, false, false] rfl rfl (any_of HT_.out (by kernel_rfl)) (fun _ _ _ h => h) (Or.inl ⟨by rfl, ?_⟩) ?_ ?_
                      rotate_left
                      · intro w'
                        go_simp
                        with_reducible rfl
                      rotate_left
                      · simp only [Act.put, List.setIfInBounds_toArray, List.set_cons_zero, List.set_cons_succ, i64_w, i32_w]
                        rfl
                      refine one_ (i := 16) (N := some 19) #[true, true, true, true, true, true, true, true, true, true, true, true, true, true, true, true, true, false, false, true, true, false, false, false, true, true, false, false, false] rfl rfl (one_of HT_.out (by kernel_rfl)) (by decide) (fun K hK => ?_)
                      refine goes_ Tryd.func25 (by kernel_rfl) rfl #[.int .i64 a0_3, .int .i64 2] (by rfl) rfl rfl (by (try simp only [List.map_toArray, List.map_cons, List.map_nil]); first | done | rfl | (simp only [List.length_drop, List.length_take]; rfl)) ?_
                      with_reducible refine (montageref41_digits.calls k a0_3 2 t166 _ A10.out).mono ?_
                      rintro e w23 ⟨rfl, hb⟩
                      refine ⟨_, rfl, ?_⟩
                      have n0_ := Aside0.mk (blk_below (g := gb162) (o := .cells #[.int .i64 a0_0, .int .i64 a0_1, .int .i64 a0_2, .int .i64 a0_3, .int .i64 a0_4, .int .i64 a0_5] 23 (0, 0)) (by (with_reducible repeat (first | refine blk_drewN ?_ _ | refine blk_drew ?_ | refine blk_alloc ?_ _)); exact BK162.out) hb)
                      have n1_ := Aside0.mk (below_step (by repeat (first | (with_reducible first | exact HB.out | apply below_alloc | apply pw_below_drewN | apply below_drew1 | refine below_set ?_ GE162.out) | exact HB.out)) hb)
                      clear BK162
                      clear HB
                      have BK162 := n0_
                      have HB := n1_
                      clear n0_ n1_
                      (try clear hb)
                      (try clear hb2)
                      (try clear hk)
                      (try clear hi)
                      refine hK.out _ _ ⟨(blk_cell BK162.out 0).trans rfl, (blk_cell BK162.out 1).trans rfl, (blk_cell BK162.out 2).trans rfl, (blk_cell BK162.out 3).trans rfl, (blk_cell BK162.out 4).trans rfl, (blk_cell BK162.out 5).trans rfl⟩ (fun hHeld => ?_)
                      clear hK K
                      refine norm_ (a' := ?_) ?_ ?_
                      rotate_left
                      · show Act.put _ (some 19) _ = _
                        simp only [Act.put, List.setIfInBounds_toArray, List.set_cons_zero, List.set_cons_succ, i64_w, i32_w]
                        rfl
                      refine pure_ (i := 17) (N := some 20) (v := ?_) (a' := ?_) #[true, true, true, true, true, true, true, true, true, true, true, true, true, true, true, true, true, true, false, true, true, false, false, false, true, true, false, false, false] rfl rfl (any_of HT_.out (by kernel_rfl)) (fun _ _ _ h => h) (Or.inl ⟨by rfl, ?_⟩) ?_ ?_
                      rotate_left
                      · intro w'
                        go_simp
                        with_reducible rfl
                      rotate_left
                      · simp only [Act.put, List.setIfInBounds_toArray, List.set_cons_zero, List.set_cons_succ, i64_w, i32_w]
                        rfl
                      refine pure_ (i := 18) (N := some 21) (v := ?_) (a' := ?_) #[true, true, true, true, true, true, true, true, true, true, true, true, true, true, true, true, true, true, true, true, true, false, false, false, true, true, false, false, false] rfl rfl (any_of HT_.out (by kernel_rfl)) (fun _ _ _ h => h) (Or.inl ⟨by rfl, ?_⟩) ?_ ?_
                      rotate_left
                      · intro w'
                        go_simp
                        with_reducible rfl
                      rotate_left
                      · simp only [Act.put, List.setIfInBounds_toArray, List.set_cons_zero, List.set_cons_succ, i64_w, i32_w]
                        rfl
                      refine one_ (i := 21) (N := some 24) #[true, true, true, true, true, true, true, true, true, true, true, true, true, true, true, true, true, true, true, true, true, true, false, false, true, true, false, false, false] rfl rfl (one_of HT_.out (by kernel_rfl)) (by decide) (fun K hK => ?_)
                      refine goes_ Tryd.func25 (by kernel_rfl) rfl #[.int .i64 a0_4, .int .i64 2] (by rfl) rfl rfl (by (try simp only [List.map_toArray, List.map_cons, List.map_nil]); first | done | rfl | (simp only [List.length_drop, List.length_take]; rfl)) ?_
                      with_reducible refine (montageref41_digits.calls k a0_4 2 t167 _ A13.out).mono ?_
                      rintro e w24 ⟨rfl, hb⟩
                      refine ⟨_, rfl, ?_⟩
                      have n0_ := Aside0.mk (blk_below (g := gb162) (o := .cells #[.int .i64 a0_0, .int .i64 a0_1, .int .i64 a0_2, .int .i64 a0_3, .int .i64 a0_4, .int .i64 a0_5] 23 (0, 0)) (by (with_reducible repeat (first | refine blk_drewN ?_ _ | refine blk_drew ?_ | refine blk_alloc ?_ _)); exact BK162.out) hb)
                      have n1_ := Aside0.mk (below_step (by repeat (first | (with_reducible first | exact HB.out | apply below_alloc | apply pw_below_drewN | apply below_drew1 | refine below_set ?_ GE162.out) | exact HB.out)) hb)
                      clear BK162
                      clear HB
                      have BK162 := n0_
                      have HB := n1_
                      clear n0_ n1_
                      (try clear hb)
                      (try clear hb2)
                      (try clear hk)
                      (try clear hi)
                      refine hK.out _ _ ⟨(blk_cell BK162.out 0).trans rfl, (blk_cell BK162.out 1).trans rfl, (blk_cell BK162.out 2).trans rfl, (blk_cell BK162.out 3).trans rfl, (blk_cell BK162.out 4).trans rfl, (blk_cell BK162.out 5).trans rfl⟩ (fun hHeld => ?_)
                      clear hK K
                      refine norm_ (a' := ?_) ?_ ?_
                      rotate_left
                      · show Act.put _ (some 24) _ = _
                        simp only [Act.put, List.setIfInBounds_toArray, List.set_cons_zero, List.set_cons_succ, i64_w, i32_w]
                        rfl
                      refine pure_ (i := 22) (N := some 25) (v := ?_) (a' := ?_) #[true, true, true, true, true, true, true, true, true, true, true, true, true, true, true, true, true, true, true, true, true, true, true, false, true, true, false, false, false] rfl rfl (any_of HT_.out (by kernel_rfl)) (fun _ _ _ h => h) (Or.inl ⟨by rfl, ?_⟩) ?_ ?_
                      rotate_left
                      · intro w'
                        go_simp
                        with_reducible rfl
                      rotate_left
                      · simp only [Act.put, List.setIfInBounds_toArray, List.set_cons_zero, List.set_cons_succ, i64_w, i32_w]
                        rfl
                      refine pure_ (i := 23) (N := some 26) (v := ?_) (a' := ?_) #[true, true, true, true, true, true, true, true, true, true, true, true, true, true, true, true, true, true, true, true, true, true, true, true, true, true, false, false, false] rfl rfl (any_of HT_.out (by kernel_rfl)) (fun _ _ _ h => h) (Or.inl ⟨by rfl, ?_⟩) ?_ ?_
                      rotate_left
                      · intro w'
                        go_simp
                        with_reducible rfl
                      rotate_left
                      · simp only [Act.put, List.setIfInBounds_toArray, List.set_cons_zero, List.set_cons_succ, i64_w, i32_w]
                        rfl
                      refine one_ (i := 26) (N := some 29) #[true, true, true, true, true, true, true, true, true, true, true, true, true, true, true, true, true, true, true, true, true, true, true, true, true, true, true, false, false] rfl rfl (one_of HT_.out (by kernel_rfl)) (by decide) (fun K hK => ?_)
                      refine goes_ Tryd.func25 (by kernel_rfl) rfl #[.int .i64 a0_5, .int .i64 2] (by rfl) rfl rfl (by (try simp only [List.map_toArray, List.map_cons, List.map_nil]); first | done | rfl | (simp only [List.length_drop, List.length_take]; rfl)) ?_
                      with_reducible refine (montageref41_digits.calls k a0_5 2 t168 _ A16.out).mono ?_
                      rintro e w25 ⟨rfl, hb⟩
                      refine ⟨_, rfl, ?_⟩
                      have n0_ := Aside0.mk (blk_below (g := gb162) (o := .cells #[.int .i64 a0_0, .int .i64 a0_1, .int .i64 a0_2, .int .i64 a0_3, .int .i64 a0_4, .int .i64 a0_5] 23 (0, 0)) (by (with_reducible repeat (first | refine blk_drewN ?_ _ | refine blk_drew ?_ | refine blk_alloc ?_ _)); exact BK162.out) hb)
                      have n1_ := Aside0.mk (below_step (by repeat (first | (with_reducible first | exact HB.out | apply below_alloc | apply pw_below_drewN | apply below_drew1 | refine below_set ?_ GE162.out) | exact HB.out)) hb)
                      clear BK162
                      clear HB
                      have BK162 := n0_
                      have HB := n1_
                      clear n0_ n1_
                      (try clear hb)
                      (try clear hb2)
                      (try clear hk)
                      (try clear hi)
                      refine hK.out _ _ ⟨(blk_cell BK162.out 0).trans rfl, (blk_cell BK162.out 1).trans rfl, (blk_cell BK162.out 2).trans rfl, (blk_cell BK162.out 3).trans rfl, (blk_cell BK162.out 4).trans rfl, (blk_cell BK162.out 5).trans rfl⟩ (fun hHeld => ?_)
                      clear hK K
                      refine norm_ (a' := ?_) ?_ ?_
                      rotate_left
                      · show Act.put _ (some 29) _ = _
                        simp only [Act.put, List.setIfInBounds_toArray, List.set_cons_zero, List.set_cons_succ, i64_w, i32_w]
                        rfl
                      refine pure_ (i := 27) (N := some 30) (v := ?_) (a' := ?_) #[true, true, true, true, true, true, true, true, true, true, true, true, true, true, true, true, true, true, true, true, true, true, true, true, true, true, true, true, false] rfl rfl (any_of HT_.out (by kernel_rfl)) (fun _ _ _ h => h) (Or.inl ⟨by rfl, ?_⟩) ?_ ?_
                      rotate_left
                      · intro w'
                        go_simp
                        with_reducible rfl
                      rotate_left
                      · simp only [Act.put, List.setIfInBounds_toArray, List.set_cons_zero, List.set_cons_succ, i64_w, i32_w]
                        rfl
                      refine pure_ (i := 28) (N := some 2) (v := ?_) (a' := ?_) #[true, true, true, true, true, true, true, true, true, true, true, true, true, true, true, true, true, true, true, true, true, true, true, true, true, true, true, true, true] rfl rfl (any_of HT_.out (by kernel_rfl)) (fun _ _ _ h => h) (Or.inl ⟨by rfl, ?_⟩) ?_ ?_
                      rotate_left
                      · intro w'
                        go_simp
                        with_reducible rfl
                      rotate_left
                      · simp only [Act.put, List.setIfInBounds_toArray, List.set_cons_zero, List.set_cons_succ, i64_w, i32_w]
                        rfl
                      refine done_ (done_of HT_.out (by kernel_rfl)) ?_
                      try go_wp2
                      go_ret
                      exact ⟨by first | rfl | (simp [errW_none, errW_some] <;> rfl) | (simp [*, errW_none, errW_some] <;> rfl), by repeat (first | (with_reducible first | exact HB.out | apply below_alloc | apply pw_below_drewN | apply below_drew1 | refine below_set ?_ GE162.out) | exact HB.out)⟩
                    · rw [if_neg c17] at H
                      exact absurd H (by simp)
                  · rw [if_neg c15] at H
                    exact absurd H (by simp)
                · rw [if_neg c14] at H
                  exact absurd H (by simp)
              · rw [if_neg c12] at H
                exact absurd H (by simp)
            · rw [if_neg c11] at H
              exact absurd H (by simp)
          · rw [if_neg c9] at H
            exact absurd H (by simp)
        · rw [if_neg c8] at H
          exact absurd H (by simp)
      · rw [if_neg c6] at H
        exact absurd H (by simp)
    · rw [if_neg c5] at H
      exact absurd H (by simp)
  · rw [if_neg c3] at H
    exact absurd H (by simp)

/-! ### montageref41_May: function 10 (its contract is typed by hand) -/
def montageref41_May.dayOk (t a0_2 a0_3 a0_4 a0_5 : Int) : Bool := decide (a0_2 ≤ t) && decide (0 ≤ a0_3) && decide (a0_3 ≤ 23) && decide (0 ≤ a0_4) && decide (a0_4 ≤ 59) && decide (0 ≤ a0_5) && decide (a0_5 ≤ 58) && (Int.tmod a0_5 2 == 0)
def montageref41_May.f (k : Nat) (a0_0 : Int) (a0_1 : Int) (a0_2 : Int) (a0_3 : Int) (a0_4 : Int) (a0_5 : Int) : Option Bool := if (a0_0 < 1980 ∨ 2107 < a0_0 ∨ a0_1 < 1 ∨ 12 < a0_1) ∨ a0_2 < 1 then some false else (montageref41_days.f k a0_0 a0_1).bind fun t => some (montageref41_May.dayOk t a0_2 a0_3 a0_4 a0_5)
theorem montageref41_May.mono : ∀ a0 a1 a2 a3 a4 a5 k, LeO (montageref41_May.f k a0 a1 a2 a3 a4 a5) (montageref41_May.f (k + 1) a0 a1 a2 a3 a4 a5) := by
  intro a0 a1 a2 a3 a4 a5 k
  unfold montageref41_May.f
  exact LeO.ite (LeO.refl _) (LeO.bind (montageref41_days.mono _ _ _) (fun _ => LeO.refl _))
set_option maxHeartbeats 8000000 in
set_option maxRecDepth 100000 in
theorem montageref41_May.calls (k : Nat) (a0_0 : Int) (a0_1 : Int) (a0_2 : Int) (a0_3 : Int) (a0_4 : Int) (a0_5 : Int) (r : Bool) (w : World) (h : montageref41_May.f k a0_0 a0_1 a0_2 a0_3 a0_4 a0_5 = some r) :
    Calls Tryd.prog 10 #[.agg #[.int .i64 a0_0, .int .i64 a0_1, .int .i64 a0_2, .int .i64 a0_3, .int .i64 a0_4, .int .i64 a0_5]] w fun e w' => e = .returned (.bool r) ∧ Below w.heap.size w w' := by
  have hu23 := Tryd.underlying23
  unfold montageref41_May.f at h
  have H := Aside0.mk h
  clear h
  by_cases g0 : a0_0 < 1980
  · have d0 : decide (a0_0 < 1980) = true := decide_eq_true g0
    have HR := H.out
    rw [if_pos (by omega)] at HR
    obtain rfl := Option.some.inj HR
    clear H HR
    clear g0
    go_enter Tryd.func10, Tryd.ntmps10
    go_wp2_with (fail)
    repeat (go_quiet (fail); go_wp2_with (fail))
    go_ret
    exact ⟨rfl, by repeat (first | exact Below.refl _ _ | apply pw_below_drewN | apply below_drew1 | apply below_alloc)⟩
  · have d0 : decide (a0_0 < 1980) = false := decide_eq_false g0
    by_cases g1 : 2107 < a0_0
    · have d1 : decide (2107 < a0_0) = true := decide_eq_true g1
      have HR := H.out
      rw [if_pos (by omega)] at HR
      obtain rfl := Option.some.inj HR
      clear H HR
      clear g0 g1
      go_enter Tryd.func10, Tryd.ntmps10
      go_wp2_with (fail)
      repeat (go_quiet (fail); go_wp2_with (fail))
      go_ret
      exact ⟨rfl, by repeat (first | exact Below.refl _ _ | apply pw_below_drewN | apply below_drew1 | apply below_alloc)⟩
    · have d1 : decide (2107 < a0_0) = false := decide_eq_false g1
      by_cases g2 : a0_1 < 1
      · have d2 : decide (a0_1 < 1) = true := decide_eq_true g2
        have HR := H.out
        rw [if_pos (by omega)] at HR
        obtain rfl := Option.some.inj HR
        clear H HR
        clear g0 g1 g2
        go_enter Tryd.func10, Tryd.ntmps10
        go_wp2_with (fail)
        repeat (go_quiet (fail); go_wp2_with (fail))
        go_ret
        exact ⟨rfl, by repeat (first | exact Below.refl _ _ | apply pw_below_drewN | apply below_drew1 | apply below_alloc)⟩
      · have d2 : decide (a0_1 < 1) = false := decide_eq_false g2
        by_cases g3 : 12 < a0_1
        · have d3 : decide (12 < a0_1) = true := decide_eq_true g3
          have HR := H.out
          rw [if_pos (by omega)] at HR
          obtain rfl := Option.some.inj HR
          clear H HR
          clear g0 g1 g2 g3
          go_enter Tryd.func10, Tryd.ntmps10
          go_wp2_with (fail)
          repeat (go_quiet (fail); go_wp2_with (fail))
          go_ret
          exact ⟨rfl, by repeat (first | exact Below.refl _ _ | apply pw_below_drewN | apply below_drew1 | apply below_alloc)⟩
        · have d3 : decide (12 < a0_1) = false := decide_eq_false g3
          by_cases g4 : 1 ≤ a0_2
          rotate_left
          · have d4 : decide (1 ≤ a0_2) = false := decide_eq_false g4
            have HR := H.out
            rw [if_pos (by omega)] at HR
            obtain rfl := Option.some.inj HR
            clear H HR
            clear g0 g1 g2 g3 g4
            go_enter Tryd.func10, Tryd.ntmps10
            go_wp2_with (fail)
            repeat (go_quiet (fail); go_wp2_with (fail))
            go_ret
            exact ⟨rfl, by repeat (first | exact Below.refl _ _ | apply pw_below_drewN | apply below_drew1 | apply below_alloc)⟩
          · have d4 : decide (1 ≤ a0_2) = true := decide_eq_true g4
            have H2 := H.out
            rw [if_neg (by omega)] at H2
            obtain ⟨t, HT0, H3⟩ := Option.bind_eq_some_iff.mp H2
            have HT := Aside0.mk HT0
            clear HT0 H2 H
            have HR := Aside0.mk (Option.some.inj H3)
            clear H3
            clear g0 g1 g2 g3 g4
            by_cases g5 : a0_2 ≤ t
            rotate_left
            · have d5 : decide (a0_2 ≤ t) = false := decide_eq_false g5
              have HR2 := HR.out
              unfold montageref41_May.dayOk at HR2
              rw [d5] at HR2
              simp only [Bool.and_false, Bool.false_and, Bool.true_and] at HR2
              subst HR2
              clear HR
              clear g5
              go_enter Tryd.func10, Tryd.ntmps10
              go_wp2_with (first | (go_at_call 24; (with_reducible refine (montageref41_days.calls k a0_0 a0_1 t _ HT.out).mono ?_); rintro e w' ⟨rfl, ⟨nd, rfl⟩⟩; (try first | exact ⟨rfl, _, World.drewN_drewN _ _ _⟩ | exact ⟨rfl, _, Eq.trans (World.drewN_drewN _ _ _) (congrArg (World.drewN _) (Nat.add_assoc _ _ _))⟩)) | fail)
              repeat (go_quiet (first | (go_at_call 24; (with_reducible refine (montageref41_days.calls k a0_0 a0_1 t _ HT.out).mono ?_); rintro e w' ⟨rfl, ⟨nd, rfl⟩⟩; (try first | exact ⟨rfl, _, World.drewN_drewN _ _ _⟩ | exact ⟨rfl, _, Eq.trans (World.drewN_drewN _ _ _) (congrArg (World.drewN _) (Nat.add_assoc _ _ _))⟩)) | fail); go_wp2_with (first | (go_at_call 24; (with_reducible refine (montageref41_days.calls k a0_0 a0_1 t _ HT.out).mono ?_); rintro e w' ⟨rfl, ⟨nd, rfl⟩⟩; (try first | exact ⟨rfl, _, World.drewN_drewN _ _ _⟩ | exact ⟨rfl, _, Eq.trans (World.drewN_drewN _ _ _) (congrArg (World.drewN _) (Nat.add_assoc _ _ _))⟩)) | fail))
              go_ret
              exact ⟨rfl, by repeat (first | exact Below.refl _ _ | apply pw_below_drewN | apply below_drew1 | apply below_alloc)⟩
            · have d5 : decide (a0_2 ≤ t) = true := decide_eq_true g5
              by_cases g6 : 0 ≤ a0_3
              rotate_left
              · have d6 : decide (0 ≤ a0_3) = false := decide_eq_false g6
                have HR2 := HR.out
                unfold montageref41_May.dayOk at HR2
                rw [d5, d6] at HR2
                simp only [Bool.and_false, Bool.false_and, Bool.true_and] at HR2
                subst HR2
                clear HR
                clear g5 g6
                go_enter Tryd.func10, Tryd.ntmps10
                go_wp2_with (first | (go_at_call 24; (with_reducible refine (montageref41_days.calls k a0_0 a0_1 t _ HT.out).mono ?_); rintro e w' ⟨rfl, ⟨nd, rfl⟩⟩; (try first | exact ⟨rfl, _, World.drewN_drewN _ _ _⟩ | exact ⟨rfl, _, Eq.trans (World.drewN_drewN _ _ _) (congrArg (World.drewN _) (Nat.add_assoc _ _ _))⟩)) | fail)
                repeat (go_quiet (first | (go_at_call 24; (with_reducible refine (montageref41_days.calls k a0_0 a0_1 t _ HT.out).mono ?_); rintro e w' ⟨rfl, ⟨nd, rfl⟩⟩; (try first | exact ⟨rfl, _, World.drewN_drewN _ _ _⟩ | exact ⟨rfl, _, Eq.trans (World.drewN_drewN _ _ _) (congrArg (World.drewN _) (Nat.add_assoc _ _ _))⟩)) | fail); go_wp2_with (first | (go_at_call 24; (with_reducible refine (montageref41_days.calls k a0_0 a0_1 t _ HT.out).mono ?_); rintro e w' ⟨rfl, ⟨nd, rfl⟩⟩; (try first | exact ⟨rfl, _, World.drewN_drewN _ _ _⟩ | exact ⟨rfl, _, Eq.trans (World.drewN_drewN _ _ _) (congrArg (World.drewN _) (Nat.add_assoc _ _ _))⟩)) | fail))
                go_ret
                exact ⟨rfl, by repeat (first | exact Below.refl _ _ | apply pw_below_drewN | apply below_drew1 | apply below_alloc)⟩
              · have d6 : decide (0 ≤ a0_3) = true := decide_eq_true g6
                by_cases g7 : a0_3 ≤ 23
                rotate_left
                · have d7 : decide (a0_3 ≤ 23) = false := decide_eq_false g7
                  have HR2 := HR.out
                  unfold montageref41_May.dayOk at HR2
                  rw [d5, d6, d7] at HR2
                  simp only [Bool.and_false, Bool.false_and, Bool.true_and] at HR2
                  subst HR2
                  clear HR
                  clear g5 g6 g7
                  go_enter Tryd.func10, Tryd.ntmps10
                  go_wp2_with (first | (go_at_call 24; (with_reducible refine (montageref41_days.calls k a0_0 a0_1 t _ HT.out).mono ?_); rintro e w' ⟨rfl, ⟨nd, rfl⟩⟩; (try first | exact ⟨rfl, _, World.drewN_drewN _ _ _⟩ | exact ⟨rfl, _, Eq.trans (World.drewN_drewN _ _ _) (congrArg (World.drewN _) (Nat.add_assoc _ _ _))⟩)) | fail)
                  repeat (go_quiet (first | (go_at_call 24; (with_reducible refine (montageref41_days.calls k a0_0 a0_1 t _ HT.out).mono ?_); rintro e w' ⟨rfl, ⟨nd, rfl⟩⟩; (try first | exact ⟨rfl, _, World.drewN_drewN _ _ _⟩ | exact ⟨rfl, _, Eq.trans (World.drewN_drewN _ _ _) (congrArg (World.drewN _) (Nat.add_assoc _ _ _))⟩)) | fail); go_wp2_with (first | (go_at_call 24; (with_reducible refine (montageref41_days.calls k a0_0 a0_1 t _ HT.out).mono ?_); rintro e w' ⟨rfl, ⟨nd, rfl⟩⟩; (try first | exact ⟨rfl, _, World.drewN_drewN _ _ _⟩ | exact ⟨rfl, _, Eq.trans (World.drewN_drewN _ _ _) (congrArg (World.drewN _) (Nat.add_assoc _ _ _))⟩)) | fail))
                  go_ret
                  exact ⟨rfl, by repeat (first | exact Below.refl _ _ | apply pw_below_drewN | apply below_drew1 | apply below_alloc)⟩
                · have d7 : decide (a0_3 ≤ 23) = true := decide_eq_true g7
                  by_cases g8 : 0 ≤ a0_4
                  rotate_left
                  · have d8 : decide (0 ≤ a0_4) = false := decide_eq_false g8
                    have HR2 := HR.out
                    unfold montageref41_May.dayOk at HR2
                    rw [d5, d6, d7, d8] at HR2
                    simp only [Bool.and_false, Bool.false_and, Bool.true_and] at HR2
                    subst HR2
                    clear HR
                    clear g5 g6 g7 g8
                    go_enter Tryd.func10, Tryd.ntmps10
                    go_wp2_with (first | (go_at_call 24; (with_reducible refine (montageref41_days.calls k a0_0 a0_1 t _ HT.out).mono ?_); rintro e w' ⟨rfl, ⟨nd, rfl⟩⟩; (try first | exact ⟨rfl, _, World.drewN_drewN _ _ _⟩ | exact ⟨rfl, _, Eq.trans (World.drewN_drewN _ _ _) (congrArg (World.drewN _) (Nat.add_assoc _ _ _))⟩)) | fail)
                    repeat (go_quiet (first | (go_at_call 24; (with_reducible refine (montageref41_days.calls k a0_0 a0_1 t _ HT.out).mono ?_); rintro e w' ⟨rfl, ⟨nd, rfl⟩⟩; (try first | exact ⟨rfl, _, World.drewN_drewN _ _ _⟩ | exact ⟨rfl, _, Eq.trans (World.drewN_drewN _ _ _) (congrArg (World.drewN _) (Nat.add_assoc _ _ _))⟩)) | fail); go_wp2_with (first | (go_at_call 24; (with_reducible refine (montageref41_days.calls k a0_0 a0_1 t _ HT.out).mono ?_); rintro e w' ⟨rfl, ⟨nd, rfl⟩⟩; (try first | exact ⟨rfl, _, World.drewN_drewN _ _ _⟩ | exact ⟨rfl, _, Eq.trans (World.drewN_drewN _ _ _) (congrArg (World.drewN _) (Nat.add_assoc _ _ _))⟩)) | fail))
                    go_ret
                    exact ⟨rfl, by repeat (first | exact Below.refl _ _ | apply pw_below_drewN | apply below_drew1 | apply below_alloc)⟩
                  · have d8 : decide (0 ≤ a0_4) = true := decide_eq_true g8
                    by_cases g9 : a0_4 ≤ 59
                    rotate_left
                    · have d9 : decide (a0_4 ≤ 59) = false := decide_eq_false g9
                      have HR2 := HR.out
                      unfold montageref41_May.dayOk at HR2
                      rw [d5, d6, d7, d8, d9] at HR2
                      simp only [Bool.and_false, Bool.false_and, Bool.true_and] at HR2
                      subst HR2
                      clear HR
                      clear g5 g6 g7 g8 g9
                      go_enter Tryd.func10, Tryd.ntmps10
                      go_wp2_with (first | (go_at_call 24; (with_reducible refine (montageref41_days.calls k a0_0 a0_1 t _ HT.out).mono ?_); rintro e w' ⟨rfl, ⟨nd, rfl⟩⟩; (try first | exact ⟨rfl, _, World.drewN_drewN _ _ _⟩ | exact ⟨rfl, _, Eq.trans (World.drewN_drewN _ _ _) (congrArg (World.drewN _) (Nat.add_assoc _ _ _))⟩)) | fail)
                      repeat (go_quiet (first | (go_at_call 24; (with_reducible refine (montageref41_days.calls k a0_0 a0_1 t _ HT.out).mono ?_); rintro e w' ⟨rfl, ⟨nd, rfl⟩⟩; (try first | exact ⟨rfl, _, World.drewN_drewN _ _ _⟩ | exact ⟨rfl, _, Eq.trans (World.drewN_drewN _ _ _) (congrArg (World.drewN _) (Nat.add_assoc _ _ _))⟩)) | fail); go_wp2_with (first | (go_at_call 24; (with_reducible refine (montageref41_days.calls k a0_0 a0_1 t _ HT.out).mono ?_); rintro e w' ⟨rfl, ⟨nd, rfl⟩⟩; (try first | exact ⟨rfl, _, World.drewN_drewN _ _ _⟩ | exact ⟨rfl, _, Eq.trans (World.drewN_drewN _ _ _) (congrArg (World.drewN _) (Nat.add_assoc _ _ _))⟩)) | fail))
                      go_ret
                      exact ⟨rfl, by repeat (first | exact Below.refl _ _ | apply pw_below_drewN | apply below_drew1 | apply below_alloc)⟩
                    · have d9 : decide (a0_4 ≤ 59) = true := decide_eq_true g9
                      by_cases g10 : 0 ≤ a0_5
                      rotate_left
                      · have d10 : decide (0 ≤ a0_5) = false := decide_eq_false g10
                        have HR2 := HR.out
                        unfold montageref41_May.dayOk at HR2
                        rw [d5, d6, d7, d8, d9, d10] at HR2
                        simp only [Bool.and_false, Bool.false_and, Bool.true_and] at HR2
                        subst HR2
                        clear HR
                        clear g5 g6 g7 g8 g9 g10
                        go_enter Tryd.func10, Tryd.ntmps10
                        go_wp2_with (first | (go_at_call 24; (with_reducible refine (montageref41_days.calls k a0_0 a0_1 t _ HT.out).mono ?_); rintro e w' ⟨rfl, ⟨nd, rfl⟩⟩; (try first | exact ⟨rfl, _, World.drewN_drewN _ _ _⟩ | exact ⟨rfl, _, Eq.trans (World.drewN_drewN _ _ _) (congrArg (World.drewN _) (Nat.add_assoc _ _ _))⟩)) | fail)
                        repeat (go_quiet (first | (go_at_call 24; (with_reducible refine (montageref41_days.calls k a0_0 a0_1 t _ HT.out).mono ?_); rintro e w' ⟨rfl, ⟨nd, rfl⟩⟩; (try first | exact ⟨rfl, _, World.drewN_drewN _ _ _⟩ | exact ⟨rfl, _, Eq.trans (World.drewN_drewN _ _ _) (congrArg (World.drewN _) (Nat.add_assoc _ _ _))⟩)) | fail); go_wp2_with (first | (go_at_call 24; (with_reducible refine (montageref41_days.calls k a0_0 a0_1 t _ HT.out).mono ?_); rintro e w' ⟨rfl, ⟨nd, rfl⟩⟩; (try first | exact ⟨rfl, _, World.drewN_drewN _ _ _⟩ | exact ⟨rfl, _, Eq.trans (World.drewN_drewN _ _ _) (congrArg (World.drewN _) (Nat.add_assoc _ _ _))⟩)) | fail))
                        go_ret
                        exact ⟨rfl, by repeat (first | exact Below.refl _ _ | apply pw_below_drewN | apply below_drew1 | apply below_alloc)⟩
                      · have d10 : decide (0 ≤ a0_5) = true := decide_eq_true g10
                        by_cases g11 : a0_5 ≤ 58
                        rotate_left
                        · have d11 : decide (a0_5 ≤ 58) = false := decide_eq_false g11
                          have HR2 := HR.out
                          unfold montageref41_May.dayOk at HR2
                          rw [d5, d6, d7, d8, d9, d10, d11] at HR2
                          simp only [Bool.and_false, Bool.false_and, Bool.true_and] at HR2
                          subst HR2
                          clear HR
                          clear g5 g6 g7 g8 g9 g10 g11
                          go_enter Tryd.func10, Tryd.ntmps10
                          go_wp2_with (first | (go_at_call 24; (with_reducible refine (montageref41_days.calls k a0_0 a0_1 t _ HT.out).mono ?_); rintro e w' ⟨rfl, ⟨nd, rfl⟩⟩; (try first | exact ⟨rfl, _, World.drewN_drewN _ _ _⟩ | exact ⟨rfl, _, Eq.trans (World.drewN_drewN _ _ _) (congrArg (World.drewN _) (Nat.add_assoc _ _ _))⟩)) | fail)
                          repeat (go_quiet (first | (go_at_call 24; (with_reducible refine (montageref41_days.calls k a0_0 a0_1 t _ HT.out).mono ?_); rintro e w' ⟨rfl, ⟨nd, rfl⟩⟩; (try first | exact ⟨rfl, _, World.drewN_drewN _ _ _⟩ | exact ⟨rfl, _, Eq.trans (World.drewN_drewN _ _ _) (congrArg (World.drewN _) (Nat.add_assoc _ _ _))⟩)) | fail); go_wp2_with (first | (go_at_call 24; (with_reducible refine (montageref41_days.calls k a0_0 a0_1 t _ HT.out).mono ?_); rintro e w' ⟨rfl, ⟨nd, rfl⟩⟩; (try first | exact ⟨rfl, _, World.drewN_drewN _ _ _⟩ | exact ⟨rfl, _, Eq.trans (World.drewN_drewN _ _ _) (congrArg (World.drewN _) (Nat.add_assoc _ _ _))⟩)) | fail))
                          go_ret
                          exact ⟨rfl, by repeat (first | exact Below.refl _ _ | apply pw_below_drewN | apply below_drew1 | apply below_alloc)⟩
                        · have d11 : decide (a0_5 ≤ 58) = true := decide_eq_true g11
                          have HR2 := HR.out
                          unfold montageref41_May.dayOk at HR2
                          rw [d5, d6, d7, d8, d9, d10, d11] at HR2
                          simp only [Bool.true_and] at HR2
                          subst HR2
                          clear HR
                          clear g5 g6 g7 g8 g9 g10 g11
                          go_enter Tryd.func10, Tryd.ntmps10
                          go_wp2_with (first | (go_at_call 24; (with_reducible refine (montageref41_days.calls k a0_0 a0_1 t _ HT.out).mono ?_); rintro e w' ⟨rfl, ⟨nd, rfl⟩⟩; (try first | exact ⟨rfl, _, World.drewN_drewN _ _ _⟩ | exact ⟨rfl, _, Eq.trans (World.drewN_drewN _ _ _) (congrArg (World.drewN _) (Nat.add_assoc _ _ _))⟩)) | fail)
                          repeat (go_quiet (first | (go_at_call 24; (with_reducible refine (montageref41_days.calls k a0_0 a0_1 t _ HT.out).mono ?_); rintro e w' ⟨rfl, ⟨nd, rfl⟩⟩; (try first | exact ⟨rfl, _, World.drewN_drewN _ _ _⟩ | exact ⟨rfl, _, Eq.trans (World.drewN_drewN _ _ _) (congrArg (World.drewN _) (Nat.add_assoc _ _ _))⟩)) | fail); go_wp2_with (first | (go_at_call 24; (with_reducible refine (montageref41_days.calls k a0_0 a0_1 t _ HT.out).mono ?_); rintro e w' ⟨rfl, ⟨nd, rfl⟩⟩; (try first | exact ⟨rfl, _, World.drewN_drewN _ _ _⟩ | exact ⟨rfl, _, Eq.trans (World.drewN_drewN _ _ _) (congrArg (World.drewN _) (Nat.add_assoc _ _ _))⟩)) | fail))
                          go_ret
                          exact ⟨rfl, by repeat (first | exact Below.refl _ _ | apply pw_below_drewN | apply below_drew1 | apply below_alloc)⟩

end Go.Proofs.YtodeagijmfoojaaDoor.PClock
