-- Written by wip/xprint of this repo (not trusted: Lean checks it).
import Derived.Test.YtdnahkeiidbihaaDoorPArmorx0
import Derived.Test.YtdnahkeiidbihaaDoorPArmorx1
import Derived.Test.YtdnahkeiidbihaaDoorPArmorx5
namespace Go.Proofs.YtdnahkeiidbihaaDoor.PArmor
open Go.RowKit Go.Proofs.YtdnahkeiidbihaaDoorW.PrintWords Go.Proofs.YtdnahkeiidbihaaDoorW.PrintLast Go.Proofs.YtdnahkeiidbihaaDoorW.PrintMore
attribute [local go_sem] max2_int min2_int max_two min_two max_three min_three max_four min_four   -- for this text's walks alone
set_option linter.unusedVariables false
set_option linter.unusedSimpArgs false

/-! ### montageref42_Bytes: function 8 -/
mutual
def montageref42_Bytes.j1 : Nat → ByteArray → Int → Option (ByteArray × Int)
  | 0, _, _ => none
  | k + 1, x0, x4 => montageref42_Bytes.l1 k x0 x4 ([] : List Int) 0 0 0
def montageref42_Bytes.l1 : Nat → ByteArray → Int → List Int → Int → Int → Int → Option (ByteArray × Int)
  | 0, _, _, _, _, _, _ => none
  | k + 1, x0, x4, x5, x6, x7, x8 => if x8 < x4 then (if 0 ≤ x8 then (if x8 < (x0.size : Int) then ((montageref42_value.f k (bt x0 x8)).bind fun t180 => (if t180 < 0 then (some ((⟨#[]⟩ : ByteArray), 2)) else (if (wrap64 (x7 + 6)) ≥ 8 then (montageref42_Bytes.l2 k x0 x4 x5 (wrap64 ((wrap64 (x6 * 64)) + t180)) (wrap64 ((wrap64 (x7 + 6)) - 8)) x8 1 0) else (montageref42_Bytes.l1 k x0 x4 x5 (wrap64 ((wrap64 (x6 * 64)) + t180)) (wrap64 (x7 + 6)) (wrap64 (x8 + 1)))))) else (none)) else (none)) else ((montageref42_Signs.f k (strOfNums x5)).bind fun t179 => (if t179.toList = x0.toList then (some (strOfNums x5, 0)) else (some ((⟨#[]⟩ : ByteArray), 2))))
def montageref42_Bytes.l2 : Nat → ByteArray → Int → List Int → Int → Int → Int → Int → Int → Option (ByteArray × Int)
  | 0, _, _, _, _, _, _, _, _ => none
  | k + 1, x0, x4, x5, x6, x7, x8, x10, x11 => if x11 < x7 then (montageref42_Bytes.l2 k x0 x4 x5 x6 x7 x8 (wrap64 (2 * x10)) (wrap64 (x11 + 1))) else (if x10 = 0 then (none) else (if x5.length < 140737488355328 then (montageref42_Bytes.l1 k x0 x4 (x5 ++ [(wrap64 (Int.tdiv x6 x10)) % 256]) (Int.tmod x6 x10) x7 (wrap64 (x8 + 1))) else (none)))
def montageref42_Bytes.l0 : Nat → ByteArray → Int → Option (ByteArray × Int)
  | 0, _, _ => none
  | k + 1, x0, x4 => if x4 > 0 then (if 0 ≤ (wrap64 (x4 - 1)) then (if (wrap64 (x4 - 1)) < (x0.size : Int) then (if (bt x0 (wrap64 (x4 - 1))) = 61 then (montageref42_Bytes.l0 k x0 (wrap64 (x4 - 1))) else (montageref42_Bytes.j1 k x0 x4)) else (none)) else (none)) else (montageref42_Bytes.j1 k x0 x4)
end
def montageref42_Bytes.f (k : Nat) (a0 : ByteArray) : Option (ByteArray × Int) := montageref42_Bytes.l0 k a0 (a0.size : Int)
theorem montageref42_Bytes.mono_l : ∀ k, (∀ y0 y1, LeO (montageref42_Bytes.j1 k y0 y1) (montageref42_Bytes.j1 (k + 1) y0 y1)) ∧ (∀ y0 y1 y2 y3 y4 y5, LeO (montageref42_Bytes.l1 k y0 y1 y2 y3 y4 y5) (montageref42_Bytes.l1 (k + 1) y0 y1 y2 y3 y4 y5)) ∧ (∀ y0 y1 y2 y3 y4 y5 y6 y7, LeO (montageref42_Bytes.l2 k y0 y1 y2 y3 y4 y5 y6 y7) (montageref42_Bytes.l2 (k + 1) y0 y1 y2 y3 y4 y5 y6 y7)) ∧ (∀ y0 y1, LeO (montageref42_Bytes.l0 k y0 y1) (montageref42_Bytes.l0 (k + 1) y0 y1))
  | 0 => ⟨fun _ _ r h => by simp [montageref42_Bytes.j1] at h, fun _ _ _ _ _ _ r h => by simp [montageref42_Bytes.l1] at h, fun _ _ _ _ _ _ _ _ r h => by simp [montageref42_Bytes.l2] at h, fun _ _ r h => by simp [montageref42_Bytes.l0] at h⟩
  | k + 1 => by
    obtain ⟨ih0, ih1, ih2, ih3⟩ := montageref42_Bytes.mono_l k
    refine ⟨?_, ?_, ?_, ?_⟩
    · intro y0 y1
      unfold montageref42_Bytes.j1
      repeat' first
      | (with_reducible exact ih0 _ _)
      | (with_reducible exact ih1 _ _ _ _ _ _)
      | (with_reducible exact ih2 _ _ _ _ _ _ _ _)
      | (with_reducible exact ih3 _ _)
      | (with_reducible exact montageref42_Signs.mono _ _)
      | (with_reducible exact montageref42_value.mono _ _)
      | (with_reducible exact LeO.refl _)
      | (with_reducible exact LeO.none _)
      | (with_reducible refine LeO.ite ?_ ?_)
      | (with_reducible refine LeO.bind ?_ (fun _ => ?_))
      | exact ih0 _ _
      | exact ih1 _ _ _ _ _ _
      | exact ih2 _ _ _ _ _ _ _ _
      | exact ih3 _ _
      | exact montageref42_Signs.mono _ _
      | exact montageref42_value.mono _ _
      | exact LeO.none _
      | refine LeO.ite ?_ ?_
      | refine LeO.bind ?_ (fun _ => ?_)
    · intro y0 y1 y2 y3 y4 y5
      unfold montageref42_Bytes.l1
      repeat' first
      | (with_reducible exact ih0 _ _)
      | (with_reducible exact ih1 _ _ _ _ _ _)
      | (with_reducible exact ih2 _ _ _ _ _ _ _ _)
      | (with_reducible exact ih3 _ _)
      | (with_reducible exact montageref42_Signs.mono _ _)
      | (with_reducible exact montageref42_value.mono _ _)
      | (with_reducible exact LeO.refl _)
      | (with_reducible exact LeO.none _)
      | (with_reducible refine LeO.ite ?_ ?_)
      | (with_reducible refine LeO.bind ?_ (fun _ => ?_))
      | exact ih0 _ _
      | exact ih1 _ _ _ _ _ _
      | exact ih2 _ _ _ _ _ _ _ _
      | exact ih3 _ _
      | exact montageref42_Signs.mono _ _
      | exact montageref42_value.mono _ _
      | exact LeO.none _
      | refine LeO.ite ?_ ?_
      | refine LeO.bind ?_ (fun _ => ?_)
    · intro y0 y1 y2 y3 y4 y5 y6 y7
      unfold montageref42_Bytes.l2
      repeat' first
      | (with_reducible exact ih0 _ _)
      | (with_reducible exact ih1 _ _ _ _ _ _)
      | (with_reducible exact ih2 _ _ _ _ _ _ _ _)
      | (with_reducible exact ih3 _ _)
      | (with_reducible exact montageref42_Signs.mono _ _)
      | (with_reducible exact montageref42_value.mono _ _)
      | (with_reducible exact LeO.refl _)
      | (with_reducible exact LeO.none _)
      | (with_reducible refine LeO.ite ?_ ?_)
      | (with_reducible refine LeO.bind ?_ (fun _ => ?_))
      | exact ih0 _ _
      | exact ih1 _ _ _ _ _ _
      | exact ih2 _ _ _ _ _ _ _ _
      | exact ih3 _ _
      | exact montageref42_Signs.mono _ _
      | exact montageref42_value.mono _ _
      | exact LeO.none _
      | refine LeO.ite ?_ ?_
      | refine LeO.bind ?_ (fun _ => ?_)
    · intro y0 y1
      unfold montageref42_Bytes.l0
      repeat' first
      | (with_reducible exact ih0 _ _)
      | (with_reducible exact ih1 _ _ _ _ _ _)
      | (with_reducible exact ih2 _ _ _ _ _ _ _ _)
      | (with_reducible exact ih3 _ _)
      | (with_reducible exact montageref42_Signs.mono _ _)
      | (with_reducible exact montageref42_value.mono _ _)
      | (with_reducible exact LeO.refl _)
      | (with_reducible exact LeO.none _)
      | (with_reducible refine LeO.ite ?_ ?_)
      | (with_reducible refine LeO.bind ?_ (fun _ => ?_))
      | exact ih0 _ _
      | exact ih1 _ _ _ _ _ _
      | exact ih2 _ _ _ _ _ _ _ _
      | exact ih3 _ _
      | exact montageref42_Signs.mono _ _
      | exact montageref42_value.mono _ _
      | exact LeO.none _
      | refine LeO.ite ?_ ?_
      | refine LeO.bind ?_ (fun _ => ?_)
theorem montageref42_Bytes.mono : ∀ a0 k, LeO (montageref42_Bytes.f k a0) (montageref42_Bytes.f (k + 1) a0) := by
  intro a0 k
  obtain ⟨ih0, ih1, ih2, ih3⟩ := montageref42_Bytes.mono_l k
  unfold montageref42_Bytes.f
  repeat' first
      | (with_reducible exact ih0 _ _)
      | (with_reducible exact ih1 _ _ _ _ _ _)
      | (with_reducible exact ih2 _ _ _ _ _ _ _ _)
      | (with_reducible exact ih3 _ _)
      | (with_reducible exact montageref42_Signs.mono _ _)
      | (with_reducible exact montageref42_value.mono _ _)
      | (with_reducible exact LeO.refl _)
      | (with_reducible exact LeO.none _)
      | (with_reducible refine LeO.ite ?_ ?_)
      | (with_reducible refine LeO.bind ?_ (fun _ => ?_))
      | exact ih0 _ _
      | exact ih1 _ _ _ _ _ _
      | exact ih2 _ _ _ _ _ _ _ _
      | exact ih3 _ _
      | exact montageref42_Signs.mono _ _
      | exact montageref42_value.mono _ _
      | exact LeO.none _
      | refine LeO.ite ?_ ?_
      | refine LeO.bind ?_ (fun _ => ?_)
set_option maxHeartbeats 8000000 in
set_option maxRecDepth 100000 in
theorem montageref42_Bytes.calls (k : Nat) (a0 : ByteArray) (r1 : ByteArray) (r2 : Int) (w : World) (h : montageref42_Bytes.f k a0 = some (r1, r2)) :
    Calls Tryd.prog 8 #[.string a0] w fun e w' => e = .returned (.tuple #[.string r1, .int .i64 r2]) ∧ Below w.heap.size w w' := by
  have HB := Aside0.mk (Below.refl w.heap.size w)
  have H : (montageref42_Bytes.l0 k a0 (a0.size : Int)) = some (r1, r2) := h
  clear h
  have HC2 := Aside0.mk H
  clear H
  go_enter Tryd.func8, Tryd.ntmps8
  go_upto_block 0 with (fail)
  go_cut [4] (fun v4 wc => ∃ (kq : Nat) (x4_1 : Int), v4 = .int .i64 x4_1 ∧ Aside0 (montageref42_Bytes.j1 kq a0 x4_1 = some (r1, r2)) ∧ Aside0 (kq ≤ k) ∧ Aside0 (Below w.heap.size w wc))
  case first =>
    have H := HC2.out
    clear HC2
    have H' := Aside0.mk H
    clear H
    go_wp2
    go_loopg [4] k (fun kq v4 w' => ∃ (x4_1 : Int), v4 = .int .i64 x4_1 ∧ Aside0 (montageref42_Bytes.l0 kq a0 x4_1 = some (r1, r2)) ∧ Aside0 (kq ≤ k) ∧ Aside0 (Below w.heap.size w w'))
    case atStart => exact ⟨((a0.size : Int)), (by first | rfl | (simp; done) | (simp [*]; done)), H', ⟨Nat.le_refl _⟩, ⟨by repeat (first | (with_reducible first | exact HB.out | apply below_alloc | apply pw_below_drewN | apply below_drew1) | exact HB.out)⟩⟩
    case round =>
      clear H'
      try clear p2
      obtain ⟨x4_1, rfl, HA, HK1, HB⟩ := hrel
      cases gk with
      | zero => exact absurd HA.out (by simp [montageref42_Bytes.l0])
      | succ k1 =>
        have H := HA.out
        clear HA
        simp only [montageref42_Bytes.l0] at H
        by_cases c3 : x4_1 > 0
        · rw [if_pos c3] at H
          have c3b0 : decide (0 < x4_1) = true := decide_eq_true c3
          clear c3
          (first | rw [c3b0] | (simp only [i64_w, i32_w]; rw [c3b0]) | skip)
          obtain ⟨ji4, hji4⟩ : ∃ j_ : Int, (wrap64 (x4_1 - 1)) = j_ := ⟨_, rfl⟩
          replace H : (if 0 ≤ (ji4) then (if (ji4) < (a0.size : Int) then (if (bt a0 (ji4)) = 61 then (montageref42_Bytes.l0 k1 a0 ji4) else (montageref42_Bytes.j1 k1 a0 x4_1)) else (none)) else (none)) = some (r1, r2) := by first | (rw [hji4] at H; exact H) | (simp only [hji4] at H ⊢; exact H)
          have hji4w : (IntKind.i64.wrap (x4_1 - 1)) = ji4 := (i64_w _).trans hji4
          by_cases c5 : 0 ≤ (ji4)
          · rw [if_pos c5] at H
            have c5b0 : decide (0 ≤ (ji4)) = true := decide_eq_true c5
            clear c5
            by_cases c6 : (ji4) < (a0.size : Int)
            · rw [if_pos c6] at H
              have c6b0 : decide ((ji4) < (a0.size : Int)) = true := decide_eq_true c6
              clear c6
              by_cases c8 : (bt a0 (ji4)) = 61
              · rw [if_pos c8] at H
                have c8b0 : ((bt a0 (ji4)) == 61) = true := beq_iff_eq.mpr c8
                have c8b1 : ((bt a0 (ji4)) != 61) = false := bne_eq_false_iff_eq.mpr c8
                clear c8
                have H' := Aside0.mk H
                clear H
                have p7 : 0 ≤ ((ji4) : Int) := of_decide_eq_true (by first | (with_reducible assumption) | assumption)
                have q7 : (ji4) < (a0.size : Int) := of_decide_eq_true (by first | (with_reducible assumption) | assumption)
                have hx7 := bt_at a0 (ji4)
                replace p7 := eq_true p7
                replace q7 := eq_true q7
                go_wp2
                go_roundg k1
                case measure => have := HK1.out; omega
                case rel => exact ⟨(ji4), (by first | rfl | (simp; done) | (simp only [← hji4] <;> (first | rfl | simp)) | (simp [*]; done)), H', ⟨by have := HK1.out; omega⟩, ⟨by repeat (first | (with_reducible first | exact HB.out | apply below_alloc | apply pw_below_drewN | apply below_drew1) | exact HB.out)⟩⟩
              · rw [if_neg c8] at H
                have c8b0 : ((bt a0 (ji4)) == 61) = false := beq_eq_false_iff_ne.mpr c8
                have c8b1 : ((bt a0 (ji4)) != 61) = true := bne_iff_ne.mpr c8
                have H' := Aside0.mk H
                clear H
                have p7 : 0 ≤ ((ji4) : Int) := of_decide_eq_true (by first | (with_reducible assumption) | assumption)
                have q7 : (ji4) < (a0.size : Int) := of_decide_eq_true (by first | (with_reducible assumption) | assumption)
                have hx7 := bt_at a0 (ji4)
                replace p7 := eq_true p7
                replace q7 := eq_true q7
                go_wp2
                go_meet
                case rel => exact ⟨_, (x4_1), (by first | rfl | (simp; done) | (simp [*]; done)), H', ⟨by have := HK1.out; first | omega | exact Nat.le_refl _⟩, ⟨by repeat (first | (with_reducible first | exact HB.out | apply below_alloc | apply pw_below_drewN | apply below_drew1) | exact HB.out)⟩⟩
            · rw [if_neg c6] at H
              exact absurd H (by simp)
          · rw [if_neg c5] at H
            exact absurd H (by simp)
        · rw [if_neg c3] at H
          have c3b0 : decide (0 < x4_1) = false := decide_eq_false c3
          clear c3
          (first | rw [c3b0] | (simp only [i64_w, i32_w]; rw [c3b0]) | skip)
          have H' := Aside0.mk H
          clear H
          go_wp2
          go_meet
          case rel => exact ⟨_, (x4_1), (by first | rfl | (simp; done) | (simp [*]; done)), H', ⟨by have := HK1.out; first | omega | exact Nat.le_refl _⟩, ⟨by repeat (first | (with_reducible first | exact HB.out | apply below_alloc | apply pw_below_drewN | apply below_drew1) | exact HB.out)⟩⟩
  case rest =>
    clear HC2
    try clear p2
    try clear c3
    try clear c3b0
    try clear c5
    try clear c5b0
    try clear c6
    try clear c6b0
    try clear p6
    try clear p7
    try clear q7
    try clear hx7
    try clear c8
    try clear c8b0
    try clear c8b1
    try clear p2
    try clear p7
    try clear q7
    obtain ⟨kq, x4_1, rfl, HA, HJ1, HB⟩ := hcut
    cases kq with
    | zero => exact absurd HA.out (by simp [montageref42_Bytes.j1])
    | succ kj1 =>
      have H := HA.out
      clear HA
      simp only [montageref42_Bytes.j1] at H
      have H' := Aside0.mk H
      clear H
      go_wp2
      go_loopg [5, 6, 7, 8] kj1 (fun kq v5 v6 v7 v8 w' => ∃ (x5_2 : List Int) (x6_2 : Int) (x7_2 : Int) (x8_2 : Int), v6 = .int .i64 x6_2 ∧ v7 = .int .i64 x7_2 ∧ v8 = .int .i64 x8_2 ∧ Aside0 (montageref42_Bytes.l1 kq a0 x4_1 x5_2 x6_2 x7_2 x8_2 = some (r1, r2)) ∧ Aside0 (kq ≤ kj1) ∧ Aside0 (Kd.R (Kd.int .u8) 5 w' w.heap.size (fun _ => True) v5 x5_2) ∧ Aside0 (Below w.heap.size w w'))
      case atStart => exact ⟨(([] : List Int)), (0), (0), (0), (by first | rfl | (simp; done) | (simp [*]; done)), (by first | rfl | (simp; done) | (simp [*]; done)), (by first | rfl | (simp; done) | (simp [*]; done)), H', ⟨Nat.le_refl _⟩, ⟨by first | exact Kd.R_nil _ _ _ _ _ | exact Kd.N_nil _ _ _ _ _ | exact Kd.V_nil _ _ _ _ _ | exact Kd.Q_nil _ _ _ _ _ | exact Kd.S_nil _ _ _ _ _⟩, ⟨by repeat (first | (with_reducible first | exact HB.out | apply below_alloc | apply pw_below_drewN | apply below_drew1) | exact HB.out)⟩⟩
      case round =>
        clear H'
        try clear p2
        try clear c3
        try clear c3b0
        try clear c5
        try clear c5b0
        try clear c6
        try clear c6b0
        try clear p6
        try clear p7
        try clear q7
        try clear hx7
        try clear c8
        try clear c8b0
        try clear c8b1
        try clear p2
        try clear p6
        try clear p7
        try clear q7
        obtain ⟨x5_2, x6_2, x7_2, x8_2, rfl, rfl, rfl, HA, HK2, HO_5, HB⟩ := hrel
        cases gk with
        | zero => exact absurd HA.out (by simp [montageref42_Bytes.l1])
        | succ k2 =>
          have H := HA.out
          clear HA
          simp only [montageref42_Bytes.l1] at H
          by_cases c9 : x8_2 < x4_1
          · rw [if_pos c9] at H
            have c9b0 : decide (x8_2 < x4_1) = true := decide_eq_true c9
            clear c9
            by_cases c10 : 0 ≤ x8_2
            · rw [if_pos c10] at H
              have c10b0 : decide (0 ≤ x8_2) = true := decide_eq_true c10
              clear c10
              by_cases c11 : x8_2 < (a0.size : Int)
              · rw [if_pos c11] at H
                have c11b0 : decide (x8_2 < (a0.size : Int)) = true := decide_eq_true c11
                clear c11
                replace H := Option.bind_eq_some_iff.mp H
                obtain ⟨t180, A130, H⟩ := H
                replace H : (if t180 < 0 then (some ((⟨#[]⟩ : ByteArray), 2)) else (if (wrap64 (x7_2 + 6)) ≥ 8 then (montageref42_Bytes.l2 k2 a0 x4_1 x5_2 (wrap64 ((wrap64 (x6_2 * 64)) + t180)) (wrap64 ((wrap64 (x7_2 + 6)) - 8)) x8_2 1 0) else (montageref42_Bytes.l1 k2 a0 x4_1 x5_2 (wrap64 ((wrap64 (x6_2 * 64)) + t180)) (wrap64 (x7_2 + 6)) (wrap64 (x8_2 + 1))))) = some (r1, r2) := H
                have A13 := Aside0.mk A130
                clear A130
                by_cases c14 : t180 < 0
                · rw [if_pos c14] at H
                  have c14b0 : decide (t180 < 0) = true := decide_eq_true c14
                  clear c14
                  simp only [Option.some.injEq, Prod.mk.injEq] at H
                  obtain ⟨rfl, rfl⟩ := H
                  have p12 : 0 ≤ (x8_2 : Int) := of_decide_eq_true (by first | (with_reducible assumption) | assumption)
                  have q12 : x8_2 < (a0.size : Int) := of_decide_eq_true (by first | (with_reducible assumption) | assumption)
                  have hx12 := bt_at a0 x8_2
                  replace p12 := eq_true p12
                  replace q12 := eq_true q12
                  go_wp2_with (first | ((with_reducible refine gate_callee (f := 17) rfl ?_); refine goesL_ (some 33) rfl rfl Tryd.func17 (by kernel_rfl) rfl #[.int .u8 (bt a0 x8_2)] rfl (by (try simp only [List.map_toArray, List.map_cons, List.map_nil]); first | done | rfl | (simp only [List.length_drop, List.length_take]; rfl)) ?_; (with_reducible refine (montageref42_value.calls k2 (bt a0 x8_2) t180 _ A13.out).mono ?_); rintro e w' ⟨rfl, ⟨nd, rfl⟩⟩; refine ⟨_, rfl, ?_⟩))
                  go_ret2
                  exact ⟨by first | rfl | (simp [errW_none, errW_some] <;> rfl) | (simp [*, errW_none, errW_some] <;> rfl), by repeat (first | (with_reducible first | exact HB.out | apply below_alloc | apply pw_below_drewN | apply below_drew1) | exact HB.out)⟩
                · rw [if_neg c14] at H
                  have c14b0 : decide (t180 < 0) = false := decide_eq_false c14
                  clear c14
                  by_cases c15 : (wrap64 (x7_2 + 6)) ≥ 8
                  · rw [if_pos c15] at H
                    have c15b0 : decide (8 ≤ (wrap64 (x7_2 + 6))) = true := decide_eq_true c15
                    clear c15
                    have H' := Aside0.mk H
                    clear H
                    have p12 : 0 ≤ (x8_2 : Int) := of_decide_eq_true (by first | (with_reducible assumption) | assumption)
                    have q12 : x8_2 < (a0.size : Int) := of_decide_eq_true (by first | (with_reducible assumption) | assumption)
                    have hx12 := bt_at a0 x8_2
                    replace p12 := eq_true p12
                    replace q12 := eq_true q12
                    go_wp2_with (first | ((with_reducible refine gate_callee (f := 17) rfl ?_); refine goesL_ (some 33) rfl rfl Tryd.func17 (by kernel_rfl) rfl #[.int .u8 (bt a0 x8_2)] rfl (by (try simp only [List.map_toArray, List.map_cons, List.map_nil]); first | done | rfl | (simp only [List.length_drop, List.length_take]; rfl)) ?_; (with_reducible refine (montageref42_value.calls k2 (bt a0 x8_2) t180 _ A13.out).mono ?_); rintro e w' ⟨rfl, ⟨nd, rfl⟩⟩; refine ⟨_, rfl, ?_⟩))
                    go_loopg [10, 11] k2 (fun kq v10 v11 w' => ∃ (x10_3 : Int) (x11_3 : Int), v10 = .int .i64 x10_3 ∧ v11 = .int .i64 x11_3 ∧ Aside0 (montageref42_Bytes.l2 kq a0 x4_1 x5_2 (wrap64 ((wrap64 (x6_2 * 64)) + t180)) (wrap64 ((wrap64 (x7_2 + 6)) - 8)) x8_2 x10_3 x11_3 = some (r1, r2)) ∧ Aside0 (kq ≤ k2) ∧ Aside0 (Kd.R (Kd.int .u8) 5 w' w.heap.size (fun _ => True) u5 x5_2) ∧ Aside0 (Below w.heap.size w w'))
                    case atStart => exact ⟨(1), (0), (by first | rfl | (simp; done) | (simp [*]; done)), (by first | rfl | (simp; done) | (simp [*]; done)), H', ⟨Nat.le_refl _⟩, ⟨by (with_reducible repeat (first | apply Kd.R_alloc | apply Kd.R_drewN | apply Kd.R_drew)); exact HO_5.out⟩, ⟨by repeat (first | (with_reducible first | exact HB.out | apply below_alloc | apply pw_below_drewN | apply below_drew1) | exact HB.out)⟩⟩
                    case round =>
                      clear H'
                      try clear c1
                      try clear p1
                      try clear q1
                      try clear hx1
                      try clear p2
                      try clear c3
                      try clear c3b0
                      try clear c5
                      try clear c5b0
                      try clear c6
                      try clear c6b0
                      try clear p6
                      try clear p7
                      try clear q7
                      try clear hx7
                      try clear c8
                      try clear c8b0
                      try clear c8b1
                      try clear c9
                      try clear c9b0
                      try clear c10
                      try clear c10b0
                      try clear c11
                      try clear c11b0
                      try clear p12
                      try clear q12
                      try clear hx12
                      try clear c14
                      try clear c14b0
                      try clear c15
                      try clear c15b0
                      try clear p12
                      try clear p2
                      try clear p6
                      try clear p7
                      try clear q12
                      try clear q7
                      obtain ⟨x10_3, x11_3, rfl, rfl, HA, HK3, HO_5, HB⟩ := hrel
                      cases gk with
                      | zero => exact absurd HA.out (by simp [montageref42_Bytes.l2])
                      | succ k3 =>
                        have H := HA.out
                        clear HA
                        simp only [montageref42_Bytes.l2] at H
                        by_cases c16 : x11_3 < (wrap64 ((wrap64 (x7_2 + 6)) - 8))
                        · rw [if_pos c16] at H
                          have c16b0 : decide (x11_3 < (wrap64 ((wrap64 (x7_2 + 6)) - 8))) = true := decide_eq_true c16
                          clear c16
                          have H' := Aside0.mk H
                          clear H
                          go_wp2
                          go_roundg k3
                          case measure => have := HJ1.out; have := HK2.out; have := HK3.out; omega
                          case rel => exact ⟨(wrap64 (2 * x10_3)), (wrap64 (x11_3 + 1)), (by first | rfl | (simp; done) | (simp [*]; done)), (by first | rfl | (simp; done) | (simp [*]; done)), H', ⟨by have := HJ1.out; have := HK2.out; have := HK3.out; omega⟩, ⟨by (with_reducible repeat (first | apply Kd.R_alloc | apply Kd.R_drewN | apply Kd.R_drew)); exact HO_5.out⟩, ⟨by repeat (first | (with_reducible first | exact HB.out | apply below_alloc | apply pw_below_drewN | apply below_drew1) | exact HB.out)⟩⟩
                        · rw [if_neg c16] at H
                          have c16b0 : decide (x11_3 < (wrap64 ((wrap64 (x7_2 + 6)) - 8))) = false := decide_eq_false c16
                          clear c16
                          by_cases c17 : x10_3 = 0
                          · rw [if_pos c17] at H
                            exact absurd H (by simp)
                          · rw [if_neg c17] at H
                            have c17b0 : (x10_3 == 0) = false := beq_eq_false_iff_ne.mpr c17
                            have c17b1 : (x10_3 != 0) = true := bne_iff_ne.mpr c17
                            by_cases c18 : x5_2.length < 140737488355328
                            · rw [if_pos c18] at H
                              have LMc18 := Aside0.mk c18
                              clear c18
                              obtain ⟨y181, hy181⟩ : ∃ y_ : List Int, y_ = (x5_2 ++ [(wrap64 (Int.tdiv (wrap64 ((wrap64 (x6_2 * 64)) + t180)) x10_3)) % 256]) := ⟨_, rfl⟩
                              replace H : (montageref42_Bytes.l1 k3 a0 x4_1 y181 (Int.tmod (wrap64 ((wrap64 (x6_2 * 64)) + t180)) x10_3) (wrap64 ((wrap64 (x7_2 + 6)) - 8)) (wrap64 (x8_2 + 1))) = some (r1, r2) := by first | (rw [hy181]; with_reducible exact H) | (have H2_ := (Option.bind_some _ _).symm.trans H; rw [hy181]; with_reducible exact H2_) | (have H2_ := (Option.bind_some _ _).symm.trans H; with_reducible exact H2_) | with_reducible exact H | (rw [hy181]; exact H) | exact H
                              have Ny181 := Aside0.mk hy181
                              clear hy181
                              have H' := Aside0.mk H
                              clear H
                              go_wp2_with (first | ((with_reducible refine gate_builtin (b := .append) (xs := #[.tmp 53, .tmp 58]) rfl ?_); at_builtin; refine Kd.R_append (Kd.int .u8) (w0 := w) w.heap.size rfl (.tmp 53) (.tmp 58) 36 5 (.int .u8 0) 1 rfl Tryd.underlying36 info5 rfl (by decide) (by omega) u5 x5_2 ((wrap64 (Int.tdiv (wrap64 ((wrap64 (x6_2 * 64)) + t180)) x10_3)) % 256) [.int .u8 ((wrap64 (Int.tdiv (wrap64 ((wrap64 (x6_2 * 64)) + t180)) x10_3)) % 256)] (fun _ => True) (fun _ => False) rfl rfl ?aP (fun _ hk => hk.elim) ?aF ?aO ?aB ?aS ?aL ?_; (case aP => exact rfl); (case aB => exact (by repeat (first | (with_reducible first | exact HB.out | apply below_alloc | apply pw_below_drewN | apply below_drew1) | exact HB.out))); (case aF => exact (fun _ _ => trivial)); (case aO => exact (by (with_reducible repeat (first | apply Kd.R_alloc | apply Kd.R_drewN | apply Kd.R_drew)); exact HO_5.out)); (case aS => exact (below_size (by repeat (first | (with_reducible first | exact HB.out | apply below_alloc | apply pw_below_drewN | apply below_drew1) | exact HB.out)))); (case aL => have := LMc18.out; omega); intro v182 w19 ho hb hg hat; rw [← Ny181.out] at ho; have n0_ := Aside0.mk (hb); have n1_ := Aside0.mk (ho); clear HB; clear HO_5; have HB := n0_; have HO183 := n1_; clear n0_ n1_; clear ho hb hg hat))
                              go_roundg k3
                              case measure => have := HJ1.out; have := HK2.out; have := HK3.out; omega
                              case rel => exact ⟨(y181), (Int.tmod (wrap64 ((wrap64 (x6_2 * 64)) + t180)) x10_3), ((wrap64 ((wrap64 (x7_2 + 6)) - 8))), (wrap64 (x8_2 + 1)), (by first | rfl | (simp; done) | (simp [*]; done)), (by first | rfl | (simp; done) | (simp [*]; done)), (by first | rfl | (simp; done) | (simp [*]; done)), H', ⟨by have := HJ1.out; have := HK2.out; have := HK3.out; omega⟩, ⟨by (with_reducible repeat (first | apply Kd.R_alloc | apply Kd.R_drewN | apply Kd.R_drew)); exact HO183.out⟩, ⟨by repeat (first | (with_reducible first | exact HB.out | apply below_alloc | apply pw_below_drewN | apply below_drew1) | exact HB.out)⟩⟩
                            · rw [if_neg c18] at H
                              exact absurd H (by simp)
                  · rw [if_neg c15] at H
                    have c15b0 : decide (8 ≤ (wrap64 (x7_2 + 6))) = false := decide_eq_false c15
                    clear c15
                    have H' := Aside0.mk H
                    clear H
                    have p12 : 0 ≤ (x8_2 : Int) := of_decide_eq_true (by first | (with_reducible assumption) | assumption)
                    have q12 : x8_2 < (a0.size : Int) := of_decide_eq_true (by first | (with_reducible assumption) | assumption)
                    have hx12 := bt_at a0 x8_2
                    replace p12 := eq_true p12
                    replace q12 := eq_true q12
                    go_wp2_with (first | ((with_reducible refine gate_callee (f := 17) rfl ?_); refine goesL_ (some 33) rfl rfl Tryd.func17 (by kernel_rfl) rfl #[.int .u8 (bt a0 x8_2)] rfl (by (try simp only [List.map_toArray, List.map_cons, List.map_nil]); first | done | rfl | (simp only [List.length_drop, List.length_take]; rfl)) ?_; (with_reducible refine (montageref42_value.calls k2 (bt a0 x8_2) t180 _ A13.out).mono ?_); rintro e w' ⟨rfl, ⟨nd, rfl⟩⟩; refine ⟨_, rfl, ?_⟩))
                    go_roundg k2
                    case measure => have := HJ1.out; have := HK2.out; omega
                    case rel => exact ⟨(x5_2), (wrap64 ((wrap64 (x6_2 * 64)) + t180)), (wrap64 (x7_2 + 6)), (wrap64 (x8_2 + 1)), (by first | rfl | (simp; done) | (simp [*]; done)), (by first | rfl | (simp; done) | (simp [*]; done)), (by first | rfl | (simp; done) | (simp [*]; done)), H', ⟨by have := HJ1.out; have := HK2.out; omega⟩, ⟨by (with_reducible repeat (first | apply Kd.R_alloc | apply Kd.R_drewN | apply Kd.R_drew)); exact HO_5.out⟩, ⟨by repeat (first | (with_reducible first | exact HB.out | apply below_alloc | apply pw_below_drewN | apply below_drew1) | exact HB.out)⟩⟩
              · rw [if_neg c11] at H
                exact absurd H (by simp)
            · rw [if_neg c10] at H
              exact absurd H (by simp)
          · rw [if_neg c9] at H
            have c9b0 : decide (x8_2 < x4_1) = false := decide_eq_false c9
            clear c9
            replace H := Option.bind_eq_some_iff.mp H
            obtain ⟨t179, A200, H⟩ := H
            replace H : (if t179.toList = a0.toList then (some (strOfNums x5_2, 0)) else (some ((⟨#[]⟩ : ByteArray), 2))) = some (r1, r2) := H
            have A20 := Aside0.mk A200
            clear A200
            by_cases c21 : t179.toList = a0.toList
            · rw [if_pos c21] at H
              have c21b0 : (t179.toList == a0.toList) = true := beq_iff_eq.mpr c21
              have c21b1 : (t179.toList != a0.toList) = false := bne_eq_false_iff_eq.mpr c21
              clear c21
              simp only [Option.some.injEq, Prod.mk.injEq] at H
              obtain ⟨rfl, rfl⟩ := H
              have hcv22 := own_string (P := Tryd.prog) Tryd.underlying36 Tryd.underlying5 Tryd.underlying9 (Kd.own_of_R HO_5.out)
              go_wp2_with (first | ((with_reducible refine gate_callee (f := 9) rfl ?_); refine goesL_ (some 65) rfl rfl Tryd.func9 (by kernel_rfl) rfl #[.string (strOfNums x5_2)] rfl (by (try simp only [List.map_toArray, List.map_cons, List.map_nil]); first | done | rfl | (simp only [List.length_drop, List.length_take]; rfl)) ?_; (with_reducible refine (montageref42_Signs.calls k2 (strOfNums x5_2) t179 _ A20.out).mono ?_); rintro e w23 ⟨rfl, hb⟩; refine ⟨_, rfl, ?_⟩; have n0_ := Aside0.mk (Kd.R_below (by (with_reducible repeat (first | apply Kd.R_alloc | apply Kd.R_drewN | apply Kd.R_drew)); exact HO_5.out) hb); have n1_ := Aside0.mk (below_step (by repeat (first | (with_reducible first | exact HB.out | apply below_alloc | apply pw_below_drewN | apply below_drew1) | exact HB.out)) hb); clear HO_5; clear HB; have HO_5 := n0_; have HB := n1_; clear n0_ n1_; (try clear hb); (try clear hb2); (try clear hk); (try clear hi); have hcv24 := own_string (P := Tryd.prog) Tryd.underlying36 Tryd.underlying5 Tryd.underlying9 (Kd.own_of_R HO_5.out)))
              go_ret2
              exact ⟨by first | rfl | (simp [errW_none, errW_some] <;> rfl) | (simp [*, errW_none, errW_some] <;> rfl), by repeat (first | (with_reducible first | exact HB.out | apply below_alloc | apply pw_below_drewN | apply below_drew1) | exact HB.out)⟩
            · rw [if_neg c21] at H
              have c21b0 : (t179.toList == a0.toList) = false := beq_eq_false_iff_ne.mpr c21
              have c21b1 : (t179.toList != a0.toList) = true := bne_iff_ne.mpr c21
              simp only [Option.some.injEq, Prod.mk.injEq] at H
              obtain ⟨rfl, rfl⟩ := H
              have hcv25 := own_string (P := Tryd.prog) Tryd.underlying36 Tryd.underlying5 Tryd.underlying9 (Kd.own_of_R HO_5.out)
              go_wp2_with (first | ((with_reducible refine gate_callee (f := 9) rfl ?_); refine goesL_ (some 65) rfl rfl Tryd.func9 (by kernel_rfl) rfl #[.string (strOfNums x5_2)] rfl (by (try simp only [List.map_toArray, List.map_cons, List.map_nil]); first | done | rfl | (simp only [List.length_drop, List.length_take]; rfl)) ?_; (with_reducible refine (montageref42_Signs.calls k2 (strOfNums x5_2) t179 _ A20.out).mono ?_); rintro e w26 ⟨rfl, hb⟩; refine ⟨_, rfl, ?_⟩; have n0_ := Aside0.mk (Kd.R_below (by (with_reducible repeat (first | apply Kd.R_alloc | apply Kd.R_drewN | apply Kd.R_drew)); exact HO_5.out) hb); have n1_ := Aside0.mk (below_step (by repeat (first | (with_reducible first | exact HB.out | apply below_alloc | apply pw_below_drewN | apply below_drew1) | exact HB.out)) hb); clear HO_5; clear HB; have HO_5 := n0_; have HB := n1_; clear n0_ n1_; (try clear hb); (try clear hb2); (try clear hk); (try clear hi)))
              go_ret2
              exact ⟨by first | rfl | (simp [errW_none, errW_some] <;> rfl) | (simp [*, errW_none, errW_some] <;> rfl), by repeat (first | (with_reducible first | exact HB.out | apply below_alloc | apply pw_below_drewN | apply below_drew1) | exact HB.out)⟩

/-! ### montagelaw42_ArmorSigns: function 3 -/
def montagelaw42_ArmorSigns.j0 : Nat → ByteArray → ByteArray → Bool → Option (Bool)
  | 0, _, _, _ => none
  | k + 1, x0, x1, x21 => if x21 = true then (some true) else ((armor_Signs.f x0).bind fun t185 => ((armor_Bytes.f t185).bind fun bt186 => ((armor_Bytes.f x1).bind fun bt188 => ((montageref42_Bytes.f k x1).bind fun bt190 => ((montageref42_Signs.f k x0).bind fun t192 => (if t185.toList = t192.toList then (if bt186.1.toList = x0.toList then (if bt186.2 = 0 then (if bt188.1.toList = bt190.1.toList then (some (bt188.2 == bt190.2)) else (some false)) else (some false)) else (some false)) else (some false)))))))
def montagelaw42_ArmorSigns.f (k : Nat) (a0 : ByteArray) (a1 : ByteArray) : Option (Bool) := (montagelaw42_awake.f k).bind fun t184 => (if t184 = true then (if (a0.size : Int) > 200 then (montagelaw42_ArmorSigns.j0 k a0 a1 true) else (montagelaw42_ArmorSigns.j0 k a0 a1 (decide ((a1.size : Int) > 200)))) else (some false))
theorem montagelaw42_ArmorSigns.mono_l : ∀ k, (∀ y0 y1 y2, LeO (montagelaw42_ArmorSigns.j0 k y0 y1 y2) (montagelaw42_ArmorSigns.j0 (k + 1) y0 y1 y2))
  | 0 => fun _ _ _ r h => by simp [montagelaw42_ArmorSigns.j0] at h
  | k + 1 => by
    have ih0 := montagelaw42_ArmorSigns.mono_l k
    · intro y0 y1 y2
      unfold montagelaw42_ArmorSigns.j0
      repeat' first
      | (with_reducible exact ih0 _ _ _)
      | (with_reducible exact montagelaw42_awake.mono _)
      | (with_reducible exact montageref42_Bytes.mono _ _)
      | (with_reducible exact montageref42_Signs.mono _ _)
      | (with_reducible exact LeO.refl _)
      | (with_reducible exact LeO.none _)
      | (with_reducible refine LeO.ite ?_ ?_)
      | (with_reducible refine LeO.bind ?_ (fun _ => ?_))
      | exact ih0 _ _ _
      | exact montagelaw42_awake.mono _
      | exact montageref42_Bytes.mono _ _
      | exact montageref42_Signs.mono _ _
      | exact LeO.none _
      | refine LeO.ite ?_ ?_
      | refine LeO.bind ?_ (fun _ => ?_)
theorem montagelaw42_ArmorSigns.mono : ∀ a0 a1 k, LeO (montagelaw42_ArmorSigns.f k a0 a1) (montagelaw42_ArmorSigns.f (k + 1) a0 a1) := by
  intro a0 a1 k
  have ih0 := montagelaw42_ArmorSigns.mono_l k
  unfold montagelaw42_ArmorSigns.f
  repeat' first
      | (with_reducible exact ih0 _ _ _)
      | (with_reducible exact montagelaw42_awake.mono _)
      | (with_reducible exact montageref42_Bytes.mono _ _)
      | (with_reducible exact montageref42_Signs.mono _ _)
      | (with_reducible exact LeO.refl _)
      | (with_reducible exact LeO.none _)
      | (with_reducible refine LeO.ite ?_ ?_)
      | (with_reducible refine LeO.bind ?_ (fun _ => ?_))
      | exact ih0 _ _ _
      | exact montagelaw42_awake.mono _
      | exact montageref42_Bytes.mono _ _
      | exact montageref42_Signs.mono _ _
      | exact LeO.none _
      | refine LeO.ite ?_ ?_
      | refine LeO.bind ?_ (fun _ => ?_)
set_option maxHeartbeats 8000000 in
set_option maxRecDepth 100000 in
theorem montagelaw42_ArmorSigns.calls (k : Nat) (a0 : ByteArray) (a1 : ByteArray) (r : Bool) (w : World) (h : montagelaw42_ArmorSigns.f k a0 a1 = some r) (hr_ : r = true) :
    Calls Tryd.prog 3 #[.string a0, .string a1] w fun e w' => e = .returned (.bool r) ∧ Below w.heap.size w w' := by
  have HB := Aside0.mk (Below.refl w.heap.size w)
  have H : ((montagelaw42_awake.f k).bind fun t184 => (if t184 = true then (if (a0.size : Int) > 200 then (montagelaw42_ArmorSigns.j0 k a0 a1 true) else (montagelaw42_ArmorSigns.j0 k a0 a1 (decide ((a1.size : Int) > 200)))) else (some false))) = some r := h
  clear h
  replace H := Option.bind_eq_some_iff.mp H
  obtain ⟨t184, A30, H⟩ := H
  replace H : (if t184 = true then (if (a0.size : Int) > 200 then (montagelaw42_ArmorSigns.j0 k a0 a1 true) else (montagelaw42_ArmorSigns.j0 k a0 a1 (decide ((a1.size : Int) > 200)))) else (some false)) = some r := H
  have A3 := Aside0.mk A30
  clear A30
  by_cases c4 : t184 = true
  · subst c4
    have H1 : (if (a0.size : Int) > 200 then (montagelaw42_ArmorSigns.j0 k a0 a1 true) else (montagelaw42_ArmorSigns.j0 k a0 a1 (decide ((a1.size : Int) > 200)))) = some r := by rw [if_pos rfl] at H; exact H
    clear H
    have H := H1
    clear H1
    have HC5 := Aside0.mk H
    clear H
    go_enter Tryd.func3, Tryd.ntmps3
    go_upto_region 3 with (first | ((with_reducible refine gate_callee (f := 5) rfl ?_); refine goesL_ (some 12) rfl rfl Tryd.func5 (by kernel_rfl) rfl #[] rfl (by (try simp only [List.map_toArray, List.map_cons, List.map_nil]); first | done | rfl | (simp only [List.length_drop, List.length_take]; rfl)) ?_; (with_reducible refine (montagelaw42_awake.calls k  true _ A3.out).mono ?_); rintro e w6 ⟨rfl, hb⟩; refine ⟨_, rfl, ?_⟩; have n0_ := Aside0.mk (below_step (by repeat (first | (with_reducible first | exact HB.out | apply below_alloc | apply pw_below_drewN | apply below_drew1) | exact HB.out)) hb); clear HB; have HB := n0_; clear n0_; (try clear hb); (try clear hb2); (try clear hk); (try clear hi)))
    (try simp only [Act.put, List.setIfInBounds_toArray, List.set_cons_zero, List.set_cons_succ])
    go_cut [21] (fun v21 wc => ∃ (kq : Nat) (x21_4 : Bool), v21 = .bool x21_4 ∧ Aside0 (montagelaw42_ArmorSigns.j0 kq a0 a1 x21_4 = some r) ∧ Aside0 (kq ≤ k) ∧ Aside0 (Below w.heap.size w wc))
    case first =>
      have H := HC5.out
      clear HC5
      by_cases c7 : (a0.size : Int) > 200
      · rw [if_pos c7] at H
        have c7b0 : decide (200 < (a0.size : Int)) = true := decide_eq_true c7
        have c7b1 : decide (200 < a0.size) = true := decide_eq_true (by omega)
        clear c7
        (first | rw [c7b0] | (simp only [i64_w, i32_w]; rw [c7b0]) | skip)
        have H' := Aside0.mk H
        clear H
        go_wp2
        go_meet
        case rel => exact ⟨_, (true), (by first | rfl | (simp; done) | (simp [*]; done)), H', ⟨by first | omega | exact Nat.le_refl _⟩, ⟨by repeat (first | (with_reducible first | exact HB.out | apply below_alloc | apply pw_below_drewN | apply below_drew1) | exact HB.out)⟩⟩
      · rw [if_neg c7] at H
        have c7b0 : decide (200 < (a0.size : Int)) = false := decide_eq_false c7
        have c7b1 : decide (200 < a0.size) = false := decide_eq_false (by omega)
        clear c7
        (first | rw [c7b0] | (simp only [i64_w, i32_w]; rw [c7b0]) | skip)
        have H' := Aside0.mk H
        clear H
        go_wp2
        go_meet
        case rel => exact ⟨_, (decide ((a1.size : Int) > 200)), (by first | rfl | (simp; done) | (simp [*]; done)), H', ⟨by first | omega | exact Nat.le_refl _⟩, ⟨by repeat (first | (with_reducible first | exact HB.out | apply below_alloc | apply pw_below_drewN | apply below_drew1) | exact HB.out)⟩⟩
    case rest =>
      clear HC5
      try clear p2
      try clear c3
      try clear c4
      try clear c5
      try clear c7
      try clear c7b0
      try clear c7b1
      obtain ⟨kq, x21_4, rfl, HA, HJ4, HB⟩ := hcut
      cases kq with
      | zero => exact absurd HA.out (by simp [montagelaw42_ArmorSigns.j0])
      | succ kj4 =>
        have H := HA.out
        clear HA
        simp only [montagelaw42_ArmorSigns.j0] at H
        by_cases c8 : x21_4 = true
        · subst c8
          have H1 : (some true) = some r := by rw [if_pos rfl] at H; exact H
          clear H
          have H := H1
          clear H1
          obtain rfl := Option.some.inj H
          clear hr_
          go_wp2
          go_ret
          exact ⟨by first | rfl | (simp [errW_none, errW_some] <;> rfl) | (simp [*, errW_none, errW_some] <;> rfl), by repeat (first | (with_reducible first | exact HB.out | apply below_alloc | apply pw_below_drewN | apply below_drew1) | exact HB.out)⟩
        · replace c8 := Bool.eq_false_iff.mpr c8
          subst c8
          have H1 : ((armor_Signs.f a0).bind fun t185 => ((armor_Bytes.f t185).bind fun bt186 => ((armor_Bytes.f a1).bind fun bt188 => ((montageref42_Bytes.f kj4 a1).bind fun bt190 => ((montageref42_Signs.f kj4 a0).bind fun t192 => (if t185.toList = t192.toList then (if bt186.1.toList = a0.toList then (if bt186.2 = 0 then (if bt188.1.toList = bt190.1.toList then (some (bt188.2 == bt190.2)) else (some false)) else (some false)) else (some false)) else (some false))))))) = some r := by rw [if_neg (show ¬ (false = true) by decide)] at H; exact H
          clear H
          have H := H1
          clear H1
          replace H := Option.bind_eq_some_iff.mp H
          obtain ⟨t185, A90, H⟩ := H
          replace H : ((armor_Bytes.f t185).bind fun bt186 => ((armor_Bytes.f a1).bind fun bt188 => ((montageref42_Bytes.f kj4 a1).bind fun bt190 => ((montageref42_Signs.f kj4 a0).bind fun t192 => (if t185.toList = t192.toList then (if bt186.1.toList = a0.toList then (if bt186.2 = 0 then (if bt188.1.toList = bt190.1.toList then (some (bt188.2 == bt190.2)) else (some false)) else (some false)) else (some false)) else (some false)))))) = some r := H
          have A9 := Aside0.mk A90
          clear A90
          replace H := Option.bind_eq_some_iff.mp H
          obtain ⟨⟨t186, t187⟩, A100, H⟩ := H
          replace H : ((armor_Bytes.f a1).bind fun bt188 => ((montageref42_Bytes.f kj4 a1).bind fun bt190 => ((montageref42_Signs.f kj4 a0).bind fun t192 => (if t185.toList = t192.toList then (if t186.toList = a0.toList then (if t187 = 0 then (if bt188.1.toList = bt190.1.toList then (some (bt188.2 == bt190.2)) else (some false)) else (some false)) else (some false)) else (some false))))) = some r := H
          have A10 := Aside0.mk A100
          clear A100
          replace H := Option.bind_eq_some_iff.mp H
          obtain ⟨⟨t188, t189⟩, A110, H⟩ := H
          replace H : ((montageref42_Bytes.f kj4 a1).bind fun bt190 => ((montageref42_Signs.f kj4 a0).bind fun t192 => (if t185.toList = t192.toList then (if t186.toList = a0.toList then (if t187 = 0 then (if t188.toList = bt190.1.toList then (some (t189 == bt190.2)) else (some false)) else (some false)) else (some false)) else (some false)))) = some r := H
          have A11 := Aside0.mk A110
          clear A110
          replace H := Option.bind_eq_some_iff.mp H
          obtain ⟨⟨t190, t191⟩, A120, H⟩ := H
          replace H : ((montageref42_Signs.f kj4 a0).bind fun t192 => (if t185.toList = t192.toList then (if t186.toList = a0.toList then (if t187 = 0 then (if t188.toList = t190.toList then (some (t189 == t191)) else (some false)) else (some false)) else (some false)) else (some false))) = some r := H
          have A12 := Aside0.mk A120
          clear A120
          replace H := Option.bind_eq_some_iff.mp H
          obtain ⟨t192, A130, H⟩ := H
          replace H : (if t185.toList = t192.toList then (if t186.toList = a0.toList then (if t187 = 0 then (if t188.toList = t190.toList then (some (t189 == t191)) else (some false)) else (some false)) else (some false)) else (some false)) = some r := H
          have A13 := Aside0.mk A130
          clear A130
          by_cases c14 : t185.toList = t192.toList
          · rw [if_pos c14] at H
            have c14b0 : (t185.toList == t192.toList) = true := beq_iff_eq.mpr c14
            have c14b1 : (t185.toList != t192.toList) = false := bne_eq_false_iff_eq.mpr c14
            clear c14
            by_cases c15 : t186.toList = a0.toList
            · rw [if_pos c15] at H
              have c15b0 : (t186.toList == a0.toList) = true := beq_iff_eq.mpr c15
              have c15b1 : (t186.toList != a0.toList) = false := bne_eq_false_iff_eq.mpr c15
              clear c15
              by_cases c16 : t187 = 0
              · rw [if_pos c16] at H
                have c16b0 : (t187 == 0) = true := beq_iff_eq.mpr c16
                have c16b1 : (t187 != 0) = false := bne_eq_false_iff_eq.mpr c16
                clear c16
                by_cases c17 : t188.toList = t190.toList
                · rw [if_pos c17] at H
                  have c17b0 : (t188.toList == t190.toList) = true := beq_iff_eq.mpr c17
                  have c17b1 : (t188.toList != t190.toList) = false := bne_eq_false_iff_eq.mpr c17
                  clear c17
                  obtain rfl := Option.some.inj H
                  go_wp2_with (first | ((with_reducible refine gate_callee (f := 6) rfl ?_); refine goesL_ (some 23) rfl rfl Tryd.func6 (by kernel_rfl) rfl #[.string a0] rfl (by (try simp only [List.map_toArray, List.map_cons, List.map_nil]); first | done | rfl | (simp only [List.length_drop, List.length_take]; rfl)) ?_; (with_reducible refine (armor_Signs.calls a0 t185 _ A9.out).mono ?_); rintro e w18 ⟨rfl, hb⟩; refine ⟨_, rfl, ?_⟩; have n0_ := Aside0.mk (below_step (by repeat (first | (with_reducible first | exact HB.out | apply below_alloc | apply pw_below_drewN | apply below_drew1) | exact HB.out)) hb); clear HB; have HB := n0_; clear n0_; (try clear hb); (try clear hb2); (try clear hk); (try clear hi)) | ((with_reducible refine gate_callee (f := 7) rfl ?_); refine goesL_ (some 26) rfl rfl Tryd.func7 (by kernel_rfl) rfl #[.string t185] rfl (by (try simp only [List.map_toArray, List.map_cons, List.map_nil]); first | done | rfl | (simp only [List.length_drop, List.length_take]; rfl)) ?_; (with_reducible refine (armor_Bytes.calls t185 t186 t187 _ A10.out).mono ?_); rintro e w19 ⟨rfl, hb⟩; refine ⟨_, rfl, ?_⟩; have n0_ := Aside0.mk (below_step (by repeat (first | (with_reducible first | exact HB.out | apply below_alloc | apply pw_below_drewN | apply below_drew1) | exact HB.out)) hb); clear HB; have HB := n0_; clear n0_; (try clear hb); (try clear hb2); (try clear hk); (try clear hi)) | ((with_reducible refine gate_callee (f := 7) rfl ?_); refine goesL_ (some 31) rfl rfl Tryd.func7 (by kernel_rfl) rfl #[.string a1] rfl (by (try simp only [List.map_toArray, List.map_cons, List.map_nil]); first | done | rfl | (simp only [List.length_drop, List.length_take]; rfl)) ?_; (with_reducible refine (armor_Bytes.calls a1 t188 t189 _ A11.out).mono ?_); rintro e w20 ⟨rfl, hb⟩; refine ⟨_, rfl, ?_⟩; have n0_ := Aside0.mk (below_step (by repeat (first | (with_reducible first | exact HB.out | apply below_alloc | apply pw_below_drewN | apply below_drew1) | exact HB.out)) hb); clear HB; have HB := n0_; clear n0_; (try clear hb); (try clear hb2); (try clear hk); (try clear hi)) | ((with_reducible refine gate_callee (f := 8) rfl ?_); refine goesL_ (some 36) rfl rfl Tryd.func8 (by kernel_rfl) rfl #[.string a1] rfl (by (try simp only [List.map_toArray, List.map_cons, List.map_nil]); first | done | rfl | (simp only [List.length_drop, List.length_take]; rfl)) ?_; (with_reducible refine (montageref42_Bytes.calls kj4 a1 t190 t191 _ A12.out).mono ?_); rintro e w21 ⟨rfl, hb⟩; refine ⟨_, rfl, ?_⟩; have n0_ := Aside0.mk (below_step (by repeat (first | (with_reducible first | exact HB.out | apply below_alloc | apply pw_below_drewN | apply below_drew1) | exact HB.out)) hb); clear HB; have HB := n0_; clear n0_; (try clear hb); (try clear hb2); (try clear hk); (try clear hi)) | ((with_reducible refine gate_callee (f := 9) rfl ?_); refine goesL_ (some 41) rfl rfl Tryd.func9 (by kernel_rfl) rfl #[.string a0] rfl (by (try simp only [List.map_toArray, List.map_cons, List.map_nil]); first | done | rfl | (simp only [List.length_drop, List.length_take]; rfl)) ?_; (with_reducible refine (montageref42_Signs.calls kj4 a0 t192 _ A13.out).mono ?_); rintro e w22 ⟨rfl, hb⟩; refine ⟨_, rfl, ?_⟩; have n0_ := Aside0.mk (below_step (by repeat (first | (with_reducible first | exact HB.out | apply below_alloc | apply pw_below_drewN | apply below_drew1) | exact HB.out)) hb); clear HB; have HB := n0_; clear n0_; (try clear hb); (try clear hb2); (try clear hk); (try clear hi)))
                  go_ret
                  exact ⟨by first | rfl | (simp [errW_none, errW_some] <;> rfl) | (simp [*, errW_none, errW_some] <;> rfl), by repeat (first | (with_reducible first | exact HB.out | apply below_alloc | apply pw_below_drewN | apply below_drew1) | exact HB.out)⟩
                · rw [if_neg c17] at H
                  have c17b0 : (t188.toList == t190.toList) = false := beq_eq_false_iff_ne.mpr c17
                  have c17b1 : (t188.toList != t190.toList) = true := bne_iff_ne.mpr c17
                  obtain rfl := Option.some.inj H
                  cases hr_
              · rw [if_neg c16] at H
                have c16b0 : (t187 == 0) = false := beq_eq_false_iff_ne.mpr c16
                have c16b1 : (t187 != 0) = true := bne_iff_ne.mpr c16
                obtain rfl := Option.some.inj H
                cases hr_
            · rw [if_neg c15] at H
              have c15b0 : (t186.toList == a0.toList) = false := beq_eq_false_iff_ne.mpr c15
              have c15b1 : (t186.toList != a0.toList) = true := bne_iff_ne.mpr c15
              obtain rfl := Option.some.inj H
              cases hr_
          · rw [if_neg c14] at H
            have c14b0 : (t185.toList == t192.toList) = false := beq_eq_false_iff_ne.mpr c14
            have c14b1 : (t185.toList != t192.toList) = true := bne_iff_ne.mpr c14
            obtain rfl := Option.some.inj H
            cases hr_
  · replace c4 := Bool.eq_false_iff.mpr c4
    subst c4
    have H1 : (some false) = some r := by rw [if_neg (show ¬ (false = true) by decide)] at H; exact H
    clear H
    have H := H1
    clear H1
    obtain rfl := Option.some.inj H
    cases hr_

/-- THE ONE PURE STATEMENT of montagelaw42_ArmorSigns: yours. -/
def montagelaw42_ArmorSigns.Pure : Prop := ∀ (a0 : ByteArray) (a1 : ByteArray), a0.size ≤ 140737488351232 → a1.size ≤ 140737488351232 → ∃ k, montagelaw42_ArmorSigns.f k a0 a1 = some true
theorem montagelaw42_ArmorSigns.walk (P : montagelaw42_ArmorSigns.Pure) (a0 : ByteArray) (a1 : ByteArray) (w : World) (w0 : a0.size ≤ 140737488351232) (w1 : a1.size ≤ 140737488351232) :
    Calls Tryd.prog 3 #[.string a0, .string a1] w fun e w' => e = .returned (.bool true) ∧ Below w.heap.size w w' := by
  obtain ⟨k, h⟩ := P a0 a1 w0 w1
  refine (montagelaw42_ArmorSigns.calls k a0 a1 true w (hr_ := rfl) h).mono ?_
  rintro e w' ⟨rfl, hd⟩
  exact ⟨rfl, hd⟩

/-! ### montageref42_name: function 22 -/
mutual
def montageref42_name.j0 : Nat → ByteArray → Bool → Option (Bool)
  | 0, _, _ => none
  | k + 1, x0, x11 => if x11 = true then (some false) else (montageref42_name.l0 k x0 0)
def montageref42_name.l0 : Nat → ByteArray → Int → Option (Bool)
  | 0, _, _ => none
  | k + 1, x0, x3 => if x3 < (x0.size : Int) then (if 0 ≤ x3 then (if (bt x0 x3) < 65 then (some false) else (if (bt x0 x3) > 90 then (some false) else (montageref42_name.l0 k x0 (wrap64 (x3 + 1))))) else (none)) else (some true)
end
def montageref42_name.f (k : Nat) (a0 : ByteArray) : Option (Bool) := if (a0.size : Int) < 1 then (montageref42_name.j0 k a0 true) else (montageref42_name.j0 k a0 (decide ((a0.size : Int) > 30)))
theorem montageref42_name.mono_l : ∀ k, (∀ y0 y1, LeO (montageref42_name.j0 k y0 y1) (montageref42_name.j0 (k + 1) y0 y1)) ∧ (∀ y0 y1, LeO (montageref42_name.l0 k y0 y1) (montageref42_name.l0 (k + 1) y0 y1))
  | 0 => ⟨fun _ _ r h => by simp [montageref42_name.j0] at h, fun _ _ r h => by simp [montageref42_name.l0] at h⟩
  | k + 1 => by
    obtain ⟨ih0, ih1⟩ := montageref42_name.mono_l k
    refine ⟨?_, ?_⟩
    · intro y0 y1
      unfold montageref42_name.j0
      repeat' first
      | (with_reducible exact ih0 _ _)
      | (with_reducible exact ih1 _ _)
      | (with_reducible exact LeO.refl _)
      | (with_reducible exact LeO.none _)
      | (with_reducible refine LeO.ite ?_ ?_)
      | (with_reducible refine LeO.bind ?_ (fun _ => ?_))
      | exact ih0 _ _
      | exact ih1 _ _
      | exact LeO.none _
      | refine LeO.ite ?_ ?_
      | refine LeO.bind ?_ (fun _ => ?_)
    · intro y0 y1
      unfold montageref42_name.l0
      repeat' first
      | (with_reducible exact ih0 _ _)
      | (with_reducible exact ih1 _ _)
      | (with_reducible exact LeO.refl _)
      | (with_reducible exact LeO.none _)
      | (with_reducible refine LeO.ite ?_ ?_)
      | (with_reducible refine LeO.bind ?_ (fun _ => ?_))
      | exact ih0 _ _
      | exact ih1 _ _
      | exact LeO.none _
      | refine LeO.ite ?_ ?_
      | refine LeO.bind ?_ (fun _ => ?_)
theorem montageref42_name.mono : ∀ a0 k, LeO (montageref42_name.f k a0) (montageref42_name.f (k + 1) a0) := by
  intro a0 k
  obtain ⟨ih0, ih1⟩ := montageref42_name.mono_l k
  unfold montageref42_name.f
  repeat' first
      | (with_reducible exact ih0 _ _)
      | (with_reducible exact ih1 _ _)
      | (with_reducible exact LeO.refl _)
      | (with_reducible exact LeO.none _)
      | (with_reducible refine LeO.ite ?_ ?_)
      | (with_reducible refine LeO.bind ?_ (fun _ => ?_))
      | exact ih0 _ _
      | exact ih1 _ _
      | exact LeO.none _
      | refine LeO.ite ?_ ?_
      | refine LeO.bind ?_ (fun _ => ?_)
set_option maxHeartbeats 8000000 in
set_option maxRecDepth 100000 in
theorem montageref42_name.calls (k : Nat) (a0 : ByteArray) (r : Bool) (w : World) (h : montageref42_name.f k a0 = some r) :
    Calls Tryd.prog 22 #[.string a0] w fun e w' => e = .returned (.bool r) ∧ Drawn0 w w' := by
  have H : (if (a0.size : Int) < 1 then (montageref42_name.j0 k a0 true) else (montageref42_name.j0 k a0 (decide ((a0.size : Int) > 30)))) = some r := h
  clear h
  have HC2 := Aside0.mk H
  clear H
  go_enter Tryd.func22, Tryd.ntmps22
  go_upto_region 1 with (fail)
  go_cut [11] (fun v11 wc => ∃ (kq : Nat) (x11_1 : Bool), v11 = .bool x11_1 ∧ Aside0 (montageref42_name.j0 kq a0 x11_1 = some r) ∧ Aside0 (kq ≤ k) ∧ Drawn0 w wc)
  case first =>
    have H := HC2.out
    clear HC2
    by_cases c3 : (a0.size : Int) < 1
    · rw [if_pos c3] at H
      have c3b0 : decide ((a0.size : Int) < 1) = true := decide_eq_true c3
      have c3b1 : decide (a0.size < 1) = true := decide_eq_true (by omega)
      clear c3
      (first | rw [c3b0] | (simp only [i64_w, i32_w]; rw [c3b0]) | skip)
      have H' := Aside0.mk H
      clear H
      go_wp2
      go_meet
      case rel => exact ⟨_, (true), (by first | rfl | (simp; done) | (simp [*]; done)), H', ⟨by first | omega | exact Nat.le_refl _⟩, by repeat (first | exact Drawn0.refl _ | apply Drawn0.step)⟩
    · rw [if_neg c3] at H
      have c3b0 : decide ((a0.size : Int) < 1) = false := decide_eq_false c3
      have c3b1 : decide (a0.size < 1) = false := decide_eq_false (by omega)
      clear c3
      (first | rw [c3b0] | (simp only [i64_w, i32_w]; rw [c3b0]) | skip)
      have H' := Aside0.mk H
      clear H
      go_wp2
      go_meet
      case rel => exact ⟨_, (decide ((a0.size : Int) > 30)), (by first | rfl | (simp; done) | (simp [*]; done)), H', ⟨by first | omega | exact Nat.le_refl _⟩, by repeat (first | exact Drawn0.refl _ | apply Drawn0.step)⟩
  case rest =>
    clear HC2
    try clear c2
    try clear p2
    try clear c3
    try clear c3b0
    try clear c3b1
    obtain ⟨kq, x11_1, rfl, HA, HJ1, ⟨mc1, rfl⟩⟩ := hcut
    cases kq with
    | zero => exact absurd HA.out (by simp [montageref42_name.j0])
    | succ kj1 =>
      have H := HA.out
      clear HA
      simp only [montageref42_name.j0] at H
      by_cases c4 : x11_1 = true
      · subst c4
        have H1 : (some false) = some r := by rw [if_pos rfl] at H; exact H
        clear H
        have H := H1
        clear H1
        obtain rfl := Option.some.inj H
        simp only [Option.some.injEq, Prod.mk.injEq] at H
        obtain ⟨rfl⟩ := H
        go_wp2
        go_ret
        exact ⟨by first | rfl | (simp; done) | (simp [*]; done), by repeat (first | exact Drawn0.refl _ | apply Drawn0.step)⟩
      · replace c4 := Bool.eq_false_iff.mpr c4
        subst c4
        have H1 : (montageref42_name.l0 kj1 a0 0) = some r := by rw [if_neg (show ¬ (false = true) by decide)] at H; exact H
        clear H
        have H := H1
        clear H1
        have H' := Aside0.mk H
        clear H
        go_wp2
        go_loopg [3] kj1 (fun kq v3 w' => ∃ (x3_2 : Int), v3 = .int .i64 x3_2 ∧ Aside0 (montageref42_name.l0 kq a0 x3_2 = some r) ∧ Aside0 (kq ≤ kj1) ∧ Drawn0 w w')
        case atStart => exact ⟨(0), (by first | rfl | (simp; done) | (simp [*]; done)), H', ⟨Nat.le_refl _⟩, by repeat (first | exact Drawn0.refl _ | apply Drawn0.step)⟩
        case round =>
          clear H'
          try clear c1
          try clear c2
          try clear p2
          try clear c3
          try clear c3b0
          try clear c3b1
          try clear c4
          try clear p2
          obtain ⟨x3_2, rfl, HA, HK2, ⟨m2, rfl⟩⟩ := hrel
          cases gk with
          | zero => exact absurd HA.out (by simp [montageref42_name.l0])
          | succ k2 =>
            have H := HA.out
            clear HA
            simp only [montageref42_name.l0] at H
            by_cases c5 : x3_2 < (a0.size : Int)
            · rw [if_pos c5] at H
              have c5b0 : decide (x3_2 < (a0.size : Int)) = true := decide_eq_true c5
              clear c5
              by_cases c6 : 0 ≤ x3_2
              · rw [if_pos c6] at H
                have c6b0 : decide (0 ≤ x3_2) = true := decide_eq_true c6
                clear c6
                by_cases c8 : (bt a0 x3_2) < 65
                · rw [if_pos c8] at H
                  have c8b0 : decide ((bt a0 x3_2) < 65) = true := decide_eq_true c8
                  clear c8
                  obtain rfl := Option.some.inj H
                  simp only [Option.some.injEq, Prod.mk.injEq] at H
                  obtain ⟨rfl⟩ := H
                  have p7 : 0 ≤ (x3_2 : Int) := of_decide_eq_true (by first | (with_reducible assumption) | assumption)
                  have q7 : x3_2 < (a0.size : Int) := of_decide_eq_true (by first | (with_reducible assumption) | assumption)
                  have hx7 := bt_at a0 x3_2
                  replace p7 := eq_true p7
                  replace q7 := eq_true q7
                  go_wp2
                  go_ret
                  exact ⟨by first | rfl | (simp; done) | (simp [*]; done), by repeat (first | exact Drawn0.refl _ | apply Drawn0.step)⟩
                · rw [if_neg c8] at H
                  have c8b0 : decide ((bt a0 x3_2) < 65) = false := decide_eq_false c8
                  clear c8
                  by_cases c10 : (bt a0 x3_2) > 90
                  · rw [if_pos c10] at H
                    have c10b0 : decide (90 < (bt a0 x3_2)) = true := decide_eq_true c10
                    clear c10
                    obtain rfl := Option.some.inj H
                    simp only [Option.some.injEq, Prod.mk.injEq] at H
                    obtain ⟨rfl⟩ := H
                    have p7 : 0 ≤ (x3_2 : Int) := of_decide_eq_true (by first | (with_reducible assumption) | assumption)
                    have q7 : x3_2 < (a0.size : Int) := of_decide_eq_true (by first | (with_reducible assumption) | assumption)
                    have hx7 := bt_at a0 x3_2
                    replace p7 := eq_true p7
                    replace q7 := eq_true q7
                    have p9 : 0 ≤ (x3_2 : Int) := of_decide_eq_true (by first | (with_reducible assumption) | assumption)
                    have q9 : x3_2 < (a0.size : Int) := of_decide_eq_true (by first | (with_reducible assumption) | assumption)
                    have hx9 := bt_at a0 x3_2
                    replace p9 := eq_true p9
                    replace q9 := eq_true q9
                    go_wp2
                    go_ret
                    exact ⟨by first | rfl | (simp; done) | (simp [*]; done), by repeat (first | exact Drawn0.refl _ | apply Drawn0.step)⟩
                  · rw [if_neg c10] at H
                    have c10b0 : decide (90 < (bt a0 x3_2)) = false := decide_eq_false c10
                    clear c10
                    have H' := Aside0.mk H
                    clear H
                    have p7 : 0 ≤ (x3_2 : Int) := of_decide_eq_true (by first | (with_reducible assumption) | assumption)
                    have q7 : x3_2 < (a0.size : Int) := of_decide_eq_true (by first | (with_reducible assumption) | assumption)
                    have hx7 := bt_at a0 x3_2
                    replace p7 := eq_true p7
                    replace q7 := eq_true q7
                    have p9 : 0 ≤ (x3_2 : Int) := of_decide_eq_true (by first | (with_reducible assumption) | assumption)
                    have q9 : x3_2 < (a0.size : Int) := of_decide_eq_true (by first | (with_reducible assumption) | assumption)
                    have hx9 := bt_at a0 x3_2
                    replace p9 := eq_true p9
                    replace q9 := eq_true q9
                    go_wp2
                    go_roundg k2
                    case measure => have := HJ1.out; have := HK2.out; omega
                    case rel => exact ⟨(wrap64 (x3_2 + 1)), (by first | rfl | (simp; done) | (simp [*]; done)), H', ⟨by have := HJ1.out; have := HK2.out; omega⟩, by repeat (first | exact Drawn0.refl _ | apply Drawn0.step)⟩
              · rw [if_neg c6] at H
                exact absurd H (by simp)
            · rw [if_neg c5] at H
              have c5b0 : decide (x3_2 < (a0.size : Int)) = false := decide_eq_false c5
              clear c5
              obtain rfl := Option.some.inj H
              simp only [Option.some.injEq, Prod.mk.injEq] at H
              obtain ⟨rfl⟩ := H
              go_wp2
              go_ret
              exact ⟨by first | rfl | (simp; done) | (simp [*]; done), by repeat (first | exact Drawn0.refl _ | apply Drawn0.step)⟩

end Go.Proofs.YtdnahkeiidbihaaDoor.PArmor
