-- Written by wip/xprint of this repo (not trusted: Lean checks it).
import Derived.Test.YtlbkfnofnlioaaaDoorPGlobx0
import Derived.Test.YtlbkfnofnlioaaaDoorPGlobx1
import Derived.Test.YtlbkfnofnlioaaaDoorPGlobx2
import Derived.Test.YtlbkfnofnlioaaaDoorPGlobx3
import Derived.Test.YtlbkfnofnlioaaaDoorPGlobx4
namespace Go.Proofs.YtlbkfnofnlioaaaDoor.PGlob
open Go.RowKit Go.Proofs.YtlbkfnofnlioaaaDoorW.PrintWords Go.Proofs.YtlbkfnofnlioaaaDoorW.PrintLast Go.Proofs.YtlbkfnofnlioaaaDoorW.PrintMore
attribute [local go_sem] max2_int min2_int max_two min_two max_three min_three max_four min_four   -- for this text's walks alone
set_option linter.unusedVariables false
set_option linter.unusedSimpArgs false

/-! ### montagelaw37_GlobWide: function 5 -/
def montagelaw37_GlobWide.j0 : Nat → ByteArray → ByteArray → Bool → Option (Bool)
  | 0, _, _, _ => none
  | k + 1, x0, x1, x14 => if x14 = true then (some true) else ((glob_Fits.f (⟨#[42, 42]⟩ : ByteArray) x1).bind fun t193 => (if t193 = true then ((glob_Fits.f x0 x1).bind fun t194 => (if t194 = true then (if (x0.size : Int) > 50 then (some true) else (if 3 + x0.size ≤ 9223372036854775807 then ((glob_Check.f k ((⟨#[42, 42, 47]⟩ : ByteArray) ++ x0)).bind fun t195 => (if t195 = 0 then ((glob_Fits.f ((⟨#[42, 42, 47]⟩ : ByteArray) ++ x0) x1).bind fun t196 => (if t196 = true then (if x0.size + 3 ≤ 9223372036854775807 then ((glob_Fits.f (x0 ++ (⟨#[47, 42, 42]⟩ : ByteArray)) x1).bind fun t197 => (if t197 = true then (if 2 + x1.size ≤ 9223372036854775807 then ((glob_Fits.f ((⟨#[42, 42, 47]⟩ : ByteArray) ++ x0) ((⟨#[122, 47]⟩ : ByteArray) ++ x1)).bind fun t198 => ((montageref37_Fits.f ((⟨#[42, 42, 47]⟩ : ByteArray) ++ x0) ((⟨#[122, 47]⟩ : ByteArray) ++ x1)).bind fun t199 => (some (t198 == t199)))) else (none)) else (some false))) else (none)) else (some false))) else (some true))) else (none))) else (some true))) else (some false)))
def montagelaw37_GlobWide.f (k : Nat) (a0 : ByteArray) (a1 : ByteArray) : Option (Bool) := (montagelaw37_awake.f k).bind fun t192 => (if t192 = true then (if (a0.size : Int) > 60 then (montagelaw37_GlobWide.j0 k a0 a1 true) else (montagelaw37_GlobWide.j0 k a0 a1 (decide ((a1.size : Int) > 60)))) else (some false))
theorem montagelaw37_GlobWide.mono_l : ∀ k, (∀ y0 y1 y2, LeO (montagelaw37_GlobWide.j0 k y0 y1 y2) (montagelaw37_GlobWide.j0 (k + 1) y0 y1 y2))
  | 0 => fun _ _ _ r h => by simp [montagelaw37_GlobWide.j0] at h
  | k + 1 => by
    have ih0 := montagelaw37_GlobWide.mono_l k
    · intro y0 y1 y2
      unfold montagelaw37_GlobWide.j0
      repeat' first
      | (with_reducible exact ih0 _ _ _)
      | (with_reducible exact glob_Check.mono _ _)
      | (with_reducible exact montagelaw37_awake.mono _)
      | (with_reducible exact LeO.refl _)
      | (with_reducible exact LeO.none _)
      | (with_reducible refine LeO.ite ?_ ?_)
      | (with_reducible refine LeO.bind ?_ (fun _ => ?_))
      | exact ih0 _ _ _
      | exact glob_Check.mono _ _
      | exact montagelaw37_awake.mono _
      | exact LeO.none _
      | refine LeO.ite ?_ ?_
      | refine LeO.bind ?_ (fun _ => ?_)
theorem montagelaw37_GlobWide.mono : ∀ a0 a1 k, LeO (montagelaw37_GlobWide.f k a0 a1) (montagelaw37_GlobWide.f (k + 1) a0 a1) := by
  intro a0 a1 k
  have ih0 := montagelaw37_GlobWide.mono_l k
  unfold montagelaw37_GlobWide.f
  repeat' first
      | (with_reducible exact ih0 _ _ _)
      | (with_reducible exact glob_Check.mono _ _)
      | (with_reducible exact montagelaw37_awake.mono _)
      | (with_reducible exact LeO.refl _)
      | (with_reducible exact LeO.none _)
      | (with_reducible refine LeO.ite ?_ ?_)
      | (with_reducible refine LeO.bind ?_ (fun _ => ?_))
      | exact ih0 _ _ _
      | exact glob_Check.mono _ _
      | exact montagelaw37_awake.mono _
      | exact LeO.none _
      | refine LeO.ite ?_ ?_
      | refine LeO.bind ?_ (fun _ => ?_)
set_option maxHeartbeats 8000000 in
set_option maxRecDepth 100000 in
theorem montagelaw37_GlobWide.calls (k : Nat) (a0 : ByteArray) (a1 : ByteArray) (r : Bool) (w : World) (h : montagelaw37_GlobWide.f k a0 a1 = some r) :
    Calls Tryd.prog 5 #[.string a0, .string a1] w fun e w' => e = .returned (.bool r) ∧ Below w.heap.size w w' := by
  have HB := Aside0.mk (Below.refl w.heap.size w)
  have H : ((montagelaw37_awake.f k).bind fun t192 => (if t192 = true then (if (a0.size : Int) > 60 then (montagelaw37_GlobWide.j0 k a0 a1 true) else (montagelaw37_GlobWide.j0 k a0 a1 (decide ((a1.size : Int) > 60)))) else (some false))) = some r := h
  clear h
  replace H := Option.bind_eq_some_iff.mp H
  obtain ⟨t192, A30, H⟩ := H
  replace H : (if t192 = true then (if (a0.size : Int) > 60 then (montagelaw37_GlobWide.j0 k a0 a1 true) else (montagelaw37_GlobWide.j0 k a0 a1 (decide ((a1.size : Int) > 60)))) else (some false)) = some r := H
  have A3 := Aside0.mk A30
  clear A30
  by_cases c4 : t192 = true
  · subst c4
    have H1 : (if (a0.size : Int) > 60 then (montagelaw37_GlobWide.j0 k a0 a1 true) else (montagelaw37_GlobWide.j0 k a0 a1 (decide ((a1.size : Int) > 60)))) = some r := by rw [if_pos rfl] at H; exact H
    clear H
    have H := H1
    clear H1
    have HC5 := Aside0.mk H
    clear H
    go_enter Tryd.func5, Tryd.ntmps5
    go_upto_region 3 with (first | ((with_reducible refine gate_callee (f := 6) rfl ?_); refine goesL_ (some 5) rfl rfl Tryd.func6 (by kernel_rfl) rfl #[] rfl (by (try simp only [List.map_toArray, List.map_cons, List.map_nil]); first | done | rfl | (simp only [List.length_drop, List.length_take]; rfl)) ?_; (with_reducible refine (montagelaw37_awake.calls k  true _ A3.out).mono ?_); rintro e w6 ⟨rfl, hb⟩; refine ⟨_, rfl, ?_⟩; have n0_ := Aside0.mk (below_step (by repeat (first | (with_reducible first | exact HB.out | apply below_alloc | apply pw_below_drewN | apply below_drew1) | exact HB.out)) hb); clear HB; have HB := n0_; clear n0_; (try clear hb); (try clear hb2); (try clear hk); (try clear hi)))
    (try simp only [Act.put, List.setIfInBounds_toArray, List.set_cons_zero, List.set_cons_succ])
    go_cut [14] (fun v14 wc => ∃ (kq : Nat) (x14_4 : Bool), v14 = .bool x14_4 ∧ Aside0 (montagelaw37_GlobWide.j0 kq a0 a1 x14_4 = some r) ∧ Aside0 (kq ≤ k) ∧ Aside0 (Below w.heap.size w wc))
    case first =>
      have H := HC5.out
      clear HC5
      by_cases c7 : (a0.size : Int) > 60
      · rw [if_pos c7] at H
        have c7b0 : decide (60 < (a0.size : Int)) = true := decide_eq_true c7
        have c7b1 : decide (60 < a0.size) = true := decide_eq_true (by omega)
        clear c7
        (first | rw [c7b0] | (simp only [i64_w, i32_w]; rw [c7b0]) | skip)
        have H' := Aside0.mk H
        clear H
        go_wp2
        go_meet
        case rel => exact ⟨_, (true), (by first | rfl | (simp; done) | (simp [*]; done)), H', ⟨by first | omega | exact Nat.le_refl _⟩, ⟨by repeat (first | (with_reducible first | exact HB.out | apply below_alloc | apply pw_below_drewN | apply below_drew1) | exact HB.out)⟩⟩
      · rw [if_neg c7] at H
        have c7b0 : decide (60 < (a0.size : Int)) = false := decide_eq_false c7
        have c7b1 : decide (60 < a0.size) = false := decide_eq_false (by omega)
        clear c7
        (first | rw [c7b0] | (simp only [i64_w, i32_w]; rw [c7b0]) | skip)
        have H' := Aside0.mk H
        clear H
        go_wp2
        go_meet
        case rel => exact ⟨_, (decide ((a1.size : Int) > 60)), (by first | rfl | (simp; done) | (simp [*]; done)), H', ⟨by first | omega | exact Nat.le_refl _⟩, ⟨by repeat (first | (with_reducible first | exact HB.out | apply below_alloc | apply pw_below_drewN | apply below_drew1) | exact HB.out)⟩⟩
    case rest =>
      clear HC5
      try clear p2
      try clear c4
      try clear c5
      try clear c6
      try clear c7
      try clear c7b0
      try clear c7b1
      obtain ⟨kq, x14_4, rfl, HA, HJ4, HB⟩ := hcut
      cases kq with
      | zero => exact absurd HA.out (by simp [montagelaw37_GlobWide.j0])
      | succ kj4 =>
        have H := HA.out
        clear HA
        simp only [montagelaw37_GlobWide.j0] at H
        by_cases c8 : x14_4 = true
        · subst c8
          have H1 : (some true) = some r := by rw [if_pos rfl] at H; exact H
          clear H
          have H := H1
          clear H1
          obtain rfl := Option.some.inj H
          go_wp2
          go_ret
          exact ⟨by first | rfl | (simp [errW_none, errW_some] <;> rfl) | (simp [*, errW_none, errW_some] <;> rfl), by repeat (first | (with_reducible first | exact HB.out | apply below_alloc | apply pw_below_drewN | apply below_drew1) | exact HB.out)⟩
        · replace c8 := Bool.eq_false_iff.mpr c8
          subst c8
          have H1 : ((glob_Fits.f (⟨#[42, 42]⟩ : ByteArray) a1).bind fun t193 => (if t193 = true then ((glob_Fits.f a0 a1).bind fun t194 => (if t194 = true then (if (a0.size : Int) > 50 then (some true) else (if 3 + a0.size ≤ 9223372036854775807 then ((glob_Check.f kj4 ((⟨#[42, 42, 47]⟩ : ByteArray) ++ a0)).bind fun t195 => (if t195 = 0 then ((glob_Fits.f ((⟨#[42, 42, 47]⟩ : ByteArray) ++ a0) a1).bind fun t196 => (if t196 = true then (if a0.size + 3 ≤ 9223372036854775807 then ((glob_Fits.f (a0 ++ (⟨#[47, 42, 42]⟩ : ByteArray)) a1).bind fun t197 => (if t197 = true then (if 2 + a1.size ≤ 9223372036854775807 then ((glob_Fits.f ((⟨#[42, 42, 47]⟩ : ByteArray) ++ a0) ((⟨#[122, 47]⟩ : ByteArray) ++ a1)).bind fun t198 => ((montageref37_Fits.f ((⟨#[42, 42, 47]⟩ : ByteArray) ++ a0) ((⟨#[122, 47]⟩ : ByteArray) ++ a1)).bind fun t199 => (some (t198 == t199)))) else (none)) else (some false))) else (none)) else (some false))) else (some true))) else (none))) else (some true))) else (some false))) = some r := by rw [if_neg (show ¬ (false = true) by decide)] at H; exact H
          clear H
          have H := H1
          clear H1
          replace H := Option.bind_eq_some_iff.mp H
          obtain ⟨t193, A90, H⟩ := H
          replace H : (if t193 = true then ((glob_Fits.f a0 a1).bind fun t194 => (if t194 = true then (if (a0.size : Int) > 50 then (some true) else (if 3 + a0.size ≤ 9223372036854775807 then ((glob_Check.f kj4 ((⟨#[42, 42, 47]⟩ : ByteArray) ++ a0)).bind fun t195 => (if t195 = 0 then ((glob_Fits.f ((⟨#[42, 42, 47]⟩ : ByteArray) ++ a0) a1).bind fun t196 => (if t196 = true then (if a0.size + 3 ≤ 9223372036854775807 then ((glob_Fits.f (a0 ++ (⟨#[47, 42, 42]⟩ : ByteArray)) a1).bind fun t197 => (if t197 = true then (if 2 + a1.size ≤ 9223372036854775807 then ((glob_Fits.f ((⟨#[42, 42, 47]⟩ : ByteArray) ++ a0) ((⟨#[122, 47]⟩ : ByteArray) ++ a1)).bind fun t198 => ((montageref37_Fits.f ((⟨#[42, 42, 47]⟩ : ByteArray) ++ a0) ((⟨#[122, 47]⟩ : ByteArray) ++ a1)).bind fun t199 => (some (t198 == t199)))) else (none)) else (some false))) else (none)) else (some false))) else (some true))) else (none))) else (some true))) else (some false)) = some r := H
          have A9 := Aside0.mk A90
          clear A90
          by_cases c10 : t193 = true
          · subst c10
            have H1 : ((glob_Fits.f a0 a1).bind fun t194 => (if t194 = true then (if (a0.size : Int) > 50 then (some true) else (if 3 + a0.size ≤ 9223372036854775807 then ((glob_Check.f kj4 ((⟨#[42, 42, 47]⟩ : ByteArray) ++ a0)).bind fun t195 => (if t195 = 0 then ((glob_Fits.f ((⟨#[42, 42, 47]⟩ : ByteArray) ++ a0) a1).bind fun t196 => (if t196 = true then (if a0.size + 3 ≤ 9223372036854775807 then ((glob_Fits.f (a0 ++ (⟨#[47, 42, 42]⟩ : ByteArray)) a1).bind fun t197 => (if t197 = true then (if 2 + a1.size ≤ 9223372036854775807 then ((glob_Fits.f ((⟨#[42, 42, 47]⟩ : ByteArray) ++ a0) ((⟨#[122, 47]⟩ : ByteArray) ++ a1)).bind fun t198 => ((montageref37_Fits.f ((⟨#[42, 42, 47]⟩ : ByteArray) ++ a0) ((⟨#[122, 47]⟩ : ByteArray) ++ a1)).bind fun t199 => (some (t198 == t199)))) else (none)) else (some false))) else (none)) else (some false))) else (some true))) else (none))) else (some true))) = some r := by rw [if_pos rfl] at H; exact H
            clear H
            have H := H1
            clear H1
            replace H := Option.bind_eq_some_iff.mp H
            obtain ⟨t194, A110, H⟩ := H
            replace H : (if t194 = true then (if (a0.size : Int) > 50 then (some true) else (if 3 + a0.size ≤ 9223372036854775807 then ((glob_Check.f kj4 ((⟨#[42, 42, 47]⟩ : ByteArray) ++ a0)).bind fun t195 => (if t195 = 0 then ((glob_Fits.f ((⟨#[42, 42, 47]⟩ : ByteArray) ++ a0) a1).bind fun t196 => (if t196 = true then (if a0.size + 3 ≤ 9223372036854775807 then ((glob_Fits.f (a0 ++ (⟨#[47, 42, 42]⟩ : ByteArray)) a1).bind fun t197 => (if t197 = true then (if 2 + a1.size ≤ 9223372036854775807 then ((glob_Fits.f ((⟨#[42, 42, 47]⟩ : ByteArray) ++ a0) ((⟨#[122, 47]⟩ : ByteArray) ++ a1)).bind fun t198 => ((montageref37_Fits.f ((⟨#[42, 42, 47]⟩ : ByteArray) ++ a0) ((⟨#[122, 47]⟩ : ByteArray) ++ a1)).bind fun t199 => (some (t198 == t199)))) else (none)) else (some false))) else (none)) else (some false))) else (some true))) else (none))) else (some true)) = some r := H
            have A11 := Aside0.mk A110
            clear A110
            by_cases c12 : t194 = true
            · subst c12
              have H1 : (if (a0.size : Int) > 50 then (some true) else (if 3 + a0.size ≤ 9223372036854775807 then ((glob_Check.f kj4 ((⟨#[42, 42, 47]⟩ : ByteArray) ++ a0)).bind fun t195 => (if t195 = 0 then ((glob_Fits.f ((⟨#[42, 42, 47]⟩ : ByteArray) ++ a0) a1).bind fun t196 => (if t196 = true then (if a0.size + 3 ≤ 9223372036854775807 then ((glob_Fits.f (a0 ++ (⟨#[47, 42, 42]⟩ : ByteArray)) a1).bind fun t197 => (if t197 = true then (if 2 + a1.size ≤ 9223372036854775807 then ((glob_Fits.f ((⟨#[42, 42, 47]⟩ : ByteArray) ++ a0) ((⟨#[122, 47]⟩ : ByteArray) ++ a1)).bind fun t198 => ((montageref37_Fits.f ((⟨#[42, 42, 47]⟩ : ByteArray) ++ a0) ((⟨#[122, 47]⟩ : ByteArray) ++ a1)).bind fun t199 => (some (t198 == t199)))) else (none)) else (some false))) else (none)) else (some false))) else (some true))) else (none))) = some r := by rw [if_pos rfl] at H; exact H
              clear H
              have H := H1
              clear H1
              by_cases c13 : (a0.size : Int) > 50
              · rw [if_pos c13] at H
                have c13b0 : decide (50 < (a0.size : Int)) = true := decide_eq_true c13
                have c13b1 : decide (50 < a0.size) = true := decide_eq_true (by omega)
                clear c13
                obtain rfl := Option.some.inj H
                go_wp2_with (first | ((with_reducible refine gate_callee (f := 9) rfl ?_); refine goesL_ (some 16) rfl rfl Tryd.func9 (by kernel_rfl) rfl #[.string (⟨#[42, 42]⟩ : ByteArray), .string a1] rfl (by (try simp only [List.map_toArray, List.map_cons, List.map_nil]); first | done | rfl | (simp only [List.length_drop, List.length_take]; rfl)) ?_; (with_reducible refine (glob_Fits.calls (⟨#[42, 42]⟩ : ByteArray) a1 true _ A9.out).mono ?_); rintro e w14 ⟨rfl, hb⟩; refine ⟨_, rfl, ?_⟩; have n0_ := Aside0.mk (below_step (by repeat (first | (with_reducible first | exact HB.out | apply below_alloc | apply pw_below_drewN | apply below_drew1) | exact HB.out)) hb); clear HB; have HB := n0_; clear n0_; (try clear hb); (try clear hb2); (try clear hk); (try clear hi)) | ((with_reducible refine gate_callee (f := 9) rfl ?_); refine goesL_ (some 20) rfl rfl Tryd.func9 (by kernel_rfl) rfl #[.string a0, .string a1] rfl (by (try simp only [List.map_toArray, List.map_cons, List.map_nil]); first | done | rfl | (simp only [List.length_drop, List.length_take]; rfl)) ?_; (with_reducible refine (glob_Fits.calls a0 a1 true _ A11.out).mono ?_); rintro e w15 ⟨rfl, hb⟩; refine ⟨_, rfl, ?_⟩; have n0_ := Aside0.mk (below_step (by repeat (first | (with_reducible first | exact HB.out | apply below_alloc | apply pw_below_drewN | apply below_drew1) | exact HB.out)) hb); clear HB; have HB := n0_; clear n0_; (try clear hb); (try clear hb2); (try clear hk); (try clear hi)))
                go_ret
                exact ⟨by first | rfl | (simp [errW_none, errW_some] <;> rfl) | (simp [*, errW_none, errW_some] <;> rfl), by repeat (first | (with_reducible first | exact HB.out | apply below_alloc | apply pw_below_drewN | apply below_drew1) | exact HB.out)⟩
              · rw [if_neg c13] at H
                have c13b0 : decide (50 < (a0.size : Int)) = false := decide_eq_false c13
                have c13b1 : decide (50 < a0.size) = false := decide_eq_false (by omega)
                clear c13
                by_cases c16 : 3 + a0.size ≤ 9223372036854775807
                · rw [if_pos c16] at H
                  have c16b0 := eq_true c16
                  have c16b1 : decide (3 + a0.size ≤ 9223372036854775807) = true := decide_eq_true c16
                  try have c16b2 : (9223372036854775807 < 3 + a0.size) = False := eq_false (Nat.not_lt.2 c16)
                  replace H := Option.bind_eq_some_iff.mp H
                  obtain ⟨t195, A170, H⟩ := H
                  replace H : (if t195 = 0 then ((glob_Fits.f ((⟨#[42, 42, 47]⟩ : ByteArray) ++ a0) a1).bind fun t196 => (if t196 = true then (if a0.size + 3 ≤ 9223372036854775807 then ((glob_Fits.f (a0 ++ (⟨#[47, 42, 42]⟩ : ByteArray)) a1).bind fun t197 => (if t197 = true then (if 2 + a1.size ≤ 9223372036854775807 then ((glob_Fits.f ((⟨#[42, 42, 47]⟩ : ByteArray) ++ a0) ((⟨#[122, 47]⟩ : ByteArray) ++ a1)).bind fun t198 => ((montageref37_Fits.f ((⟨#[42, 42, 47]⟩ : ByteArray) ++ a0) ((⟨#[122, 47]⟩ : ByteArray) ++ a1)).bind fun t199 => (some (t198 == t199)))) else (none)) else (some false))) else (none)) else (some false))) else (some true)) = some r := H
                  have A17 := Aside0.mk A170
                  clear A170
                  by_cases c18 : t195 = 0
                  · rw [if_pos c18] at H
                    have c18b0 : (t195 == 0) = true := beq_iff_eq.mpr c18
                    have c18b1 : (t195 != 0) = false := bne_eq_false_iff_eq.mpr c18
                    clear c18
                    replace H := Option.bind_eq_some_iff.mp H
                    obtain ⟨t196, A190, H⟩ := H
                    replace H : (if t196 = true then (if a0.size + 3 ≤ 9223372036854775807 then ((glob_Fits.f (a0 ++ (⟨#[47, 42, 42]⟩ : ByteArray)) a1).bind fun t197 => (if t197 = true then (if 2 + a1.size ≤ 9223372036854775807 then ((glob_Fits.f ((⟨#[42, 42, 47]⟩ : ByteArray) ++ a0) ((⟨#[122, 47]⟩ : ByteArray) ++ a1)).bind fun t198 => ((montageref37_Fits.f ((⟨#[42, 42, 47]⟩ : ByteArray) ++ a0) ((⟨#[122, 47]⟩ : ByteArray) ++ a1)).bind fun t199 => (some (t198 == t199)))) else (none)) else (some false))) else (none)) else (some false)) = some r := H
                    have A19 := Aside0.mk A190
                    clear A190
                    by_cases c20 : t196 = true
                    · subst c20
                      have H1 : (if a0.size + 3 ≤ 9223372036854775807 then ((glob_Fits.f (a0 ++ (⟨#[47, 42, 42]⟩ : ByteArray)) a1).bind fun t197 => (if t197 = true then (if 2 + a1.size ≤ 9223372036854775807 then ((glob_Fits.f ((⟨#[42, 42, 47]⟩ : ByteArray) ++ a0) ((⟨#[122, 47]⟩ : ByteArray) ++ a1)).bind fun t198 => ((montageref37_Fits.f ((⟨#[42, 42, 47]⟩ : ByteArray) ++ a0) ((⟨#[122, 47]⟩ : ByteArray) ++ a1)).bind fun t199 => (some (t198 == t199)))) else (none)) else (some false))) else (none)) = some r := by rw [if_pos rfl] at H; exact H
                      clear H
                      have H := H1
                      clear H1
                      by_cases c21 : a0.size + 3 ≤ 9223372036854775807
                      · rw [if_pos c21] at H
                        have c21b0 := eq_true c21
                        have c21b1 : decide (a0.size + 3 ≤ 9223372036854775807) = true := decide_eq_true c21
                        try have c21b2 : (9223372036854775807 < a0.size + 3) = False := eq_false (Nat.not_lt.2 c21)
                        replace H := Option.bind_eq_some_iff.mp H
                        obtain ⟨t197, A220, H⟩ := H
                        replace H : (if t197 = true then (if 2 + a1.size ≤ 9223372036854775807 then ((glob_Fits.f ((⟨#[42, 42, 47]⟩ : ByteArray) ++ a0) ((⟨#[122, 47]⟩ : ByteArray) ++ a1)).bind fun t198 => ((montageref37_Fits.f ((⟨#[42, 42, 47]⟩ : ByteArray) ++ a0) ((⟨#[122, 47]⟩ : ByteArray) ++ a1)).bind fun t199 => (some (t198 == t199)))) else (none)) else (some false)) = some r := H
                        have A22 := Aside0.mk A220
                        clear A220
                        by_cases c23 : t197 = true
                        · subst c23
                          have H1 : (if 2 + a1.size ≤ 9223372036854775807 then ((glob_Fits.f ((⟨#[42, 42, 47]⟩ : ByteArray) ++ a0) ((⟨#[122, 47]⟩ : ByteArray) ++ a1)).bind fun t198 => ((montageref37_Fits.f ((⟨#[42, 42, 47]⟩ : ByteArray) ++ a0) ((⟨#[122, 47]⟩ : ByteArray) ++ a1)).bind fun t199 => (some (t198 == t199)))) else (none)) = some r := by rw [if_pos rfl] at H; exact H
                          clear H
                          have H := H1
                          clear H1
                          by_cases c24 : 2 + a1.size ≤ 9223372036854775807
                          · rw [if_pos c24] at H
                            have c24b0 := eq_true c24
                            have c24b1 : decide (2 + a1.size ≤ 9223372036854775807) = true := decide_eq_true c24
                            try have c24b2 : (9223372036854775807 < 2 + a1.size) = False := eq_false (Nat.not_lt.2 c24)
                            replace H := Option.bind_eq_some_iff.mp H
                            obtain ⟨t198, A250, H⟩ := H
                            replace H : ((montageref37_Fits.f ((⟨#[42, 42, 47]⟩ : ByteArray) ++ a0) ((⟨#[122, 47]⟩ : ByteArray) ++ a1)).bind fun t199 => (some (t198 == t199))) = some r := H
                            have A25 := Aside0.mk A250
                            clear A250
                            replace H := Option.bind_eq_some_iff.mp H
                            obtain ⟨t199, A260, H⟩ := H
                            replace H : (some (t198 == t199)) = some r := H
                            have A26 := Aside0.mk A260
                            clear A260
                            obtain rfl := Option.some.inj H
                            go_wp2_with (first | ((with_reducible refine gate_callee (f := 9) rfl ?_); refine goesL_ (some 16) rfl rfl Tryd.func9 (by kernel_rfl) rfl #[.string (⟨#[42, 42]⟩ : ByteArray), .string a1] rfl (by (try simp only [List.map_toArray, List.map_cons, List.map_nil]); first | done | rfl | (simp only [List.length_drop, List.length_take]; rfl)) ?_; (with_reducible refine (glob_Fits.calls (⟨#[42, 42]⟩ : ByteArray) a1 true _ A9.out).mono ?_); rintro e w27 ⟨rfl, hb⟩; refine ⟨_, rfl, ?_⟩; have n0_ := Aside0.mk (below_step (by repeat (first | (with_reducible first | exact HB.out | apply below_alloc | apply pw_below_drewN | apply below_drew1) | exact HB.out)) hb); clear HB; have HB := n0_; clear n0_; (try clear hb); (try clear hb2); (try clear hk); (try clear hi)) | ((with_reducible refine gate_callee (f := 9) rfl ?_); refine goesL_ (some 20) rfl rfl Tryd.func9 (by kernel_rfl) rfl #[.string a0, .string a1] rfl (by (try simp only [List.map_toArray, List.map_cons, List.map_nil]); first | done | rfl | (simp only [List.length_drop, List.length_take]; rfl)) ?_; (with_reducible refine (glob_Fits.calls a0 a1 true _ A11.out).mono ?_); rintro e w28 ⟨rfl, hb⟩; refine ⟨_, rfl, ?_⟩; have n0_ := Aside0.mk (below_step (by repeat (first | (with_reducible first | exact HB.out | apply below_alloc | apply pw_below_drewN | apply below_drew1) | exact HB.out)) hb); clear HB; have HB := n0_; clear n0_; (try clear hb); (try clear hb2); (try clear hk); (try clear hi)) | (go_at_call 7; (with_reducible refine (glob_Check.calls kj4 ((⟨#[42, 42, 47]⟩ : ByteArray) ++ a0) t195 _ A17.out).mono ?_); rintro e w29 ⟨rfl, hb⟩; have n0_ := Aside0.mk (below_step (by repeat (first | (with_reducible first | exact HB.out | apply below_alloc | apply pw_below_drewN | apply below_drew1) | exact HB.out)) hb); clear HB; have HB := n0_; clear n0_; (try clear hb); (try clear hb2); (try clear hk); (try clear hi)) | (go_at_call 9; (with_reducible refine (glob_Fits.calls ((⟨#[42, 42, 47]⟩ : ByteArray) ++ a0) a1 true _ A19.out).mono ?_); rintro e w30 ⟨rfl, hb⟩; have n0_ := Aside0.mk (below_step (by repeat (first | (with_reducible first | exact HB.out | apply below_alloc | apply pw_below_drewN | apply below_drew1) | exact HB.out)) hb); clear HB; have HB := n0_; clear n0_; (try clear hb); (try clear hb2); (try clear hk); (try clear hi)) | (go_at_call 9; (with_reducible refine (glob_Fits.calls (a0 ++ (⟨#[47, 42, 42]⟩ : ByteArray)) a1 true _ A22.out).mono ?_); rintro e w31 ⟨rfl, hb⟩; have n0_ := Aside0.mk (below_step (by repeat (first | (with_reducible first | exact HB.out | apply below_alloc | apply pw_below_drewN | apply below_drew1) | exact HB.out)) hb); clear HB; have HB := n0_; clear n0_; (try clear hb); (try clear hb2); (try clear hk); (try clear hi)) | (go_at_call 9; (with_reducible refine (glob_Fits.calls ((⟨#[42, 42, 47]⟩ : ByteArray) ++ a0) ((⟨#[122, 47]⟩ : ByteArray) ++ a1) t198 _ A25.out).mono ?_); rintro e w32 ⟨rfl, hb⟩; have n0_ := Aside0.mk (below_step (by repeat (first | (with_reducible first | exact HB.out | apply below_alloc | apply pw_below_drewN | apply below_drew1) | exact HB.out)) hb); clear HB; have HB := n0_; clear n0_; (try clear hb); (try clear hb2); (try clear hk); (try clear hi)) | (go_at_call 10; (with_reducible refine (montageref37_Fits.calls ((⟨#[42, 42, 47]⟩ : ByteArray) ++ a0) ((⟨#[122, 47]⟩ : ByteArray) ++ a1) t199 _ A26.out).mono ?_); rintro e w33 ⟨rfl, hb⟩; have n0_ := Aside0.mk (below_step (by repeat (first | (with_reducible first | exact HB.out | apply below_alloc | apply pw_below_drewN | apply below_drew1) | exact HB.out)) hb); clear HB; have HB := n0_; clear n0_; (try clear hb); (try clear hb2); (try clear hk); (try clear hi)))
                            go_ret
                            exact ⟨by first | rfl | (simp [errW_none, errW_some] <;> rfl) | (simp [*, errW_none, errW_some] <;> rfl), by repeat (first | (with_reducible first | exact HB.out | apply below_alloc | apply pw_below_drewN | apply below_drew1) | exact HB.out)⟩
                          · rw [if_neg c24] at H
                            exact absurd H (by simp)
                        · replace c23 := Bool.eq_false_iff.mpr c23
                          subst c23
                          have H1 : (some false) = some r := by rw [if_neg (show ¬ (false = true) by decide)] at H; exact H
                          clear H
                          have H := H1
                          clear H1
                          obtain rfl := Option.some.inj H
                          go_wp2_with (first | ((with_reducible refine gate_callee (f := 9) rfl ?_); refine goesL_ (some 16) rfl rfl Tryd.func9 (by kernel_rfl) rfl #[.string (⟨#[42, 42]⟩ : ByteArray), .string a1] rfl (by (try simp only [List.map_toArray, List.map_cons, List.map_nil]); first | done | rfl | (simp only [List.length_drop, List.length_take]; rfl)) ?_; (with_reducible refine (glob_Fits.calls (⟨#[42, 42]⟩ : ByteArray) a1 true _ A9.out).mono ?_); rintro e w34 ⟨rfl, hb⟩; refine ⟨_, rfl, ?_⟩; have n0_ := Aside0.mk (below_step (by repeat (first | (with_reducible first | exact HB.out | apply below_alloc | apply pw_below_drewN | apply below_drew1) | exact HB.out)) hb); clear HB; have HB := n0_; clear n0_; (try clear hb); (try clear hb2); (try clear hk); (try clear hi)) | ((with_reducible refine gate_callee (f := 9) rfl ?_); refine goesL_ (some 20) rfl rfl Tryd.func9 (by kernel_rfl) rfl #[.string a0, .string a1] rfl (by (try simp only [List.map_toArray, List.map_cons, List.map_nil]); first | done | rfl | (simp only [List.length_drop, List.length_take]; rfl)) ?_; (with_reducible refine (glob_Fits.calls a0 a1 true _ A11.out).mono ?_); rintro e w35 ⟨rfl, hb⟩; refine ⟨_, rfl, ?_⟩; have n0_ := Aside0.mk (below_step (by repeat (first | (with_reducible first | exact HB.out | apply below_alloc | apply pw_below_drewN | apply below_drew1) | exact HB.out)) hb); clear HB; have HB := n0_; clear n0_; (try clear hb); (try clear hb2); (try clear hk); (try clear hi)) | (go_at_call 7; (with_reducible refine (glob_Check.calls kj4 ((⟨#[42, 42, 47]⟩ : ByteArray) ++ a0) t195 _ A17.out).mono ?_); rintro e w36 ⟨rfl, hb⟩; have n0_ := Aside0.mk (below_step (by repeat (first | (with_reducible first | exact HB.out | apply below_alloc | apply pw_below_drewN | apply below_drew1) | exact HB.out)) hb); clear HB; have HB := n0_; clear n0_; (try clear hb); (try clear hb2); (try clear hk); (try clear hi)) | (go_at_call 9; (with_reducible refine (glob_Fits.calls ((⟨#[42, 42, 47]⟩ : ByteArray) ++ a0) a1 true _ A19.out).mono ?_); rintro e w37 ⟨rfl, hb⟩; have n0_ := Aside0.mk (below_step (by repeat (first | (with_reducible first | exact HB.out | apply below_alloc | apply pw_below_drewN | apply below_drew1) | exact HB.out)) hb); clear HB; have HB := n0_; clear n0_; (try clear hb); (try clear hb2); (try clear hk); (try clear hi)) | (go_at_call 9; (with_reducible refine (glob_Fits.calls (a0 ++ (⟨#[47, 42, 42]⟩ : ByteArray)) a1 false _ A22.out).mono ?_); rintro e w38 ⟨rfl, hb⟩; have n0_ := Aside0.mk (below_step (by repeat (first | (with_reducible first | exact HB.out | apply below_alloc | apply pw_below_drewN | apply below_drew1) | exact HB.out)) hb); clear HB; have HB := n0_; clear n0_; (try clear hb); (try clear hb2); (try clear hk); (try clear hi)))
                          go_ret
                          exact ⟨by first | rfl | (simp [errW_none, errW_some] <;> rfl) | (simp [*, errW_none, errW_some] <;> rfl), by repeat (first | (with_reducible first | exact HB.out | apply below_alloc | apply pw_below_drewN | apply below_drew1) | exact HB.out)⟩
                      · rw [if_neg c21] at H
                        exact absurd H (by simp)
                    · replace c20 := Bool.eq_false_iff.mpr c20
                      subst c20
                      have H1 : (some false) = some r := by rw [if_neg (show ¬ (false = true) by decide)] at H; exact H
                      clear H
                      have H := H1
                      clear H1
                      obtain rfl := Option.some.inj H
                      go_wp2_with (first | ((with_reducible refine gate_callee (f := 9) rfl ?_); refine goesL_ (some 16) rfl rfl Tryd.func9 (by kernel_rfl) rfl #[.string (⟨#[42, 42]⟩ : ByteArray), .string a1] rfl (by (try simp only [List.map_toArray, List.map_cons, List.map_nil]); first | done | rfl | (simp only [List.length_drop, List.length_take]; rfl)) ?_; (with_reducible refine (glob_Fits.calls (⟨#[42, 42]⟩ : ByteArray) a1 true _ A9.out).mono ?_); rintro e w39 ⟨rfl, hb⟩; refine ⟨_, rfl, ?_⟩; have n0_ := Aside0.mk (below_step (by repeat (first | (with_reducible first | exact HB.out | apply below_alloc | apply pw_below_drewN | apply below_drew1) | exact HB.out)) hb); clear HB; have HB := n0_; clear n0_; (try clear hb); (try clear hb2); (try clear hk); (try clear hi)) | ((with_reducible refine gate_callee (f := 9) rfl ?_); refine goesL_ (some 20) rfl rfl Tryd.func9 (by kernel_rfl) rfl #[.string a0, .string a1] rfl (by (try simp only [List.map_toArray, List.map_cons, List.map_nil]); first | done | rfl | (simp only [List.length_drop, List.length_take]; rfl)) ?_; (with_reducible refine (glob_Fits.calls a0 a1 true _ A11.out).mono ?_); rintro e w40 ⟨rfl, hb⟩; refine ⟨_, rfl, ?_⟩; have n0_ := Aside0.mk (below_step (by repeat (first | (with_reducible first | exact HB.out | apply below_alloc | apply pw_below_drewN | apply below_drew1) | exact HB.out)) hb); clear HB; have HB := n0_; clear n0_; (try clear hb); (try clear hb2); (try clear hk); (try clear hi)) | (go_at_call 7; (with_reducible refine (glob_Check.calls kj4 ((⟨#[42, 42, 47]⟩ : ByteArray) ++ a0) t195 _ A17.out).mono ?_); rintro e w41 ⟨rfl, hb⟩; have n0_ := Aside0.mk (below_step (by repeat (first | (with_reducible first | exact HB.out | apply below_alloc | apply pw_below_drewN | apply below_drew1) | exact HB.out)) hb); clear HB; have HB := n0_; clear n0_; (try clear hb); (try clear hb2); (try clear hk); (try clear hi)) | (go_at_call 9; (with_reducible refine (glob_Fits.calls ((⟨#[42, 42, 47]⟩ : ByteArray) ++ a0) a1 false _ A19.out).mono ?_); rintro e w42 ⟨rfl, hb⟩; have n0_ := Aside0.mk (below_step (by repeat (first | (with_reducible first | exact HB.out | apply below_alloc | apply pw_below_drewN | apply below_drew1) | exact HB.out)) hb); clear HB; have HB := n0_; clear n0_; (try clear hb); (try clear hb2); (try clear hk); (try clear hi)))
                      go_ret
                      exact ⟨by first | rfl | (simp [errW_none, errW_some] <;> rfl) | (simp [*, errW_none, errW_some] <;> rfl), by repeat (first | (with_reducible first | exact HB.out | apply below_alloc | apply pw_below_drewN | apply below_drew1) | exact HB.out)⟩
                  · rw [if_neg c18] at H
                    have c18b0 : (t195 == 0) = false := beq_eq_false_iff_ne.mpr c18
                    have c18b1 : (t195 != 0) = true := bne_iff_ne.mpr c18
                    obtain rfl := Option.some.inj H
                    go_wp2_with (first | ((with_reducible refine gate_callee (f := 9) rfl ?_); refine goesL_ (some 16) rfl rfl Tryd.func9 (by kernel_rfl) rfl #[.string (⟨#[42, 42]⟩ : ByteArray), .string a1] rfl (by (try simp only [List.map_toArray, List.map_cons, List.map_nil]); first | done | rfl | (simp only [List.length_drop, List.length_take]; rfl)) ?_; (with_reducible refine (glob_Fits.calls (⟨#[42, 42]⟩ : ByteArray) a1 true _ A9.out).mono ?_); rintro e w43 ⟨rfl, hb⟩; refine ⟨_, rfl, ?_⟩; have n0_ := Aside0.mk (below_step (by repeat (first | (with_reducible first | exact HB.out | apply below_alloc | apply pw_below_drewN | apply below_drew1) | exact HB.out)) hb); clear HB; have HB := n0_; clear n0_; (try clear hb); (try clear hb2); (try clear hk); (try clear hi)) | ((with_reducible refine gate_callee (f := 9) rfl ?_); refine goesL_ (some 20) rfl rfl Tryd.func9 (by kernel_rfl) rfl #[.string a0, .string a1] rfl (by (try simp only [List.map_toArray, List.map_cons, List.map_nil]); first | done | rfl | (simp only [List.length_drop, List.length_take]; rfl)) ?_; (with_reducible refine (glob_Fits.calls a0 a1 true _ A11.out).mono ?_); rintro e w44 ⟨rfl, hb⟩; refine ⟨_, rfl, ?_⟩; have n0_ := Aside0.mk (below_step (by repeat (first | (with_reducible first | exact HB.out | apply below_alloc | apply pw_below_drewN | apply below_drew1) | exact HB.out)) hb); clear HB; have HB := n0_; clear n0_; (try clear hb); (try clear hb2); (try clear hk); (try clear hi)) | (go_at_call 7; (with_reducible refine (glob_Check.calls kj4 ((⟨#[42, 42, 47]⟩ : ByteArray) ++ a0) t195 _ A17.out).mono ?_); rintro e w45 ⟨rfl, hb⟩; have n0_ := Aside0.mk (below_step (by repeat (first | (with_reducible first | exact HB.out | apply below_alloc | apply pw_below_drewN | apply below_drew1) | exact HB.out)) hb); clear HB; have HB := n0_; clear n0_; (try clear hb); (try clear hb2); (try clear hk); (try clear hi)))
                    go_ret
                    exact ⟨by first | rfl | (simp [errW_none, errW_some] <;> rfl) | (simp [*, errW_none, errW_some] <;> rfl), by repeat (first | (with_reducible first | exact HB.out | apply below_alloc | apply pw_below_drewN | apply below_drew1) | exact HB.out)⟩
                · rw [if_neg c16] at H
                  exact absurd H (by simp)
            · replace c12 := Bool.eq_false_iff.mpr c12
              subst c12
              have H1 : (some true) = some r := by rw [if_neg (show ¬ (false = true) by decide)] at H; exact H
              clear H
              have H := H1
              clear H1
              obtain rfl := Option.some.inj H
              go_wp2_with (first | ((with_reducible refine gate_callee (f := 9) rfl ?_); refine goesL_ (some 16) rfl rfl Tryd.func9 (by kernel_rfl) rfl #[.string (⟨#[42, 42]⟩ : ByteArray), .string a1] rfl (by (try simp only [List.map_toArray, List.map_cons, List.map_nil]); first | done | rfl | (simp only [List.length_drop, List.length_take]; rfl)) ?_; (with_reducible refine (glob_Fits.calls (⟨#[42, 42]⟩ : ByteArray) a1 true _ A9.out).mono ?_); rintro e w46 ⟨rfl, hb⟩; refine ⟨_, rfl, ?_⟩; have n0_ := Aside0.mk (below_step (by repeat (first | (with_reducible first | exact HB.out | apply below_alloc | apply pw_below_drewN | apply below_drew1) | exact HB.out)) hb); clear HB; have HB := n0_; clear n0_; (try clear hb); (try clear hb2); (try clear hk); (try clear hi)) | ((with_reducible refine gate_callee (f := 9) rfl ?_); refine goesL_ (some 20) rfl rfl Tryd.func9 (by kernel_rfl) rfl #[.string a0, .string a1] rfl (by (try simp only [List.map_toArray, List.map_cons, List.map_nil]); first | done | rfl | (simp only [List.length_drop, List.length_take]; rfl)) ?_; (with_reducible refine (glob_Fits.calls a0 a1 false _ A11.out).mono ?_); rintro e w47 ⟨rfl, hb⟩; refine ⟨_, rfl, ?_⟩; have n0_ := Aside0.mk (below_step (by repeat (first | (with_reducible first | exact HB.out | apply below_alloc | apply pw_below_drewN | apply below_drew1) | exact HB.out)) hb); clear HB; have HB := n0_; clear n0_; (try clear hb); (try clear hb2); (try clear hk); (try clear hi)))
              go_ret
              exact ⟨by first | rfl | (simp [errW_none, errW_some] <;> rfl) | (simp [*, errW_none, errW_some] <;> rfl), by repeat (first | (with_reducible first | exact HB.out | apply below_alloc | apply pw_below_drewN | apply below_drew1) | exact HB.out)⟩
          · replace c10 := Bool.eq_false_iff.mpr c10
            subst c10
            have H1 : (some false) = some r := by rw [if_neg (show ¬ (false = true) by decide)] at H; exact H
            clear H
            have H := H1
            clear H1
            obtain rfl := Option.some.inj H
            go_wp2_with (first | ((with_reducible refine gate_callee (f := 9) rfl ?_); refine goesL_ (some 16) rfl rfl Tryd.func9 (by kernel_rfl) rfl #[.string (⟨#[42, 42]⟩ : ByteArray), .string a1] rfl (by (try simp only [List.map_toArray, List.map_cons, List.map_nil]); first | done | rfl | (simp only [List.length_drop, List.length_take]; rfl)) ?_; (with_reducible refine (glob_Fits.calls (⟨#[42, 42]⟩ : ByteArray) a1 false _ A9.out).mono ?_); rintro e w48 ⟨rfl, hb⟩; refine ⟨_, rfl, ?_⟩; have n0_ := Aside0.mk (below_step (by repeat (first | (with_reducible first | exact HB.out | apply below_alloc | apply pw_below_drewN | apply below_drew1) | exact HB.out)) hb); clear HB; have HB := n0_; clear n0_; (try clear hb); (try clear hb2); (try clear hk); (try clear hi)))
            go_ret
            exact ⟨by first | rfl | (simp [errW_none, errW_some] <;> rfl) | (simp [*, errW_none, errW_some] <;> rfl), by repeat (first | (with_reducible first | exact HB.out | apply below_alloc | apply pw_below_drewN | apply below_drew1) | exact HB.out)⟩
  · replace c4 := Bool.eq_false_iff.mpr c4
    subst c4
    have H1 : (some false) = some r := by rw [if_neg (show ¬ (false = true) by decide)] at H; exact H
    clear H
    have H := H1
    clear H1
    obtain rfl := Option.some.inj H
    go_enter Tryd.func5, Tryd.ntmps5
    go_wp2_with (first | ((with_reducible refine gate_callee (f := 6) rfl ?_); refine goesL_ (some 5) rfl rfl Tryd.func6 (by kernel_rfl) rfl #[] rfl (by (try simp only [List.map_toArray, List.map_cons, List.map_nil]); first | done | rfl | (simp only [List.length_drop, List.length_take]; rfl)) ?_; (with_reducible refine (montagelaw37_awake.calls k  false _ A3.out).mono ?_); rintro e w49 ⟨rfl, hb⟩; refine ⟨_, rfl, ?_⟩; have n0_ := Aside0.mk (below_step (by repeat (first | (with_reducible first | exact HB.out | apply below_alloc | apply pw_below_drewN | apply below_drew1) | exact HB.out)) hb); clear HB; have HB := n0_; clear n0_; (try clear hb); (try clear hb2); (try clear hk); (try clear hi)))
    go_ret
    exact ⟨by first | rfl | (simp [errW_none, errW_some] <;> rfl) | (simp [*, errW_none, errW_some] <;> rfl), by repeat (first | (with_reducible first | exact HB.out | apply below_alloc | apply pw_below_drewN | apply below_drew1) | exact HB.out)⟩

/-- THE ONE PURE STATEMENT of montagelaw37_GlobWide: yours. -/
def montagelaw37_GlobWide.Pure : Prop := ∀ (a0 : ByteArray) (a1 : ByteArray), a0.size ≤ 140737488351232 → a1.size ≤ 140737488351232 → ∃ k, montagelaw37_GlobWide.f k a0 a1 = some true
theorem montagelaw37_GlobWide.walk (P : montagelaw37_GlobWide.Pure) (a0 : ByteArray) (a1 : ByteArray) (w : World) (w0 : a0.size ≤ 140737488351232) (w1 : a1.size ≤ 140737488351232) :
    Calls Tryd.prog 5 #[.string a0, .string a1] w fun e w' => e = .returned (.bool true) ∧ Below w.heap.size w w' := by
  obtain ⟨k, h⟩ := P a0 a1 w0 w1
  refine (montagelaw37_GlobWide.calls k a0 a1 true w h).mono ?_
  rintro e w' ⟨rfl, hd⟩
  exact ⟨rfl, hd⟩

end Go.Proofs.YtlbkfnofnlioaaaDoor.PGlob
