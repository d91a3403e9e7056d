-- Written by wip/xprint of this repo (not trusted: Lean checks it).
import Derived.Test.YtlbkfnofnlioaaaDoorPGlobx0
import Derived.Test.YtlbkfnofnlioaaaDoorPGlobx1
import Derived.Test.YtlbkfnofnlioaaaDoorPGlobx2
import Derived.Test.YtlbkfnofnlioaaaDoorPGlobx3
import Derived.Test.YtlbkfnofnlioaaaDoorPGlobx4
namespace Go.Proofs.YtlbkfnofnlioaaaDoor.PGlob
open Go.RowKit Go.Proofs.YtlbkfnofnlioaaaDoorW.PrintWords Go.Proofs.YtlbkfnofnlioaaaDoorW.PrintLast Go.Proofs.YtlbkfnofnlioaaaDoorW.PrintMore
attribute [local go_sem] max2_int min2_int max_two min_two max_three min_three max_four min_four   -- for this text's walks alone
set_option linter.unusedVariables false
set_option linter.unusedSimpArgs false

/-! ### montagelaw37_GlobFits: function 3 -/
def montagelaw37_GlobFits.j0 : Nat → ByteArray → ByteArray → Bool → Option (Bool)
  | 0, _, _, _ => none
  | k + 1, x0, x1, x15 => if x15 = true then (some true) else ((glob_Check.f k x0).bind fun t179 => ((montageref37_Right.f k x0).bind fun t180 => (if ((t179 == 0) == t180) = true then ((montageref37_Right.f k x0).bind fun t181 => (if ((t179 == 2) != t181) = true then ((glob_Fits.f x0 x1).bind fun t182 => ((montageref37_Fits.f x0 x1).bind fun t183 => (if (t182 == t183) = true then ((glob_Part.f k x0 x1).bind fun t184 => ((montageref37_Part.f k x0 x1).bind fun t185 => (some (t184 == t185)))) else (some false)))) else (some false))) else (some false))))
def montagelaw37_GlobFits.f (k : Nat) (a0 : ByteArray) (a1 : ByteArray) : Option (Bool) := (montagelaw37_awake.f k).bind fun t178 => (if t178 = true then (if (a0.size : Int) > 60 then (montagelaw37_GlobFits.j0 k a0 a1 true) else (montagelaw37_GlobFits.j0 k a0 a1 (decide ((a1.size : Int) > 60)))) else (some false))
theorem montagelaw37_GlobFits.mono_l : ∀ k, (∀ y0 y1 y2, LeO (montagelaw37_GlobFits.j0 k y0 y1 y2) (montagelaw37_GlobFits.j0 (k + 1) y0 y1 y2))
  | 0 => fun _ _ _ r h => by simp [montagelaw37_GlobFits.j0] at h
  | k + 1 => by
    have ih0 := montagelaw37_GlobFits.mono_l k
    · intro y0 y1 y2
      unfold montagelaw37_GlobFits.j0
      repeat' first
      | (with_reducible exact ih0 _ _ _)
      | (with_reducible exact glob_Check.mono _ _)
      | (with_reducible exact glob_Part.mono _ _ _)
      | (with_reducible exact montagelaw37_awake.mono _)
      | (with_reducible exact montageref37_Part.mono _ _ _)
      | (with_reducible exact montageref37_Right.mono _ _)
      | (with_reducible exact LeO.refl _)
      | (with_reducible exact LeO.none _)
      | (with_reducible refine LeO.ite ?_ ?_)
      | (with_reducible refine LeO.bind ?_ (fun _ => ?_))
      | exact ih0 _ _ _
      | exact glob_Check.mono _ _
      | exact glob_Part.mono _ _ _
      | exact montagelaw37_awake.mono _
      | exact montageref37_Part.mono _ _ _
      | exact montageref37_Right.mono _ _
      | exact LeO.none _
      | refine LeO.ite ?_ ?_
      | refine LeO.bind ?_ (fun _ => ?_)
theorem montagelaw37_GlobFits.mono : ∀ a0 a1 k, LeO (montagelaw37_GlobFits.f k a0 a1) (montagelaw37_GlobFits.f (k + 1) a0 a1) := by
  intro a0 a1 k
  have ih0 := montagelaw37_GlobFits.mono_l k
  unfold montagelaw37_GlobFits.f
  repeat' first
      | (with_reducible exact ih0 _ _ _)
      | (with_reducible exact glob_Check.mono _ _)
      | (with_reducible exact glob_Part.mono _ _ _)
      | (with_reducible exact montagelaw37_awake.mono _)
      | (with_reducible exact montageref37_Part.mono _ _ _)
      | (with_reducible exact montageref37_Right.mono _ _)
      | (with_reducible exact LeO.refl _)
      | (with_reducible exact LeO.none _)
      | (with_reducible refine LeO.ite ?_ ?_)
      | (with_reducible refine LeO.bind ?_ (fun _ => ?_))
      | exact ih0 _ _ _
      | exact glob_Check.mono _ _
      | exact glob_Part.mono _ _ _
      | exact montagelaw37_awake.mono _
      | exact montageref37_Part.mono _ _ _
      | exact montageref37_Right.mono _ _
      | exact LeO.none _
      | refine LeO.ite ?_ ?_
      | refine LeO.bind ?_ (fun _ => ?_)
set_option maxHeartbeats 8000000 in
set_option maxRecDepth 100000 in
theorem montagelaw37_GlobFits.calls (k : Nat) (a0 : ByteArray) (a1 : ByteArray) (r : Bool) (w : World) (h : montagelaw37_GlobFits.f k a0 a1 = some r) :
    Calls Tryd.prog 3 #[.string a0, .string a1] w fun e w' => e = .returned (.bool r) ∧ Below w.heap.size w w' := by
  have HB := Aside0.mk (Below.refl w.heap.size w)
  have H : ((montagelaw37_awake.f k).bind fun t178 => (if t178 = true then (if (a0.size : Int) > 60 then (montagelaw37_GlobFits.j0 k a0 a1 true) else (montagelaw37_GlobFits.j0 k a0 a1 (decide ((a1.size : Int) > 60)))) else (some false))) = some r := h
  clear h
  replace H := Option.bind_eq_some_iff.mp H
  obtain ⟨t178, A30, H⟩ := H
  replace H : (if t178 = true then (if (a0.size : Int) > 60 then (montagelaw37_GlobFits.j0 k a0 a1 true) else (montagelaw37_GlobFits.j0 k a0 a1 (decide ((a1.size : Int) > 60)))) else (some false)) = some r := H
  have A3 := Aside0.mk A30
  clear A30
  by_cases c4 : t178 = true
  · subst c4
    have H1 : (if (a0.size : Int) > 60 then (montagelaw37_GlobFits.j0 k a0 a1 true) else (montagelaw37_GlobFits.j0 k a0 a1 (decide ((a1.size : Int) > 60)))) = some r := by rw [if_pos rfl] at H; exact H
    clear H
    have H := H1
    clear H1
    have HC5 := Aside0.mk H
    clear H
    go_enter Tryd.func3, Tryd.ntmps3
    go_upto_region 3 with (first | ((with_reducible refine gate_callee (f := 6) rfl ?_); refine goesL_ (some 6) rfl rfl Tryd.func6 (by kernel_rfl) rfl #[] rfl (by (try simp only [List.map_toArray, List.map_cons, List.map_nil]); first | done | rfl | (simp only [List.length_drop, List.length_take]; rfl)) ?_; (with_reducible refine (montagelaw37_awake.calls k  true _ A3.out).mono ?_); rintro e w6 ⟨rfl, hb⟩; refine ⟨_, rfl, ?_⟩; have n0_ := Aside0.mk (below_step (by repeat (first | (with_reducible first | exact HB.out | apply below_alloc | apply pw_below_drewN | apply below_drew1) | exact HB.out)) hb); clear HB; have HB := n0_; clear n0_; (try clear hb); (try clear hb2); (try clear hk); (try clear hi)))
    (try simp only [Act.put, List.setIfInBounds_toArray, List.set_cons_zero, List.set_cons_succ])
    go_cut [15] (fun v15 wc => ∃ (kq : Nat) (x15_4 : Bool), v15 = .bool x15_4 ∧ Aside0 (montagelaw37_GlobFits.j0 kq a0 a1 x15_4 = some r) ∧ Aside0 (kq ≤ k) ∧ Aside0 (Below w.heap.size w wc))
    case first =>
      have H := HC5.out
      clear HC5
      by_cases c7 : (a0.size : Int) > 60
      · rw [if_pos c7] at H
        have c7b0 : decide (60 < (a0.size : Int)) = true := decide_eq_true c7
        have c7b1 : decide (60 < a0.size) = true := decide_eq_true (by omega)
        clear c7
        (first | rw [c7b0] | (simp only [i64_w, i32_w]; rw [c7b0]) | skip)
        have H' := Aside0.mk H
        clear H
        go_wp2
        go_meet
        case rel => exact ⟨_, (true), (by first | rfl | (simp; done) | (simp [*]; done)), H', ⟨by first | omega | exact Nat.le_refl _⟩, ⟨by repeat (first | (with_reducible first | exact HB.out | apply below_alloc | apply pw_below_drewN | apply below_drew1) | exact HB.out)⟩⟩
      · rw [if_neg c7] at H
        have c7b0 : decide (60 < (a0.size : Int)) = false := decide_eq_false c7
        have c7b1 : decide (60 < a0.size) = false := decide_eq_false (by omega)
        clear c7
        (first | rw [c7b0] | (simp only [i64_w, i32_w]; rw [c7b0]) | skip)
        have H' := Aside0.mk H
        clear H
        go_wp2
        go_meet
        case rel => exact ⟨_, (decide ((a1.size : Int) > 60)), (by first | rfl | (simp; done) | (simp [*]; done)), H', ⟨by first | omega | exact Nat.le_refl _⟩, ⟨by repeat (first | (with_reducible first | exact HB.out | apply below_alloc | apply pw_below_drewN | apply below_drew1) | exact HB.out)⟩⟩
    case rest =>
      clear HC5
      try clear p2
      try clear c3
      try clear c4
      try clear c6
      try clear c7
      try clear c7b0
      try clear c7b1
      obtain ⟨kq, x15_4, rfl, HA, HJ4, HB⟩ := hcut
      cases kq with
      | zero => exact absurd HA.out (by simp [montagelaw37_GlobFits.j0])
      | succ kj4 =>
        have H := HA.out
        clear HA
        simp only [montagelaw37_GlobFits.j0] at H
        by_cases c8 : x15_4 = true
        · subst c8
          have H1 : (some true) = some r := by rw [if_pos rfl] at H; exact H
          clear H
          have H := H1
          clear H1
          obtain rfl := Option.some.inj H
          go_wp2
          go_ret
          exact ⟨by first | rfl | (simp [errW_none, errW_some] <;> rfl) | (simp [*, errW_none, errW_some] <;> rfl), by repeat (first | (with_reducible first | exact HB.out | apply below_alloc | apply pw_below_drewN | apply below_drew1) | exact HB.out)⟩
        · replace c8 := Bool.eq_false_iff.mpr c8
          subst c8
          have H1 : ((glob_Check.f kj4 a0).bind fun t179 => ((montageref37_Right.f kj4 a0).bind fun t180 => (if ((t179 == 0) == t180) = true then ((montageref37_Right.f kj4 a0).bind fun t181 => (if ((t179 == 2) != t181) = true then ((glob_Fits.f a0 a1).bind fun t182 => ((montageref37_Fits.f a0 a1).bind fun t183 => (if (t182 == t183) = true then ((glob_Part.f kj4 a0 a1).bind fun t184 => ((montageref37_Part.f kj4 a0 a1).bind fun t185 => (some (t184 == t185)))) else (some false)))) else (some false))) else (some false)))) = some r := by rw [if_neg (show ¬ (false = true) by decide)] at H; exact H
          clear H
          have H := H1
          clear H1
          replace H := Option.bind_eq_some_iff.mp H
          obtain ⟨t179, A90, H⟩ := H
          replace H : ((montageref37_Right.f kj4 a0).bind fun t180 => (if ((t179 == 0) == t180) = true then ((montageref37_Right.f kj4 a0).bind fun t181 => (if ((t179 == 2) != t181) = true then ((glob_Fits.f a0 a1).bind fun t182 => ((montageref37_Fits.f a0 a1).bind fun t183 => (if (t182 == t183) = true then ((glob_Part.f kj4 a0 a1).bind fun t184 => ((montageref37_Part.f kj4 a0 a1).bind fun t185 => (some (t184 == t185)))) else (some false)))) else (some false))) else (some false))) = some r := H
          have A9 := Aside0.mk A90
          clear A90
          replace H := Option.bind_eq_some_iff.mp H
          obtain ⟨t180, A100, H⟩ := H
          replace H : (if ((t179 == 0) == t180) = true then ((montageref37_Right.f kj4 a0).bind fun t181 => (if ((t179 == 2) != t181) = true then ((glob_Fits.f a0 a1).bind fun t182 => ((montageref37_Fits.f a0 a1).bind fun t183 => (if (t182 == t183) = true then ((glob_Part.f kj4 a0 a1).bind fun t184 => ((montageref37_Part.f kj4 a0 a1).bind fun t185 => (some (t184 == t185)))) else (some false)))) else (some false))) else (some false)) = some r := H
          have A10 := Aside0.mk A100
          clear A100
          by_cases c11 : ((t179 == 0) == t180) = true
          · rw [if_pos c11] at H
            have c11b0 : ((t179 == 0) == t180) = true := c11
            (try (have c11b1 : decide ((t179 == 0) = t180) = true := by simpa using c11))
            (try (have c11b2 : ((t179 == 0) == t180) = true := by simpa using c11))
            clear c11
            replace H := Option.bind_eq_some_iff.mp H
            obtain ⟨t181, A120, H⟩ := H
            replace H : (if ((t179 == 2) != t181) = true then ((glob_Fits.f a0 a1).bind fun t182 => ((montageref37_Fits.f a0 a1).bind fun t183 => (if (t182 == t183) = true then ((glob_Part.f kj4 a0 a1).bind fun t184 => ((montageref37_Part.f kj4 a0 a1).bind fun t185 => (some (t184 == t185)))) else (some false)))) else (some false)) = some r := H
            have A12 := Aside0.mk A120
            clear A120
            by_cases c13 : ((t179 == 2) != t181) = true
            · rw [if_pos c13] at H
              have c13b0 : ((t179 == 2) != t181) = true := c13
              (try (have c13b1 : decide ((t179 == 2) = t181) = false := by simpa using c13))
              (try (have c13b2 : ((t179 == 2) == t181) = false := by simpa using c13))
              (try (have c13b3 : ¬ ((t179 == 2) = t181) := by simpa using c13))
              clear c13
              replace H := Option.bind_eq_some_iff.mp H
              obtain ⟨t182, A140, H⟩ := H
              replace H : ((montageref37_Fits.f a0 a1).bind fun t183 => (if (t182 == t183) = true then ((glob_Part.f kj4 a0 a1).bind fun t184 => ((montageref37_Part.f kj4 a0 a1).bind fun t185 => (some (t184 == t185)))) else (some false))) = some r := H
              have A14 := Aside0.mk A140
              clear A140
              replace H := Option.bind_eq_some_iff.mp H
              obtain ⟨t183, A150, H⟩ := H
              replace H : (if (t182 == t183) = true then ((glob_Part.f kj4 a0 a1).bind fun t184 => ((montageref37_Part.f kj4 a0 a1).bind fun t185 => (some (t184 == t185)))) else (some false)) = some r := H
              have A15 := Aside0.mk A150
              clear A150
              by_cases c16 : (t182 == t183) = true
              · rw [if_pos c16] at H
                have c16b0 : (t182 == t183) = true := c16
                (try (have c16b1 : decide (t182 = t183) = true := by simpa using c16))
                (try (have c16b2 : (t182 == t183) = true := by simpa using c16))
                clear c16
                replace H := Option.bind_eq_some_iff.mp H
                obtain ⟨t184, A170, H⟩ := H
                replace H : ((montageref37_Part.f kj4 a0 a1).bind fun t185 => (some (t184 == t185))) = some r := H
                have A17 := Aside0.mk A170
                clear A170
                replace H := Option.bind_eq_some_iff.mp H
                obtain ⟨t185, A180, H⟩ := H
                replace H : (some (t184 == t185)) = some r := H
                have A18 := Aside0.mk A180
                clear A180
                obtain rfl := Option.some.inj H
                go_wp2_with (first | ((with_reducible refine gate_callee (f := 7) rfl ?_); refine goesL_ (some 17) rfl rfl Tryd.func7 (by kernel_rfl) rfl #[.string a0] rfl (by (try simp only [List.map_toArray, List.map_cons, List.map_nil]); first | done | rfl | (simp only [List.length_drop, List.length_take]; rfl)) ?_; (with_reducible refine (glob_Check.calls kj4 a0 t179 _ A9.out).mono ?_); rintro e w19 ⟨rfl, hb⟩; refine ⟨_, rfl, ?_⟩; have n0_ := Aside0.mk (below_step (by repeat (first | (with_reducible first | exact HB.out | apply below_alloc | apply pw_below_drewN | apply below_drew1) | exact HB.out)) hb); clear HB; have HB := n0_; clear n0_; (try clear hb); (try clear hb2); (try clear hk); (try clear hi)) | ((with_reducible refine gate_callee (f := 8) rfl ?_); refine goesL_ (some 21) rfl rfl Tryd.func8 (by kernel_rfl) rfl #[.string a0] rfl (by (try simp only [List.map_toArray, List.map_cons, List.map_nil]); first | done | rfl | (simp only [List.length_drop, List.length_take]; rfl)) ?_; (with_reducible refine (montageref37_Right.calls kj4 a0 t180 _ A10.out).mono ?_); rintro e w20 ⟨rfl, hb⟩; refine ⟨_, rfl, ?_⟩; have n0_ := Aside0.mk (below_step (by repeat (first | (with_reducible first | exact HB.out | apply below_alloc | apply pw_below_drewN | apply below_drew1) | exact HB.out)) hb); clear HB; have HB := n0_; clear n0_; (try clear hb); (try clear hb2); (try clear hk); (try clear hi)) | (go_at_call 8; (with_reducible refine (montageref37_Right.calls kj4 a0 t181 _ A12.out).mono ?_); rintro e w21 ⟨rfl, hb⟩; have n0_ := Aside0.mk (below_step (by repeat (first | (with_reducible first | exact HB.out | apply below_alloc | apply pw_below_drewN | apply below_drew1) | exact HB.out)) hb); clear HB; have HB := n0_; clear n0_; (try clear hb); (try clear hb2); (try clear hk); (try clear hi)) | (go_at_call 9; (with_reducible refine (glob_Fits.calls a0 a1 t182 _ A14.out).mono ?_); rintro e w22 ⟨rfl, hb⟩; have n0_ := Aside0.mk (below_step (by repeat (first | (with_reducible first | exact HB.out | apply below_alloc | apply pw_below_drewN | apply below_drew1) | exact HB.out)) hb); clear HB; have HB := n0_; clear n0_; (try clear hb); (try clear hb2); (try clear hk); (try clear hi)) | (go_at_call 10; (with_reducible refine (montageref37_Fits.calls a0 a1 t183 _ A15.out).mono ?_); rintro e w23 ⟨rfl, hb⟩; have n0_ := Aside0.mk (below_step (by repeat (first | (with_reducible first | exact HB.out | apply below_alloc | apply pw_below_drewN | apply below_drew1) | exact HB.out)) hb); clear HB; have HB := n0_; clear n0_; (try clear hb); (try clear hb2); (try clear hk); (try clear hi)) | (go_at_call 11; (with_reducible refine (glob_Part.calls kj4 a0 a1 t184 _ A17.out).mono ?_); rintro e w24 ⟨rfl, hb⟩; have n0_ := Aside0.mk (below_step (by repeat (first | (with_reducible first | exact HB.out | apply below_alloc | apply pw_below_drewN | apply below_drew1) | exact HB.out)) hb); clear HB; have HB := n0_; clear n0_; (try clear hb); (try clear hb2); (try clear hk); (try clear hi)) | (go_at_call 12; (with_reducible refine (montageref37_Part.calls kj4 a0 a1 t185 _ A18.out).mono ?_); rintro e w25 ⟨rfl, hb⟩; have n0_ := Aside0.mk (below_step (by repeat (first | (with_reducible first | exact HB.out | apply below_alloc | apply pw_below_drewN | apply below_drew1) | exact HB.out)) hb); clear HB; have HB := n0_; clear n0_; (try clear hb); (try clear hb2); (try clear hk); (try clear hi)))
                go_ret
                exact ⟨by first | rfl | (simp [errW_none, errW_some] <;> rfl) | (simp [*, errW_none, errW_some] <;> rfl), by repeat (first | (with_reducible first | exact HB.out | apply below_alloc | apply pw_below_drewN | apply below_drew1) | exact HB.out)⟩
              · rw [if_neg c16] at H
                have c16b0 : (t182 == t183) = false := by simpa using c16
                (try (have c16b1 : decide (t182 = t183) = false := by simpa using c16))
                (try (have c16b2 : (t182 == t183) = false := by simpa using c16))
                (try (have c16b3 : ¬ (t182 = t183) := by simpa using c16))
                clear c16
                obtain rfl := Option.some.inj H
                go_wp2_with (first | ((with_reducible refine gate_callee (f := 7) rfl ?_); refine goesL_ (some 17) rfl rfl Tryd.func7 (by kernel_rfl) rfl #[.string a0] rfl (by (try simp only [List.map_toArray, List.map_cons, List.map_nil]); first | done | rfl | (simp only [List.length_drop, List.length_take]; rfl)) ?_; (with_reducible refine (glob_Check.calls kj4 a0 t179 _ A9.out).mono ?_); rintro e w26 ⟨rfl, hb⟩; refine ⟨_, rfl, ?_⟩; have n0_ := Aside0.mk (below_step (by repeat (first | (with_reducible first | exact HB.out | apply below_alloc | apply pw_below_drewN | apply below_drew1) | exact HB.out)) hb); clear HB; have HB := n0_; clear n0_; (try clear hb); (try clear hb2); (try clear hk); (try clear hi)) | ((with_reducible refine gate_callee (f := 8) rfl ?_); refine goesL_ (some 21) rfl rfl Tryd.func8 (by kernel_rfl) rfl #[.string a0] rfl (by (try simp only [List.map_toArray, List.map_cons, List.map_nil]); first | done | rfl | (simp only [List.length_drop, List.length_take]; rfl)) ?_; (with_reducible refine (montageref37_Right.calls kj4 a0 t180 _ A10.out).mono ?_); rintro e w27 ⟨rfl, hb⟩; refine ⟨_, rfl, ?_⟩; have n0_ := Aside0.mk (below_step (by repeat (first | (with_reducible first | exact HB.out | apply below_alloc | apply pw_below_drewN | apply below_drew1) | exact HB.out)) hb); clear HB; have HB := n0_; clear n0_; (try clear hb); (try clear hb2); (try clear hk); (try clear hi)) | (go_at_call 8; (with_reducible refine (montageref37_Right.calls kj4 a0 t181 _ A12.out).mono ?_); rintro e w28 ⟨rfl, hb⟩; have n0_ := Aside0.mk (below_step (by repeat (first | (with_reducible first | exact HB.out | apply below_alloc | apply pw_below_drewN | apply below_drew1) | exact HB.out)) hb); clear HB; have HB := n0_; clear n0_; (try clear hb); (try clear hb2); (try clear hk); (try clear hi)) | (go_at_call 9; (with_reducible refine (glob_Fits.calls a0 a1 t182 _ A14.out).mono ?_); rintro e w29 ⟨rfl, hb⟩; have n0_ := Aside0.mk (below_step (by repeat (first | (with_reducible first | exact HB.out | apply below_alloc | apply pw_below_drewN | apply below_drew1) | exact HB.out)) hb); clear HB; have HB := n0_; clear n0_; (try clear hb); (try clear hb2); (try clear hk); (try clear hi)) | (go_at_call 10; (with_reducible refine (montageref37_Fits.calls a0 a1 t183 _ A15.out).mono ?_); rintro e w30 ⟨rfl, hb⟩; have n0_ := Aside0.mk (below_step (by repeat (first | (with_reducible first | exact HB.out | apply below_alloc | apply pw_below_drewN | apply below_drew1) | exact HB.out)) hb); clear HB; have HB := n0_; clear n0_; (try clear hb); (try clear hb2); (try clear hk); (try clear hi)))
                go_ret
                exact ⟨by first | rfl | (simp [errW_none, errW_some] <;> rfl) | (simp [*, errW_none, errW_some] <;> rfl), by repeat (first | (with_reducible first | exact HB.out | apply below_alloc | apply pw_below_drewN | apply below_drew1) | exact HB.out)⟩
            · rw [if_neg c13] at H
              have c13b0 : ((t179 == 2) != t181) = false := by simpa using c13
              (try (have c13b1 : decide ((t179 == 2) = t181) = true := by simpa using c13))
              (try (have c13b2 : ((t179 == 2) == t181) = true := by simpa using c13))
              clear c13
              obtain rfl := Option.some.inj H
              go_wp2_with (first | ((with_reducible refine gate_callee (f := 7) rfl ?_); refine goesL_ (some 17) rfl rfl Tryd.func7 (by kernel_rfl) rfl #[.string a0] rfl (by (try simp only [List.map_toArray, List.map_cons, List.map_nil]); first | done | rfl | (simp only [List.length_drop, List.length_take]; rfl)) ?_; (with_reducible refine (glob_Check.calls kj4 a0 t179 _ A9.out).mono ?_); rintro e w31 ⟨rfl, hb⟩; refine ⟨_, rfl, ?_⟩; have n0_ := Aside0.mk (below_step (by repeat (first | (with_reducible first | exact HB.out | apply below_alloc | apply pw_below_drewN | apply below_drew1) | exact HB.out)) hb); clear HB; have HB := n0_; clear n0_; (try clear hb); (try clear hb2); (try clear hk); (try clear hi)) | ((with_reducible refine gate_callee (f := 8) rfl ?_); refine goesL_ (some 21) rfl rfl Tryd.func8 (by kernel_rfl) rfl #[.string a0] rfl (by (try simp only [List.map_toArray, List.map_cons, List.map_nil]); first | done | rfl | (simp only [List.length_drop, List.length_take]; rfl)) ?_; (with_reducible refine (montageref37_Right.calls kj4 a0 t180 _ A10.out).mono ?_); rintro e w32 ⟨rfl, hb⟩; refine ⟨_, rfl, ?_⟩; have n0_ := Aside0.mk (below_step (by repeat (first | (with_reducible first | exact HB.out | apply below_alloc | apply pw_below_drewN | apply below_drew1) | exact HB.out)) hb); clear HB; have HB := n0_; clear n0_; (try clear hb); (try clear hb2); (try clear hk); (try clear hi)) | (go_at_call 8; (with_reducible refine (montageref37_Right.calls kj4 a0 t181 _ A12.out).mono ?_); rintro e w33 ⟨rfl, hb⟩; have n0_ := Aside0.mk (below_step (by repeat (first | (with_reducible first | exact HB.out | apply below_alloc | apply pw_below_drewN | apply below_drew1) | exact HB.out)) hb); clear HB; have HB := n0_; clear n0_; (try clear hb); (try clear hb2); (try clear hk); (try clear hi)))
              go_ret
              exact ⟨by first | rfl | (simp [errW_none, errW_some] <;> rfl) | (simp [*, errW_none, errW_some] <;> rfl), by repeat (first | (with_reducible first | exact HB.out | apply below_alloc | apply pw_below_drewN | apply below_drew1) | exact HB.out)⟩
          · rw [if_neg c11] at H
            have c11b0 : ((t179 == 0) == t180) = false := by simpa using c11
            (try (have c11b1 : decide ((t179 == 0) = t180) = false := by simpa using c11))
            (try (have c11b2 : ((t179 == 0) == t180) = false := by simpa using c11))
            (try (have c11b3 : ¬ ((t179 == 0) = t180) := by simpa using c11))
            clear c11
            obtain rfl := Option.some.inj H
            go_wp2_with (first | ((with_reducible refine gate_callee (f := 7) rfl ?_); refine goesL_ (some 17) rfl rfl Tryd.func7 (by kernel_rfl) rfl #[.string a0] rfl (by (try simp only [List.map_toArray, List.map_cons, List.map_nil]); first | done | rfl | (simp only [List.length_drop, List.length_take]; rfl)) ?_; (with_reducible refine (glob_Check.calls kj4 a0 t179 _ A9.out).mono ?_); rintro e w34 ⟨rfl, hb⟩; refine ⟨_, rfl, ?_⟩; have n0_ := Aside0.mk (below_step (by repeat (first | (with_reducible first | exact HB.out | apply below_alloc | apply pw_below_drewN | apply below_drew1) | exact HB.out)) hb); clear HB; have HB := n0_; clear n0_; (try clear hb); (try clear hb2); (try clear hk); (try clear hi)) | ((with_reducible refine gate_callee (f := 8) rfl ?_); refine goesL_ (some 21) rfl rfl Tryd.func8 (by kernel_rfl) rfl #[.string a0] rfl (by (try simp only [List.map_toArray, List.map_cons, List.map_nil]); first | done | rfl | (simp only [List.length_drop, List.length_take]; rfl)) ?_; (with_reducible refine (montageref37_Right.calls kj4 a0 t180 _ A10.out).mono ?_); rintro e w35 ⟨rfl, hb⟩; refine ⟨_, rfl, ?_⟩; have n0_ := Aside0.mk (below_step (by repeat (first | (with_reducible first | exact HB.out | apply below_alloc | apply pw_below_drewN | apply below_drew1) | exact HB.out)) hb); clear HB; have HB := n0_; clear n0_; (try clear hb); (try clear hb2); (try clear hk); (try clear hi)))
            go_ret
            exact ⟨by first | rfl | (simp [errW_none, errW_some] <;> rfl) | (simp [*, errW_none, errW_some] <;> rfl), by repeat (first | (with_reducible first | exact HB.out | apply below_alloc | apply pw_below_drewN | apply below_drew1) | exact HB.out)⟩
  · replace c4 := Bool.eq_false_iff.mpr c4
    subst c4
    have H1 : (some false) = some r := by rw [if_neg (show ¬ (false = true) by decide)] at H; exact H
    clear H
    have H := H1
    clear H1
    obtain rfl := Option.some.inj H
    go_enter Tryd.func3, Tryd.ntmps3
    go_wp2_with (first | ((with_reducible refine gate_callee (f := 6) rfl ?_); refine goesL_ (some 6) rfl rfl Tryd.func6 (by kernel_rfl) rfl #[] rfl (by (try simp only [List.map_toArray, List.map_cons, List.map_nil]); first | done | rfl | (simp only [List.length_drop, List.length_take]; rfl)) ?_; (with_reducible refine (montagelaw37_awake.calls k  false _ A3.out).mono ?_); rintro e w36 ⟨rfl, hb⟩; refine ⟨_, rfl, ?_⟩; have n0_ := Aside0.mk (below_step (by repeat (first | (with_reducible first | exact HB.out | apply below_alloc | apply pw_below_drewN | apply below_drew1) | exact HB.out)) hb); clear HB; have HB := n0_; clear n0_; (try clear hb); (try clear hb2); (try clear hk); (try clear hi)))
    go_ret
    exact ⟨by first | rfl | (simp [errW_none, errW_some] <;> rfl) | (simp [*, errW_none, errW_some] <;> rfl), by repeat (first | (with_reducible first | exact HB.out | apply below_alloc | apply pw_below_drewN | apply below_drew1) | exact HB.out)⟩

/-- THE ONE PURE STATEMENT of montagelaw37_GlobFits: yours. -/
def montagelaw37_GlobFits.Pure : Prop := ∀ (a0 : ByteArray) (a1 : ByteArray), a0.size ≤ 140737488351232 → a1.size ≤ 140737488351232 → ∃ k, montagelaw37_GlobFits.f k a0 a1 = some true
theorem montagelaw37_GlobFits.walk (P : montagelaw37_GlobFits.Pure) (a0 : ByteArray) (a1 : ByteArray) (w : World) (w0 : a0.size ≤ 140737488351232) (w1 : a1.size ≤ 140737488351232) :
    Calls Tryd.prog 3 #[.string a0, .string a1] w fun e w' => e = .returned (.bool true) ∧ Below w.heap.size w w' := by
  obtain ⟨k, h⟩ := P a0 a1 w0 w1
  refine (montagelaw37_GlobFits.calls k a0 a1 true w h).mono ?_
  rintro e w' ⟨rfl, hd⟩
  exact ⟨rfl, hd⟩

/-! ### montageref37_Quote: function 14 -/
def montageref37_Quote.l0 : Nat → ByteArray → ByteArray → Int → Option (ByteArray)
  | 0, _, _, _ => none
  | k + 1, x0, x3, x4 => if x4 < (x0.size : Int) then (if 0 ≤ x4 then (if (bt x0 x4) = 42 then (if x3.size + 1 ≤ 9223372036854775807 then (if x4 ≤ (wrap64 (x4 + 1)) then (if (wrap64 (x4 + 1)) ≤ (x0.size : Int) then (if (x3 ++ (⟨#[92]⟩ : ByteArray)).size + (x0.extract (x4 : Int).toNat ((wrap64 (x4 + 1)) : Int).toNat).size ≤ 9223372036854775807 then (montageref37_Quote.l0 k x0 ((x3 ++ (⟨#[92]⟩ : ByteArray)) ++ (x0.extract (x4 : Int).toNat ((wrap64 (x4 + 1)) : Int).toNat)) (wrap64 (x4 + 1))) else (none)) else (none)) else (none)) else (none)) else (if (bt x0 x4) = 63 then (if x3.size + 1 ≤ 9223372036854775807 then (if x4 ≤ (wrap64 (x4 + 1)) then (if (wrap64 (x4 + 1)) ≤ (x0.size : Int) then (if (x3 ++ (⟨#[92]⟩ : ByteArray)).size + (x0.extract (x4 : Int).toNat ((wrap64 (x4 + 1)) : Int).toNat).size ≤ 9223372036854775807 then (montageref37_Quote.l0 k x0 ((x3 ++ (⟨#[92]⟩ : ByteArray)) ++ (x0.extract (x4 : Int).toNat ((wrap64 (x4 + 1)) : Int).toNat)) (wrap64 (x4 + 1))) else (none)) else (none)) else (none)) else (none)) else (if (bt x0 x4) = 92 then (if x3.size + 1 ≤ 9223372036854775807 then (if x4 ≤ (wrap64 (x4 + 1)) then (if (wrap64 (x4 + 1)) ≤ (x0.size : Int) then (if (x3 ++ (⟨#[92]⟩ : ByteArray)).size + (x0.extract (x4 : Int).toNat ((wrap64 (x4 + 1)) : Int).toNat).size ≤ 9223372036854775807 then (montageref37_Quote.l0 k x0 ((x3 ++ (⟨#[92]⟩ : ByteArray)) ++ (x0.extract (x4 : Int).toNat ((wrap64 (x4 + 1)) : Int).toNat)) (wrap64 (x4 + 1))) else (none)) else (none)) else (none)) else (none)) else (if x4 ≤ (wrap64 (x4 + 1)) then (if (wrap64 (x4 + 1)) ≤ (x0.size : Int) then (if x3.size + (x0.extract (x4 : Int).toNat ((wrap64 (x4 + 1)) : Int).toNat).size ≤ 9223372036854775807 then (montageref37_Quote.l0 k x0 (x3 ++ (x0.extract (x4 : Int).toNat ((wrap64 (x4 + 1)) : Int).toNat)) (wrap64 (x4 + 1))) else (none)) else (none)) else (none))))) else (none)) else (some x3)
def montageref37_Quote.f (k : Nat) (a0 : ByteArray) : Option (ByteArray) := montageref37_Quote.l0 k a0 (⟨#[]⟩ : ByteArray) 0
theorem montageref37_Quote.mono_l : ∀ k, (∀ y0 y1 y2, LeO (montageref37_Quote.l0 k y0 y1 y2) (montageref37_Quote.l0 (k + 1) y0 y1 y2))
  | 0 => fun _ _ _ r h => by simp [montageref37_Quote.l0] at h
  | k + 1 => by
    have ih0 := montageref37_Quote.mono_l k
    · intro y0 y1 y2
      unfold montageref37_Quote.l0
      repeat' first
      | (with_reducible exact ih0 _ _ _)
      | (with_reducible exact LeO.refl _)
      | (with_reducible exact LeO.none _)
      | (with_reducible refine LeO.ite ?_ ?_)
      | (with_reducible refine LeO.bind ?_ (fun _ => ?_))
      | exact ih0 _ _ _
      | exact LeO.none _
      | refine LeO.ite ?_ ?_
      | refine LeO.bind ?_ (fun _ => ?_)
theorem montageref37_Quote.mono : ∀ a0 k, LeO (montageref37_Quote.f k a0) (montageref37_Quote.f (k + 1) a0) := by
  intro a0 k
  have ih0 := montageref37_Quote.mono_l k
  unfold montageref37_Quote.f
  repeat' first
      | (with_reducible exact ih0 _ _ _)
      | (with_reducible exact LeO.refl _)
      | (with_reducible exact LeO.none _)
      | (with_reducible refine LeO.ite ?_ ?_)
      | (with_reducible refine LeO.bind ?_ (fun _ => ?_))
      | exact ih0 _ _ _
      | exact LeO.none _
      | refine LeO.ite ?_ ?_
      | refine LeO.bind ?_ (fun _ => ?_)
set_option maxHeartbeats 8000000 in
set_option maxRecDepth 100000 in
theorem montageref37_Quote.calls (k : Nat) (a0 : ByteArray) (r : ByteArray) (w : World) (h : montageref37_Quote.f k a0 = some r) :
    Calls Tryd.prog 14 #[.string a0] w fun e w' => e = .returned (.string r) ∧ Drawn0 w w' := by
  have H : (montageref37_Quote.l0 k a0 (⟨#[]⟩ : ByteArray) 0) = some r := h
  clear h
  have H' := Aside0.mk H
  clear H
  go_enter Tryd.func14, Tryd.ntmps14
  go_wp2
  go_loopg [3, 4] k (fun kq v3 v4 w' => ∃ (x3_1 : ByteArray) (x4_1 : Int), v3 = .string x3_1 ∧ v4 = .int .i64 x4_1 ∧ Aside0 (montageref37_Quote.l0 kq a0 x3_1 x4_1 = some r) ∧ Aside0 (kq ≤ k) ∧ Drawn0 w w')
  case atStart => exact ⟨((⟨#[]⟩ : ByteArray)), (0), (by first | rfl | (simp; done) | (simp [*]; done)), (by first | rfl | (simp; done) | (simp [*]; done)), H', ⟨Nat.le_refl _⟩, by repeat (first | exact Drawn0.refl _ | apply Drawn0.step)⟩
  case round =>
    clear H'
    try clear c1
    obtain ⟨x3_1, x4_1, rfl, rfl, HA, HK1, ⟨m1, rfl⟩⟩ := hrel
    cases gk with
    | zero => exact absurd HA.out (by simp [montageref37_Quote.l0])
    | succ k1 =>
      have H := HA.out
      clear HA
      simp only [montageref37_Quote.l0] at H
      by_cases c2 : x4_1 < (a0.size : Int)
      · rw [if_pos c2] at H
        have c2b0 : decide (x4_1 < (a0.size : Int)) = true := decide_eq_true c2
        clear c2
        by_cases c3 : 0 ≤ x4_1
        · rw [if_pos c3] at H
          have c3b0 : decide (0 ≤ x4_1) = true := decide_eq_true c3
          clear c3
          by_cases c5 : (bt a0 x4_1) = 42
          · rw [if_pos c5] at H
            have c5b0 : ((bt a0 x4_1) == 42) = true := beq_iff_eq.mpr c5
            have c5b1 : ((bt a0 x4_1) != 42) = false := bne_eq_false_iff_eq.mpr c5
            clear c5
            by_cases c6 : x3_1.size + 1 ≤ 9223372036854775807
            · rw [if_pos c6] at H
              have c6b0 := eq_true c6
              have c6b1 : decide (x3_1.size + 1 ≤ 9223372036854775807) = true := decide_eq_true c6
              try have c6b2 : (9223372036854775807 < x3_1.size + 1) = False := eq_false (Nat.not_lt.2 c6)
              have c7b0 := eq_true (of_decide_eq_true (by first | (with_reducible assumption) | assumption) : 0 ≤ x4_1)
              by_cases c8 : x4_1 ≤ (wrap64 (x4_1 + 1))
              · rw [if_pos c8] at H
                have c8b0 := eq_true c8
                have c8b1 : decide (x4_1 ≤ (wrap64 (x4_1 + 1))) = true := decide_eq_true c8
                by_cases c9 : (wrap64 (x4_1 + 1)) ≤ (a0.size : Int)
                · rw [if_pos c9] at H
                  have c9b0 := eq_true c9
                  have c9b1 : decide ((wrap64 (x4_1 + 1)) ≤ (a0.size : Int)) = true := decide_eq_true c9
                  by_cases c10 : (x3_1 ++ (⟨#[92]⟩ : ByteArray)).size + (a0.extract (x4_1 : Int).toNat ((wrap64 (x4_1 + 1)) : Int).toNat).size ≤ 9223372036854775807
                  · rw [if_pos c10] at H
                    have c10b0 := eq_true c10
                    have c10b1 : decide ((x3_1 ++ (⟨#[92]⟩ : ByteArray)).size + (a0.extract (x4_1 : Int).toNat ((wrap64 (x4_1 + 1)) : Int).toNat).size ≤ 9223372036854775807) = true := decide_eq_true c10
                    try have c10b2 : (9223372036854775807 < (x3_1 ++ (⟨#[92]⟩ : ByteArray)).size + (a0.extract (x4_1 : Int).toNat ((wrap64 (x4_1 + 1)) : Int).toNat).size) = False := eq_false (Nat.not_lt.2 c10)
                    have H' := Aside0.mk H
                    clear H
                    have p4 : 0 ≤ (x4_1 : Int) := of_decide_eq_true (by first | (with_reducible assumption) | assumption)
                    have q4 : x4_1 < (a0.size : Int) := of_decide_eq_true (by first | (with_reducible assumption) | assumption)
                    have hx4 := bt_at a0 x4_1
                    replace p4 := eq_true p4
                    replace q4 := eq_true q4
                    go_wp2
                    go_roundg k1
                    case measure => have := HK1.out; omega
                    case rel => exact ⟨((x3_1 ++ (⟨#[92]⟩ : ByteArray)) ++ (a0.extract (x4_1 : Int).toNat ((wrap64 (x4_1 + 1)) : Int).toNat)), (wrap64 (x4_1 + 1)), (by first | rfl | (simp; done) | (simp [*]; done)), (by first | rfl | (simp; done) | (simp [*]; done)), H', ⟨by have := HK1.out; omega⟩, by repeat (first | exact Drawn0.refl _ | apply Drawn0.step)⟩
                  · rw [if_neg c10] at H
                    exact absurd H (by simp)
                · rw [if_neg c9] at H
                  exact absurd H (by simp)
              · rw [if_neg c8] at H
                exact absurd H (by simp)
            · rw [if_neg c6] at H
              exact absurd H (by simp)
          · rw [if_neg c5] at H
            have c5b0 : ((bt a0 x4_1) == 42) = false := beq_eq_false_iff_ne.mpr c5
            have c5b1 : ((bt a0 x4_1) != 42) = true := bne_iff_ne.mpr c5
            by_cases c12 : (bt a0 x4_1) = 63
            · rw [if_pos c12] at H
              have c12b0 : ((bt a0 x4_1) == 63) = true := beq_iff_eq.mpr c12
              have c12b1 : ((bt a0 x4_1) != 63) = false := bne_eq_false_iff_eq.mpr c12
              clear c12
              by_cases c13 : x3_1.size + 1 ≤ 9223372036854775807
              · rw [if_pos c13] at H
                have c13b0 := eq_true c13
                have c13b1 : decide (x3_1.size + 1 ≤ 9223372036854775807) = true := decide_eq_true c13
                try have c13b2 : (9223372036854775807 < x3_1.size + 1) = False := eq_false (Nat.not_lt.2 c13)
                have c14b0 := eq_true (of_decide_eq_true (by first | (with_reducible assumption) | assumption) : 0 ≤ x4_1)
                by_cases c15 : x4_1 ≤ (wrap64 (x4_1 + 1))
                · rw [if_pos c15] at H
                  have c15b0 := eq_true c15
                  have c15b1 : decide (x4_1 ≤ (wrap64 (x4_1 + 1))) = true := decide_eq_true c15
                  by_cases c16 : (wrap64 (x4_1 + 1)) ≤ (a0.size : Int)
                  · rw [if_pos c16] at H
                    have c16b0 := eq_true c16
                    have c16b1 : decide ((wrap64 (x4_1 + 1)) ≤ (a0.size : Int)) = true := decide_eq_true c16
                    by_cases c17 : (x3_1 ++ (⟨#[92]⟩ : ByteArray)).size + (a0.extract (x4_1 : Int).toNat ((wrap64 (x4_1 + 1)) : Int).toNat).size ≤ 9223372036854775807
                    · rw [if_pos c17] at H
                      have c17b0 := eq_true c17
                      have c17b1 : decide ((x3_1 ++ (⟨#[92]⟩ : ByteArray)).size + (a0.extract (x4_1 : Int).toNat ((wrap64 (x4_1 + 1)) : Int).toNat).size ≤ 9223372036854775807) = true := decide_eq_true c17
                      try have c17b2 : (9223372036854775807 < (x3_1 ++ (⟨#[92]⟩ : ByteArray)).size + (a0.extract (x4_1 : Int).toNat ((wrap64 (x4_1 + 1)) : Int).toNat).size) = False := eq_false (Nat.not_lt.2 c17)
                      have H' := Aside0.mk H
                      clear H
                      have p4 : 0 ≤ (x4_1 : Int) := of_decide_eq_true (by first | (with_reducible assumption) | assumption)
                      have q4 : x4_1 < (a0.size : Int) := of_decide_eq_true (by first | (with_reducible assumption) | assumption)
                      have hx4 := bt_at a0 x4_1
                      replace p4 := eq_true p4
                      replace q4 := eq_true q4
                      have p11 : 0 ≤ (x4_1 : Int) := of_decide_eq_true (by first | (with_reducible assumption) | assumption)
                      have q11 : x4_1 < (a0.size : Int) := of_decide_eq_true (by first | (with_reducible assumption) | assumption)
                      have hx11 := bt_at a0 x4_1
                      replace p11 := eq_true p11
                      replace q11 := eq_true q11
                      go_wp2
                      go_roundg k1
                      case measure => have := HK1.out; omega
                      case rel => exact ⟨((x3_1 ++ (⟨#[92]⟩ : ByteArray)) ++ (a0.extract (x4_1 : Int).toNat ((wrap64 (x4_1 + 1)) : Int).toNat)), (wrap64 (x4_1 + 1)), (by first | rfl | (simp; done) | (simp [*]; done)), (by first | rfl | (simp; done) | (simp [*]; done)), H', ⟨by have := HK1.out; omega⟩, by repeat (first | exact Drawn0.refl _ | apply Drawn0.step)⟩
                    · rw [if_neg c17] at H
                      exact absurd H (by simp)
                  · rw [if_neg c16] at H
                    exact absurd H (by simp)
                · rw [if_neg c15] at H
                  exact absurd H (by simp)
              · rw [if_neg c13] at H
                exact absurd H (by simp)
            · rw [if_neg c12] at H
              have c12b0 : ((bt a0 x4_1) == 63) = false := beq_eq_false_iff_ne.mpr c12
              have c12b1 : ((bt a0 x4_1) != 63) = true := bne_iff_ne.mpr c12
              by_cases c19 : (bt a0 x4_1) = 92
              · rw [if_pos c19] at H
                have c19b0 : ((bt a0 x4_1) == 92) = true := beq_iff_eq.mpr c19
                have c19b1 : ((bt a0 x4_1) != 92) = false := bne_eq_false_iff_eq.mpr c19
                clear c19
                by_cases c20 : x3_1.size + 1 ≤ 9223372036854775807
                · rw [if_pos c20] at H
                  have c20b0 := eq_true c20
                  have c20b1 : decide (x3_1.size + 1 ≤ 9223372036854775807) = true := decide_eq_true c20
                  try have c20b2 : (9223372036854775807 < x3_1.size + 1) = False := eq_false (Nat.not_lt.2 c20)
                  have c21b0 := eq_true (of_decide_eq_true (by first | (with_reducible assumption) | assumption) : 0 ≤ x4_1)
                  by_cases c22 : x4_1 ≤ (wrap64 (x4_1 + 1))
                  · rw [if_pos c22] at H
                    have c22b0 := eq_true c22
                    have c22b1 : decide (x4_1 ≤ (wrap64 (x4_1 + 1))) = true := decide_eq_true c22
                    by_cases c23 : (wrap64 (x4_1 + 1)) ≤ (a0.size : Int)
                    · rw [if_pos c23] at H
                      have c23b0 := eq_true c23
                      have c23b1 : decide ((wrap64 (x4_1 + 1)) ≤ (a0.size : Int)) = true := decide_eq_true c23
                      by_cases c24 : (x3_1 ++ (⟨#[92]⟩ : ByteArray)).size + (a0.extract (x4_1 : Int).toNat ((wrap64 (x4_1 + 1)) : Int).toNat).size ≤ 9223372036854775807
                      · rw [if_pos c24] at H
                        have c24b0 := eq_true c24
                        have c24b1 : decide ((x3_1 ++ (⟨#[92]⟩ : ByteArray)).size + (a0.extract (x4_1 : Int).toNat ((wrap64 (x4_1 + 1)) : Int).toNat).size ≤ 9223372036854775807) = true := decide_eq_true c24
                        try have c24b2 : (9223372036854775807 < (x3_1 ++ (⟨#[92]⟩ : ByteArray)).size + (a0.extract (x4_1 : Int).toNat ((wrap64 (x4_1 + 1)) : Int).toNat).size) = False := eq_false (Nat.not_lt.2 c24)
                        have H' := Aside0.mk H
                        clear H
                        have p4 : 0 ≤ (x4_1 : Int) := of_decide_eq_true (by first | (with_reducible assumption) | assumption)
                        have q4 : x4_1 < (a0.size : Int) := of_decide_eq_true (by first | (with_reducible assumption) | assumption)
                        have hx4 := bt_at a0 x4_1
                        replace p4 := eq_true p4
                        replace q4 := eq_true q4
                        have p11 : 0 ≤ (x4_1 : Int) := of_decide_eq_true (by first | (with_reducible assumption) | assumption)
                        have q11 : x4_1 < (a0.size : Int) := of_decide_eq_true (by first | (with_reducible assumption) | assumption)
                        have hx11 := bt_at a0 x4_1
                        replace p11 := eq_true p11
                        replace q11 := eq_true q11
                        have p18 : 0 ≤ (x4_1 : Int) := of_decide_eq_true (by first | (with_reducible assumption) | assumption)
                        have q18 : x4_1 < (a0.size : Int) := of_decide_eq_true (by first | (with_reducible assumption) | assumption)
                        have hx18 := bt_at a0 x4_1
                        replace p18 := eq_true p18
                        replace q18 := eq_true q18
                        go_wp2
                        go_roundg k1
                        case measure => have := HK1.out; omega
                        case rel => exact ⟨((x3_1 ++ (⟨#[92]⟩ : ByteArray)) ++ (a0.extract (x4_1 : Int).toNat ((wrap64 (x4_1 + 1)) : Int).toNat)), (wrap64 (x4_1 + 1)), (by first | rfl | (simp; done) | (simp [*]; done)), (by first | rfl | (simp; done) | (simp [*]; done)), H', ⟨by have := HK1.out; omega⟩, by repeat (first | exact Drawn0.refl _ | apply Drawn0.step)⟩
                      · rw [if_neg c24] at H
                        exact absurd H (by simp)
                    · rw [if_neg c23] at H
                      exact absurd H (by simp)
                  · rw [if_neg c22] at H
                    exact absurd H (by simp)
                · rw [if_neg c20] at H
                  exact absurd H (by simp)
              · rw [if_neg c19] at H
                have c19b0 : ((bt a0 x4_1) == 92) = false := beq_eq_false_iff_ne.mpr c19
                have c19b1 : ((bt a0 x4_1) != 92) = true := bne_iff_ne.mpr c19
                have c25b0 := eq_true (of_decide_eq_true (by first | (with_reducible assumption) | assumption) : 0 ≤ x4_1)
                by_cases c26 : x4_1 ≤ (wrap64 (x4_1 + 1))
                · rw [if_pos c26] at H
                  have c26b0 := eq_true c26
                  have c26b1 : decide (x4_1 ≤ (wrap64 (x4_1 + 1))) = true := decide_eq_true c26
                  by_cases c27 : (wrap64 (x4_1 + 1)) ≤ (a0.size : Int)
                  · rw [if_pos c27] at H
                    have c27b0 := eq_true c27
                    have c27b1 : decide ((wrap64 (x4_1 + 1)) ≤ (a0.size : Int)) = true := decide_eq_true c27
                    by_cases c28 : x3_1.size + (a0.extract (x4_1 : Int).toNat ((wrap64 (x4_1 + 1)) : Int).toNat).size ≤ 9223372036854775807
                    · rw [if_pos c28] at H
                      have c28b0 := eq_true c28
                      have c28b1 : decide (x3_1.size + (a0.extract (x4_1 : Int).toNat ((wrap64 (x4_1 + 1)) : Int).toNat).size ≤ 9223372036854775807) = true := decide_eq_true c28
                      try have c28b2 : (9223372036854775807 < x3_1.size + (a0.extract (x4_1 : Int).toNat ((wrap64 (x4_1 + 1)) : Int).toNat).size) = False := eq_false (Nat.not_lt.2 c28)
                      have H' := Aside0.mk H
                      clear H
                      have p4 : 0 ≤ (x4_1 : Int) := of_decide_eq_true (by first | (with_reducible assumption) | assumption)
                      have q4 : x4_1 < (a0.size : Int) := of_decide_eq_true (by first | (with_reducible assumption) | assumption)
                      have hx4 := bt_at a0 x4_1
                      replace p4 := eq_true p4
                      replace q4 := eq_true q4
                      have p11 : 0 ≤ (x4_1 : Int) := of_decide_eq_true (by first | (with_reducible assumption) | assumption)
                      have q11 : x4_1 < (a0.size : Int) := of_decide_eq_true (by first | (with_reducible assumption) | assumption)
                      have hx11 := bt_at a0 x4_1
                      replace p11 := eq_true p11
                      replace q11 := eq_true q11
                      have p18 : 0 ≤ (x4_1 : Int) := of_decide_eq_true (by first | (with_reducible assumption) | assumption)
                      have q18 : x4_1 < (a0.size : Int) := of_decide_eq_true (by first | (with_reducible assumption) | assumption)
                      have hx18 := bt_at a0 x4_1
                      replace p18 := eq_true p18
                      replace q18 := eq_true q18
                      go_wp2
                      go_roundg k1
                      case measure => have := HK1.out; omega
                      case rel => exact ⟨(x3_1 ++ (a0.extract (x4_1 : Int).toNat ((wrap64 (x4_1 + 1)) : Int).toNat)), (wrap64 (x4_1 + 1)), (by first | rfl | (simp; done) | (simp [*]; done)), (by first | rfl | (simp; done) | (simp [*]; done)), H', ⟨by have := HK1.out; omega⟩, by repeat (first | exact Drawn0.refl _ | apply Drawn0.step)⟩
                    · rw [if_neg c28] at H
                      exact absurd H (by simp)
                  · rw [if_neg c27] at H
                    exact absurd H (by simp)
                · rw [if_neg c26] at H
                  exact absurd H (by simp)
        · rw [if_neg c3] at H
          exact absurd H (by simp)
      · rw [if_neg c2] at H
        have c2b0 : decide (x4_1 < (a0.size : Int)) = false := decide_eq_false c2
        clear c2
        obtain rfl := Option.some.inj H
        go_wp2
        go_ret
        exact ⟨by first | rfl | (simp; done) | (simp [*]; done), by repeat (first | exact Drawn0.refl _ | apply Drawn0.step)⟩

/-! ### montagelaw37_GlobQuotes: function 4 -/
def montagelaw37_GlobQuotes.j0 : Nat → ByteArray → ByteArray → Bool → Option (Bool)
  | 0, _, _, _ => none
  | k + 1, x0, x1, x15 => if x15 = true then (some true) else ((glob_Quote.f x0).bind fun t187 => ((montageref37_Quote.f k x0).bind fun t188 => (if t187.toList = t188.toList then ((montageref37_Right.f k t187).bind fun t189 => (if t189 = true then ((glob_Fits.f t187 x0).bind fun t190 => (if t190 = true then ((glob_Fits.f t187 x1).bind fun t191 => (some (t191 == (x0.toList == x1.toList)))) else (some false))) else (some true))) else (some false))))
def montagelaw37_GlobQuotes.f (k : Nat) (a0 : ByteArray) (a1 : ByteArray) : Option (Bool) := (montagelaw37_awake.f k).bind fun t186 => (if t186 = true then (if (a0.size : Int) > 60 then (montagelaw37_GlobQuotes.j0 k a0 a1 true) else (montagelaw37_GlobQuotes.j0 k a0 a1 (decide ((a1.size : Int) > 60)))) else (some false))
theorem montagelaw37_GlobQuotes.mono_l : ∀ k, (∀ y0 y1 y2, LeO (montagelaw37_GlobQuotes.j0 k y0 y1 y2) (montagelaw37_GlobQuotes.j0 (k + 1) y0 y1 y2))
  | 0 => fun _ _ _ r h => by simp [montagelaw37_GlobQuotes.j0] at h
  | k + 1 => by
    have ih0 := montagelaw37_GlobQuotes.mono_l k
    · intro y0 y1 y2
      unfold montagelaw37_GlobQuotes.j0
      repeat' first
      | (with_reducible exact ih0 _ _ _)
      | (with_reducible exact montagelaw37_awake.mono _)
      | (with_reducible exact montageref37_Quote.mono _ _)
      | (with_reducible exact montageref37_Right.mono _ _)
      | (with_reducible exact LeO.refl _)
      | (with_reducible exact LeO.none _)
      | (with_reducible refine LeO.ite ?_ ?_)
      | (with_reducible refine LeO.bind ?_ (fun _ => ?_))
      | exact ih0 _ _ _
      | exact montagelaw37_awake.mono _
      | exact montageref37_Quote.mono _ _
      | exact montageref37_Right.mono _ _
      | exact LeO.none _
      | refine LeO.ite ?_ ?_
      | refine LeO.bind ?_ (fun _ => ?_)
theorem montagelaw37_GlobQuotes.mono : ∀ a0 a1 k, LeO (montagelaw37_GlobQuotes.f k a0 a1) (montagelaw37_GlobQuotes.f (k + 1) a0 a1) := by
  intro a0 a1 k
  have ih0 := montagelaw37_GlobQuotes.mono_l k
  unfold montagelaw37_GlobQuotes.f
  repeat' first
      | (with_reducible exact ih0 _ _ _)
      | (with_reducible exact montagelaw37_awake.mono _)
      | (with_reducible exact montageref37_Quote.mono _ _)
      | (with_reducible exact montageref37_Right.mono _ _)
      | (with_reducible exact LeO.refl _)
      | (with_reducible exact LeO.none _)
      | (with_reducible refine LeO.ite ?_ ?_)
      | (with_reducible refine LeO.bind ?_ (fun _ => ?_))
      | exact ih0 _ _ _
      | exact montagelaw37_awake.mono _
      | exact montageref37_Quote.mono _ _
      | exact montageref37_Right.mono _ _
      | exact LeO.none _
      | refine LeO.ite ?_ ?_
      | refine LeO.bind ?_ (fun _ => ?_)
set_option maxHeartbeats 8000000 in
set_option maxRecDepth 100000 in
theorem montagelaw37_GlobQuotes.calls (k : Nat) (a0 : ByteArray) (a1 : ByteArray) (r : Bool) (w : World) (h : montagelaw37_GlobQuotes.f k a0 a1 = some r) :
    Calls Tryd.prog 4 #[.string a0, .string a1] w fun e w' => e = .returned (.bool r) ∧ Below w.heap.size w w' := by
  have HB := Aside0.mk (Below.refl w.heap.size w)
  have H : ((montagelaw37_awake.f k).bind fun t186 => (if t186 = true then (if (a0.size : Int) > 60 then (montagelaw37_GlobQuotes.j0 k a0 a1 true) else (montagelaw37_GlobQuotes.j0 k a0 a1 (decide ((a1.size : Int) > 60)))) else (some false))) = some r := h
  clear h
  replace H := Option.bind_eq_some_iff.mp H
  obtain ⟨t186, A30, H⟩ := H
  replace H : (if t186 = true then (if (a0.size : Int) > 60 then (montagelaw37_GlobQuotes.j0 k a0 a1 true) else (montagelaw37_GlobQuotes.j0 k a0 a1 (decide ((a1.size : Int) > 60)))) else (some false)) = some r := H
  have A3 := Aside0.mk A30
  clear A30
  by_cases c4 : t186 = true
  · subst c4
    have H1 : (if (a0.size : Int) > 60 then (montagelaw37_GlobQuotes.j0 k a0 a1 true) else (montagelaw37_GlobQuotes.j0 k a0 a1 (decide ((a1.size : Int) > 60)))) = some r := by rw [if_pos rfl] at H; exact H
    clear H
    have H := H1
    clear H1
    have HC5 := Aside0.mk H
    clear H
    go_enter Tryd.func4, Tryd.ntmps4
    go_upto_region 3 with (first | ((with_reducible refine gate_callee (f := 6) rfl ?_); refine goesL_ (some 6) rfl rfl Tryd.func6 (by kernel_rfl) rfl #[] rfl (by (try simp only [List.map_toArray, List.map_cons, List.map_nil]); first | done | rfl | (simp only [List.length_drop, List.length_take]; rfl)) ?_; (with_reducible refine (montagelaw37_awake.calls k  true _ A3.out).mono ?_); rintro e w6 ⟨rfl, hb⟩; refine ⟨_, rfl, ?_⟩; have n0_ := Aside0.mk (below_step (by repeat (first | (with_reducible first | exact HB.out | apply below_alloc | apply pw_below_drewN | apply below_drew1) | exact HB.out)) hb); clear HB; have HB := n0_; clear n0_; (try clear hb); (try clear hb2); (try clear hk); (try clear hi)))
    (try simp only [Act.put, List.setIfInBounds_toArray, List.set_cons_zero, List.set_cons_succ])
    go_cut [15] (fun v15 wc => ∃ (kq : Nat) (x15_4 : Bool), v15 = .bool x15_4 ∧ Aside0 (montagelaw37_GlobQuotes.j0 kq a0 a1 x15_4 = some r) ∧ Aside0 (kq ≤ k) ∧ Aside0 (Below w.heap.size w wc))
    case first =>
      have H := HC5.out
      clear HC5
      by_cases c7 : (a0.size : Int) > 60
      · rw [if_pos c7] at H
        have c7b0 : decide (60 < (a0.size : Int)) = true := decide_eq_true c7
        have c7b1 : decide (60 < a0.size) = true := decide_eq_true (by omega)
        clear c7
        (first | rw [c7b0] | (simp only [i64_w, i32_w]; rw [c7b0]) | skip)
        have H' := Aside0.mk H
        clear H
        go_wp2
        go_meet
        case rel => exact ⟨_, (true), (by first | rfl | (simp; done) | (simp [*]; done)), H', ⟨by first | omega | exact Nat.le_refl _⟩, ⟨by repeat (first | (with_reducible first | exact HB.out | apply below_alloc | apply pw_below_drewN | apply below_drew1) | exact HB.out)⟩⟩
      · rw [if_neg c7] at H
        have c7b0 : decide (60 < (a0.size : Int)) = false := decide_eq_false c7
        have c7b1 : decide (60 < a0.size) = false := decide_eq_false (by omega)
        clear c7
        (first | rw [c7b0] | (simp only [i64_w, i32_w]; rw [c7b0]) | skip)
        have H' := Aside0.mk H
        clear H
        go_wp2
        go_meet
        case rel => exact ⟨_, (decide ((a1.size : Int) > 60)), (by first | rfl | (simp; done) | (simp [*]; done)), H', ⟨by first | omega | exact Nat.le_refl _⟩, ⟨by repeat (first | (with_reducible first | exact HB.out | apply below_alloc | apply pw_below_drewN | apply below_drew1) | exact HB.out)⟩⟩
    case rest =>
      clear HC5
      try clear p2
      try clear c4
      try clear c6
      try clear c7
      try clear c7b0
      try clear c7b1
      obtain ⟨kq, x15_4, rfl, HA, HJ4, HB⟩ := hcut
      cases kq with
      | zero => exact absurd HA.out (by simp [montagelaw37_GlobQuotes.j0])
      | succ kj4 =>
        have H := HA.out
        clear HA
        simp only [montagelaw37_GlobQuotes.j0] at H
        by_cases c8 : x15_4 = true
        · subst c8
          have H1 : (some true) = some r := by rw [if_pos rfl] at H; exact H
          clear H
          have H := H1
          clear H1
          obtain rfl := Option.some.inj H
          go_wp2
          go_ret
          exact ⟨by first | rfl | (simp [errW_none, errW_some] <;> rfl) | (simp [*, errW_none, errW_some] <;> rfl), by repeat (first | (with_reducible first | exact HB.out | apply below_alloc | apply pw_below_drewN | apply below_drew1) | exact HB.out)⟩
        · replace c8 := Bool.eq_false_iff.mpr c8
          subst c8
          have H1 : ((glob_Quote.f a0).bind fun t187 => ((montageref37_Quote.f kj4 a0).bind fun t188 => (if t187.toList = t188.toList then ((montageref37_Right.f kj4 t187).bind fun t189 => (if t189 = true then ((glob_Fits.f t187 a0).bind fun t190 => (if t190 = true then ((glob_Fits.f t187 a1).bind fun t191 => (some (t191 == (a0.toList == a1.toList)))) else (some false))) else (some true))) else (some false)))) = some r := by rw [if_neg (show ¬ (false = true) by decide)] at H; exact H
          clear H
          have H := H1
          clear H1
          replace H := Option.bind_eq_some_iff.mp H
          obtain ⟨t187, A90, H⟩ := H
          replace H : ((montageref37_Quote.f kj4 a0).bind fun t188 => (if t187.toList = t188.toList then ((montageref37_Right.f kj4 t187).bind fun t189 => (if t189 = true then ((glob_Fits.f t187 a0).bind fun t190 => (if t190 = true then ((glob_Fits.f t187 a1).bind fun t191 => (some (t191 == (a0.toList == a1.toList)))) else (some false))) else (some true))) else (some false))) = some r := H
          have A9 := Aside0.mk A90
          clear A90
          replace H := Option.bind_eq_some_iff.mp H
          obtain ⟨t188, A100, H⟩ := H
          replace H : (if t187.toList = t188.toList then ((montageref37_Right.f kj4 t187).bind fun t189 => (if t189 = true then ((glob_Fits.f t187 a0).bind fun t190 => (if t190 = true then ((glob_Fits.f t187 a1).bind fun t191 => (some (t191 == (a0.toList == a1.toList)))) else (some false))) else (some true))) else (some false)) = some r := H
          have A10 := Aside0.mk A100
          clear A100
          by_cases c11 : t187.toList = t188.toList
          · rw [if_pos c11] at H
            have c11b0 : (t187.toList == t188.toList) = true := beq_iff_eq.mpr c11
            have c11b1 : (t187.toList != t188.toList) = false := bne_eq_false_iff_eq.mpr c11
            clear c11
            replace H := Option.bind_eq_some_iff.mp H
            obtain ⟨t189, A120, H⟩ := H
            replace H : (if t189 = true then ((glob_Fits.f t187 a0).bind fun t190 => (if t190 = true then ((glob_Fits.f t187 a1).bind fun t191 => (some (t191 == (a0.toList == a1.toList)))) else (some false))) else (some true)) = some r := H
            have A12 := Aside0.mk A120
            clear A120
            by_cases c13 : t189 = true
            · subst c13
              have H1 : ((glob_Fits.f t187 a0).bind fun t190 => (if t190 = true then ((glob_Fits.f t187 a1).bind fun t191 => (some (t191 == (a0.toList == a1.toList)))) else (some false))) = some r := by rw [if_pos rfl] at H; exact H
              clear H
              have H := H1
              clear H1
              replace H := Option.bind_eq_some_iff.mp H
              obtain ⟨t190, A140, H⟩ := H
              replace H : (if t190 = true then ((glob_Fits.f t187 a1).bind fun t191 => (some (t191 == (a0.toList == a1.toList)))) else (some false)) = some r := H
              have A14 := Aside0.mk A140
              clear A140
              by_cases c15 : t190 = true
              · subst c15
                have H1 : ((glob_Fits.f t187 a1).bind fun t191 => (some (t191 == (a0.toList == a1.toList)))) = some r := by rw [if_pos rfl] at H; exact H
                clear H
                have H := H1
                clear H1
                replace H := Option.bind_eq_some_iff.mp H
                obtain ⟨t191, A160, H⟩ := H
                replace H : (some (t191 == (a0.toList == a1.toList))) = some r := H
                have A16 := Aside0.mk A160
                clear A160
                obtain rfl := Option.some.inj H
                go_wp2_with (first | ((with_reducible refine gate_callee (f := 13) rfl ?_); refine goesL_ (some 17) rfl rfl Tryd.func13 (by kernel_rfl) rfl #[.string a0] rfl (by (try simp only [List.map_toArray, List.map_cons, List.map_nil]); first | done | rfl | (simp only [List.length_drop, List.length_take]; rfl)) ?_; (with_reducible refine (glob_Quote.calls a0 t187 _ A9.out).mono ?_); rintro e w17 ⟨rfl, hb⟩; refine ⟨_, rfl, ?_⟩; have n0_ := Aside0.mk (below_step (by repeat (first | (with_reducible first | exact HB.out | apply below_alloc | apply pw_below_drewN | apply below_drew1) | exact HB.out)) hb); clear HB; have HB := n0_; clear n0_; (try clear hb); (try clear hb2); (try clear hk); (try clear hi)) | ((with_reducible refine gate_callee (f := 14) rfl ?_); refine goesL_ (some 20) rfl rfl Tryd.func14 (by kernel_rfl) rfl #[.string a0] rfl (by (try simp only [List.map_toArray, List.map_cons, List.map_nil]); first | done | rfl | (simp only [List.length_drop, List.length_take]; rfl)) ?_; (with_reducible refine (montageref37_Quote.calls kj4 a0 t188 _ A10.out).mono ?_); rintro e w' ⟨rfl, ⟨nd, rfl⟩⟩; refine ⟨_, rfl, ?_⟩) | ((with_reducible refine gate_callee (f := 8) rfl ?_); refine goesL_ (some 23) rfl rfl Tryd.func8 (by kernel_rfl) rfl #[.string t187] rfl (by (try simp only [List.map_toArray, List.map_cons, List.map_nil]); first | done | rfl | (simp only [List.length_drop, List.length_take]; rfl)) ?_; (with_reducible refine (montageref37_Right.calls kj4 t187 true _ A12.out).mono ?_); rintro e w18 ⟨rfl, hb⟩; refine ⟨_, rfl, ?_⟩; have n0_ := Aside0.mk (below_step (by repeat (first | (with_reducible first | exact HB.out | apply below_alloc | apply pw_below_drewN | apply below_drew1) | exact HB.out)) hb); clear HB; have HB := n0_; clear n0_; (try clear hb); (try clear hb2); (try clear hk); (try clear hi)) | ((with_reducible refine gate_callee (f := 9) rfl ?_); refine goesL_ (some 27) rfl rfl Tryd.func9 (by kernel_rfl) rfl #[.string t187, .string a0] rfl (by (try simp only [List.map_toArray, List.map_cons, List.map_nil]); first | done | rfl | (simp only [List.length_drop, List.length_take]; rfl)) ?_; (with_reducible refine (glob_Fits.calls t187 a0 true _ A14.out).mono ?_); rintro e w19 ⟨rfl, hb⟩; refine ⟨_, rfl, ?_⟩; have n0_ := Aside0.mk (below_step (by repeat (first | (with_reducible first | exact HB.out | apply below_alloc | apply pw_below_drewN | apply below_drew1) | exact HB.out)) hb); clear HB; have HB := n0_; clear n0_; (try clear hb); (try clear hb2); (try clear hk); (try clear hi)) | (go_at_call 9; (with_reducible refine (glob_Fits.calls t187 a1 t191 _ A16.out).mono ?_); rintro e w20 ⟨rfl, hb⟩; have n0_ := Aside0.mk (below_step (by repeat (first | (with_reducible first | exact HB.out | apply below_alloc | apply pw_below_drewN | apply below_drew1) | exact HB.out)) hb); clear HB; have HB := n0_; clear n0_; (try clear hb); (try clear hb2); (try clear hk); (try clear hi)))
                go_ret
                exact ⟨by first | rfl | (simp [errW_none, errW_some] <;> rfl) | (simp [*, errW_none, errW_some] <;> rfl), by repeat (first | (with_reducible first | exact HB.out | apply below_alloc | apply pw_below_drewN | apply below_drew1) | exact HB.out)⟩
              · replace c15 := Bool.eq_false_iff.mpr c15
                subst c15
                have H1 : (some false) = some r := by rw [if_neg (show ¬ (false = true) by decide)] at H; exact H
                clear H
                have H := H1
                clear H1
                obtain rfl := Option.some.inj H
                go_wp2_with (first | ((with_reducible refine gate_callee (f := 13) rfl ?_); refine goesL_ (some 17) rfl rfl Tryd.func13 (by kernel_rfl) rfl #[.string a0] rfl (by (try simp only [List.map_toArray, List.map_cons, List.map_nil]); first | done | rfl | (simp only [List.length_drop, List.length_take]; rfl)) ?_; (with_reducible refine (glob_Quote.calls a0 t187 _ A9.out).mono ?_); rintro e w21 ⟨rfl, hb⟩; refine ⟨_, rfl, ?_⟩; have n0_ := Aside0.mk (below_step (by repeat (first | (with_reducible first | exact HB.out | apply below_alloc | apply pw_below_drewN | apply below_drew1) | exact HB.out)) hb); clear HB; have HB := n0_; clear n0_; (try clear hb); (try clear hb2); (try clear hk); (try clear hi)) | ((with_reducible refine gate_callee (f := 14) rfl ?_); refine goesL_ (some 20) rfl rfl Tryd.func14 (by kernel_rfl) rfl #[.string a0] rfl (by (try simp only [List.map_toArray, List.map_cons, List.map_nil]); first | done | rfl | (simp only [List.length_drop, List.length_take]; rfl)) ?_; (with_reducible refine (montageref37_Quote.calls kj4 a0 t188 _ A10.out).mono ?_); rintro e w' ⟨rfl, ⟨nd, rfl⟩⟩; refine ⟨_, rfl, ?_⟩) | ((with_reducible refine gate_callee (f := 8) rfl ?_); refine goesL_ (some 23) rfl rfl Tryd.func8 (by kernel_rfl) rfl #[.string t187] rfl (by (try simp only [List.map_toArray, List.map_cons, List.map_nil]); first | done | rfl | (simp only [List.length_drop, List.length_take]; rfl)) ?_; (with_reducible refine (montageref37_Right.calls kj4 t187 true _ A12.out).mono ?_); rintro e w22 ⟨rfl, hb⟩; refine ⟨_, rfl, ?_⟩; have n0_ := Aside0.mk (below_step (by repeat (first | (with_reducible first | exact HB.out | apply below_alloc | apply pw_below_drewN | apply below_drew1) | exact HB.out)) hb); clear HB; have HB := n0_; clear n0_; (try clear hb); (try clear hb2); (try clear hk); (try clear hi)) | ((with_reducible refine gate_callee (f := 9) rfl ?_); refine goesL_ (some 27) rfl rfl Tryd.func9 (by kernel_rfl) rfl #[.string t187, .string a0] rfl (by (try simp only [List.map_toArray, List.map_cons, List.map_nil]); first | done | rfl | (simp only [List.length_drop, List.length_take]; rfl)) ?_; (with_reducible refine (glob_Fits.calls t187 a0 false _ A14.out).mono ?_); rintro e w23 ⟨rfl, hb⟩; refine ⟨_, rfl, ?_⟩; have n0_ := Aside0.mk (below_step (by repeat (first | (with_reducible first | exact HB.out | apply below_alloc | apply pw_below_drewN | apply below_drew1) | exact HB.out)) hb); clear HB; have HB := n0_; clear n0_; (try clear hb); (try clear hb2); (try clear hk); (try clear hi)))
                go_ret
                exact ⟨by first | rfl | (simp [errW_none, errW_some] <;> rfl) | (simp [*, errW_none, errW_some] <;> rfl), by repeat (first | (with_reducible first | exact HB.out | apply below_alloc | apply pw_below_drewN | apply below_drew1) | exact HB.out)⟩
            · replace c13 := Bool.eq_false_iff.mpr c13
              subst c13
              have H1 : (some true) = some r := by rw [if_neg (show ¬ (false = true) by decide)] at H; exact H
              clear H
              have H := H1
              clear H1
              obtain rfl := Option.some.inj H
              go_wp2_with (first | ((with_reducible refine gate_callee (f := 13) rfl ?_); refine goesL_ (some 17) rfl rfl Tryd.func13 (by kernel_rfl) rfl #[.string a0] rfl (by (try simp only [List.map_toArray, List.map_cons, List.map_nil]); first | done | rfl | (simp only [List.length_drop, List.length_take]; rfl)) ?_; (with_reducible refine (glob_Quote.calls a0 t187 _ A9.out).mono ?_); rintro e w24 ⟨rfl, hb⟩; refine ⟨_, rfl, ?_⟩; have n0_ := Aside0.mk (below_step (by repeat (first | (with_reducible first | exact HB.out | apply below_alloc | apply pw_below_drewN | apply below_drew1) | exact HB.out)) hb); clear HB; have HB := n0_; clear n0_; (try clear hb); (try clear hb2); (try clear hk); (try clear hi)) | ((with_reducible refine gate_callee (f := 14) rfl ?_); refine goesL_ (some 20) rfl rfl Tryd.func14 (by kernel_rfl) rfl #[.string a0] rfl (by (try simp only [List.map_toArray, List.map_cons, List.map_nil]); first | done | rfl | (simp only [List.length_drop, List.length_take]; rfl)) ?_; (with_reducible refine (montageref37_Quote.calls kj4 a0 t188 _ A10.out).mono ?_); rintro e w' ⟨rfl, ⟨nd, rfl⟩⟩; refine ⟨_, rfl, ?_⟩) | ((with_reducible refine gate_callee (f := 8) rfl ?_); refine goesL_ (some 23) rfl rfl Tryd.func8 (by kernel_rfl) rfl #[.string t187] rfl (by (try simp only [List.map_toArray, List.map_cons, List.map_nil]); first | done | rfl | (simp only [List.length_drop, List.length_take]; rfl)) ?_; (with_reducible refine (montageref37_Right.calls kj4 t187 false _ A12.out).mono ?_); rintro e w25 ⟨rfl, hb⟩; refine ⟨_, rfl, ?_⟩; have n0_ := Aside0.mk (below_step (by repeat (first | (with_reducible first | exact HB.out | apply below_alloc | apply pw_below_drewN | apply below_drew1) | exact HB.out)) hb); clear HB; have HB := n0_; clear n0_; (try clear hb); (try clear hb2); (try clear hk); (try clear hi)))
              go_ret
              exact ⟨by first | rfl | (simp [errW_none, errW_some] <;> rfl) | (simp [*, errW_none, errW_some] <;> rfl), by repeat (first | (with_reducible first | exact HB.out | apply below_alloc | apply pw_below_drewN | apply below_drew1) | exact HB.out)⟩
          · rw [if_neg c11] at H
            have c11b0 : (t187.toList == t188.toList) = false := beq_eq_false_iff_ne.mpr c11
            have c11b1 : (t187.toList != t188.toList) = true := bne_iff_ne.mpr c11
            obtain rfl := Option.some.inj H
            go_wp2_with (first | ((with_reducible refine gate_callee (f := 13) rfl ?_); refine goesL_ (some 17) rfl rfl Tryd.func13 (by kernel_rfl) rfl #[.string a0] rfl (by (try simp only [List.map_toArray, List.map_cons, List.map_nil]); first | done | rfl | (simp only [List.length_drop, List.length_take]; rfl)) ?_; (with_reducible refine (glob_Quote.calls a0 t187 _ A9.out).mono ?_); rintro e w26 ⟨rfl, hb⟩; refine ⟨_, rfl, ?_⟩; have n0_ := Aside0.mk (below_step (by repeat (first | (with_reducible first | exact HB.out | apply below_alloc | apply pw_below_drewN | apply below_drew1) | exact HB.out)) hb); clear HB; have HB := n0_; clear n0_; (try clear hb); (try clear hb2); (try clear hk); (try clear hi)) | ((with_reducible refine gate_callee (f := 14) rfl ?_); refine goesL_ (some 20) rfl rfl Tryd.func14 (by kernel_rfl) rfl #[.string a0] rfl (by (try simp only [List.map_toArray, List.map_cons, List.map_nil]); first | done | rfl | (simp only [List.length_drop, List.length_take]; rfl)) ?_; (with_reducible refine (montageref37_Quote.calls kj4 a0 t188 _ A10.out).mono ?_); rintro e w' ⟨rfl, ⟨nd, rfl⟩⟩; refine ⟨_, rfl, ?_⟩))
            go_ret
            exact ⟨by first | rfl | (simp [errW_none, errW_some] <;> rfl) | (simp [*, errW_none, errW_some] <;> rfl), by repeat (first | (with_reducible first | exact HB.out | apply below_alloc | apply pw_below_drewN | apply below_drew1) | exact HB.out)⟩
  · replace c4 := Bool.eq_false_iff.mpr c4
    subst c4
    have H1 : (some false) = some r := by rw [if_neg (show ¬ (false = true) by decide)] at H; exact H
    clear H
    have H := H1
    clear H1
    obtain rfl := Option.some.inj H
    go_enter Tryd.func4, Tryd.ntmps4
    go_wp2_with (first | ((with_reducible refine gate_callee (f := 6) rfl ?_); refine goesL_ (some 6) rfl rfl Tryd.func6 (by kernel_rfl) rfl #[] rfl (by (try simp only [List.map_toArray, List.map_cons, List.map_nil]); first | done | rfl | (simp only [List.length_drop, List.length_take]; rfl)) ?_; (with_reducible refine (montagelaw37_awake.calls k  false _ A3.out).mono ?_); rintro e w27 ⟨rfl, hb⟩; refine ⟨_, rfl, ?_⟩; have n0_ := Aside0.mk (below_step (by repeat (first | (with_reducible first | exact HB.out | apply below_alloc | apply pw_below_drewN | apply below_drew1) | exact HB.out)) hb); clear HB; have HB := n0_; clear n0_; (try clear hb); (try clear hb2); (try clear hk); (try clear hi)))
    go_ret
    exact ⟨by first | rfl | (simp [errW_none, errW_some] <;> rfl) | (simp [*, errW_none, errW_some] <;> rfl), by repeat (first | (with_reducible first | exact HB.out | apply below_alloc | apply pw_below_drewN | apply below_drew1) | exact HB.out)⟩

/-- THE ONE PURE STATEMENT of montagelaw37_GlobQuotes: yours. -/
def montagelaw37_GlobQuotes.Pure : Prop := ∀ (a0 : ByteArray) (a1 : ByteArray), a0.size ≤ 140737488351232 → a1.size ≤ 140737488351232 → ∃ k, montagelaw37_GlobQuotes.f k a0 a1 = some true
theorem montagelaw37_GlobQuotes.walk (P : montagelaw37_GlobQuotes.Pure) (a0 : ByteArray) (a1 : ByteArray) (w : World) (w0 : a0.size ≤ 140737488351232) (w1 : a1.size ≤ 140737488351232) :
    Calls Tryd.prog 4 #[.string a0, .string a1] w fun e w' => e = .returned (.bool true) ∧ Below w.heap.size w w' := by
  obtain ⟨k, h⟩ := P a0 a1 w0 w1
  refine (montagelaw37_GlobQuotes.calls k a0 a1 true w h).mono ?_
  rintro e w' ⟨rfl, hd⟩
  exact ⟨rfl, hd⟩

end Go.Proofs.YtlbkfnofnlioaaaDoor.PGlob
