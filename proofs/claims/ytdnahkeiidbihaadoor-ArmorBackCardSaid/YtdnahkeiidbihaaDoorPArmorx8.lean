-- Written by wip/xprint of this repo (not trusted: Lean checks it).
import Derived.Test.YtdnahkeiidbihaaDoorPArmorx0
import Derived.Test.YtdnahkeiidbihaaDoorPArmorx2
import Derived.Test.YtdnahkeiidbihaaDoorPArmorx4
import Derived.Test.YtdnahkeiidbihaaDoorPArmorx5
import Derived.Test.YtdnahkeiidbihaaDoorPArmorx7
namespace Go.Proofs.YtdnahkeiidbihaaDoor.PArmor
open Go.RowKit Go.Proofs.YtdnahkeiidbihaaDoorW.PrintWords Go.Proofs.YtdnahkeiidbihaaDoorW.PrintLast Go.Proofs.YtdnahkeiidbihaaDoorW.PrintMore
attribute [local go_sem] max2_int min2_int max_two min_two max_three min_three max_four min_four   -- for this text's walks alone
set_option linter.unusedVariables false
set_option linter.unusedSimpArgs false

/-! ### montagelaw42_ArmorBack: function 4 -/
mutual
def montagelaw42_ArmorBack.j0 : Nat → ByteArray → ByteArray → Int → Bool → Option (Bool)
  | 0, _, _, _, _ => none
  | k + 1, x0, x1, x2, x23 => if x23 = true then (some true) else ((armor_Encode.f x0 x1 x2).bind fun bt210 => ((montageref42_Encode.f k x0 x1 x2).bind fun bt212 => (if bt210.1.toList = bt212.1.toList then (montagelaw42_ArmorBack.j1 k x0 x1 bt210.1 bt212.2 (bt210.2 != bt212.2)) else (montagelaw42_ArmorBack.j1 k x0 x1 bt210.1 bt212.2 true))))
def montagelaw42_ArmorBack.j1 : Nat → ByteArray → ByteArray → ByteArray → Int → Bool → Option (Bool)
  | 0, _, _, _, _, _ => none
  | k + 1, x0, x1, x7, x10, x45 => if x45 = true then (some false) else (if x10 = 0 then ((armor_Decode.f k x7).bind fun bt214 => (if bt214.1.toList = x0.toList then (if bt214.2.1.toList = x1.toList then (some (bt214.2.2 == 0)) else (some false)) else (some false))) else (some true))
end
def montagelaw42_ArmorBack.f (k : Nat) (a0 : ByteArray) (a1 : ByteArray) (a2 : Int) : Option (Bool) := (montagelaw42_awake.f k).bind fun t209 => (if t209 = true then (if (a0.size : Int) > 300 then (montagelaw42_ArmorBack.j0 k a0 a1 a2 true) else (montagelaw42_ArmorBack.j0 k a0 a1 a2 (decide ((a1.size : Int) > 40)))) else (some false))
theorem montagelaw42_ArmorBack.mono_l : ∀ k, (∀ y0 y1 y2 y3, LeO (montagelaw42_ArmorBack.j0 k y0 y1 y2 y3) (montagelaw42_ArmorBack.j0 (k + 1) y0 y1 y2 y3)) ∧ (∀ y0 y1 y2 y3 y4, LeO (montagelaw42_ArmorBack.j1 k y0 y1 y2 y3 y4) (montagelaw42_ArmorBack.j1 (k + 1) y0 y1 y2 y3 y4))
  | 0 => ⟨fun _ _ _ _ r h => by simp [montagelaw42_ArmorBack.j0] at h, fun _ _ _ _ _ r h => by simp [montagelaw42_ArmorBack.j1] at h⟩
  | k + 1 => by
    obtain ⟨ih0, ih1⟩ := montagelaw42_ArmorBack.mono_l k
    refine ⟨?_, ?_⟩
    · intro y0 y1 y2 y3
      unfold montagelaw42_ArmorBack.j0
      repeat' first
      | (with_reducible exact ih0 _ _ _ _)
      | (with_reducible exact ih1 _ _ _ _ _)
      | (with_reducible exact armor_Decode.mono _ _)
      | (with_reducible exact montagelaw42_awake.mono _)
      | (with_reducible exact montageref42_Encode.mono _ _ _ _)
      | (with_reducible exact LeO.refl _)
      | (with_reducible exact LeO.none _)
      | (with_reducible refine LeO.ite ?_ ?_)
      | (with_reducible refine LeO.bind ?_ (fun _ => ?_))
      | exact ih0 _ _ _ _
      | exact ih1 _ _ _ _ _
      | exact armor_Decode.mono _ _
      | exact montagelaw42_awake.mono _
      | exact montageref42_Encode.mono _ _ _ _
      | exact LeO.none _
      | refine LeO.ite ?_ ?_
      | refine LeO.bind ?_ (fun _ => ?_)
    · intro y0 y1 y2 y3 y4
      unfold montagelaw42_ArmorBack.j1
      repeat' first
      | (with_reducible exact ih0 _ _ _ _)
      | (with_reducible exact ih1 _ _ _ _ _)
      | (with_reducible exact armor_Decode.mono _ _)
      | (with_reducible exact montagelaw42_awake.mono _)
      | (with_reducible exact montageref42_Encode.mono _ _ _ _)
      | (with_reducible exact LeO.refl _)
      | (with_reducible exact LeO.none _)
      | (with_reducible refine LeO.ite ?_ ?_)
      | (with_reducible refine LeO.bind ?_ (fun _ => ?_))
      | exact ih0 _ _ _ _
      | exact ih1 _ _ _ _ _
      | exact armor_Decode.mono _ _
      | exact montagelaw42_awake.mono _
      | exact montageref42_Encode.mono _ _ _ _
      | exact LeO.none _
      | refine LeO.ite ?_ ?_
      | refine LeO.bind ?_ (fun _ => ?_)
theorem montagelaw42_ArmorBack.mono : ∀ a0 a1 a2 k, LeO (montagelaw42_ArmorBack.f k a0 a1 a2) (montagelaw42_ArmorBack.f (k + 1) a0 a1 a2) := by
  intro a0 a1 a2 k
  obtain ⟨ih0, ih1⟩ := montagelaw42_ArmorBack.mono_l k
  unfold montagelaw42_ArmorBack.f
  repeat' first
      | (with_reducible exact ih0 _ _ _ _)
      | (with_reducible exact ih1 _ _ _ _ _)
      | (with_reducible exact armor_Decode.mono _ _)
      | (with_reducible exact montagelaw42_awake.mono _)
      | (with_reducible exact montageref42_Encode.mono _ _ _ _)
      | (with_reducible exact LeO.refl _)
      | (with_reducible exact LeO.none _)
      | (with_reducible refine LeO.ite ?_ ?_)
      | (with_reducible refine LeO.bind ?_ (fun _ => ?_))
      | exact ih0 _ _ _ _
      | exact ih1 _ _ _ _ _
      | exact armor_Decode.mono _ _
      | exact montagelaw42_awake.mono _
      | exact montageref42_Encode.mono _ _ _ _
      | exact LeO.none _
      | refine LeO.ite ?_ ?_
      | refine LeO.bind ?_ (fun _ => ?_)
set_option maxHeartbeats 8000000 in
set_option maxRecDepth 100000 in
theorem montagelaw42_ArmorBack.calls (k : Nat) (a0 : ByteArray) (a1 : ByteArray) (a2 : Int) (r : Bool) (w : World) (h : montagelaw42_ArmorBack.f k a0 a1 a2 = some r) (hr_ : r = true) :
    Calls Tryd.prog 4 #[.string a0, .string a1, .int .i64 a2] w fun e w' => e = .returned (.bool r) ∧ Below w.heap.size w w' := by
  have HB := Aside0.mk (Below.refl w.heap.size w)
  have H : ((montagelaw42_awake.f k).bind fun t209 => (if t209 = true then (if (a0.size : Int) > 300 then (montagelaw42_ArmorBack.j0 k a0 a1 a2 true) else (montagelaw42_ArmorBack.j0 k a0 a1 a2 (decide ((a1.size : Int) > 40)))) else (some false))) = some r := h
  clear h
  replace H := Option.bind_eq_some_iff.mp H
  obtain ⟨t209, A40, H⟩ := H
  replace H : (if t209 = true then (if (a0.size : Int) > 300 then (montagelaw42_ArmorBack.j0 k a0 a1 a2 true) else (montagelaw42_ArmorBack.j0 k a0 a1 a2 (decide ((a1.size : Int) > 40)))) else (some false)) = some r := H
  have A4 := Aside0.mk A40
  clear A40
  by_cases c5 : t209 = true
  · subst c5
    have H1 : (if (a0.size : Int) > 300 then (montagelaw42_ArmorBack.j0 k a0 a1 a2 true) else (montagelaw42_ArmorBack.j0 k a0 a1 a2 (decide ((a1.size : Int) > 40)))) = some r := by rw [if_pos rfl] at H; exact H
    clear H
    have H := H1
    clear H1
    have HC6 := Aside0.mk H
    clear H
    go_enter Tryd.func4, Tryd.ntmps4
    go_upto_region 3 with (first | ((with_reducible refine gate_callee (f := 5) rfl ?_); refine goesL_ (some 14) rfl rfl Tryd.func5 (by kernel_rfl) rfl #[] rfl (by (try simp only [List.map_toArray, List.map_cons, List.map_nil]); first | done | rfl | (simp only [List.length_drop, List.length_take]; rfl)) ?_; (with_reducible refine (montagelaw42_awake.calls k  true _ A4.out).mono ?_); rintro e w7 ⟨rfl, hb⟩; refine ⟨_, rfl, ?_⟩; have n0_ := Aside0.mk (below_step (by repeat (first | (with_reducible first | exact HB.out | apply below_alloc | apply pw_below_drewN | apply below_drew1) | exact HB.out)) hb); clear HB; have HB := n0_; clear n0_; (try clear hb); (try clear hb2); (try clear hk); (try clear hi)))
    (try simp only [Act.put, List.setIfInBounds_toArray, List.set_cons_zero, List.set_cons_succ])
    go_cut [23] (fun v23 wc => ∃ (kq : Nat) (x23_5 : Bool), v23 = .bool x23_5 ∧ Aside0 (montagelaw42_ArmorBack.j0 kq a0 a1 a2 x23_5 = some r) ∧ Aside0 (kq ≤ k) ∧ Aside0 (Below w.heap.size w wc))
    case first =>
      have H := HC6.out
      clear HC6
      by_cases c8 : (a0.size : Int) > 300
      · rw [if_pos c8] at H
        have c8b0 : decide (300 < (a0.size : Int)) = true := decide_eq_true c8
        have c8b1 : decide (300 < a0.size) = true := decide_eq_true (by omega)
        clear c8
        (first | rw [c8b0] | (simp only [i64_w, i32_w]; rw [c8b0]) | skip)
        have H' := Aside0.mk H
        clear H
        go_wp2
        go_meet
        case rel => exact ⟨_, (true), (by first | rfl | (simp; done) | (simp [*]; done)), H', ⟨by first | omega | exact Nat.le_refl _⟩, ⟨by repeat (first | (with_reducible first | exact HB.out | apply below_alloc | apply pw_below_drewN | apply below_drew1) | exact HB.out)⟩⟩
      · rw [if_neg c8] at H
        have c8b0 : decide (300 < (a0.size : Int)) = false := decide_eq_false c8
        have c8b1 : decide (300 < a0.size) = false := decide_eq_false (by omega)
        clear c8
        (first | rw [c8b0] | (simp only [i64_w, i32_w]; rw [c8b0]) | skip)
        have H' := Aside0.mk H
        clear H
        go_wp2
        go_meet
        case rel => exact ⟨_, (decide ((a1.size : Int) > 40)), (by first | rfl | (simp; done) | (simp [*]; done)), H', ⟨by first | omega | exact Nat.le_refl _⟩, ⟨by repeat (first | (with_reducible first | exact HB.out | apply below_alloc | apply pw_below_drewN | apply below_drew1) | exact HB.out)⟩⟩
    case rest =>
      clear HC6
      try clear p2
      try clear c4
      try clear c5
      try clear c8
      try clear c8b0
      try clear c8b1
      obtain ⟨kq, x23_5, rfl, HA, HJ5, HB⟩ := hcut
      cases kq with
      | zero => exact absurd HA.out (by simp [montagelaw42_ArmorBack.j0])
      | succ kj5 =>
        have H := HA.out
        clear HA
        simp only [montagelaw42_ArmorBack.j0] at H
        by_cases c9 : x23_5 = true
        · subst c9
          have H1 : (some true) = some r := by rw [if_pos rfl] at H; exact H
          clear H
          have H := H1
          clear H1
          obtain rfl := Option.some.inj H
          clear hr_
          go_wp2
          go_ret
          exact ⟨by first | rfl | (simp [errW_none, errW_some] <;> rfl) | (simp [*, errW_none, errW_some] <;> rfl), by repeat (first | (with_reducible first | exact HB.out | apply below_alloc | apply pw_below_drewN | apply below_drew1) | exact HB.out)⟩
        · replace c9 := Bool.eq_false_iff.mpr c9
          subst c9
          have H1 : ((armor_Encode.f a0 a1 a2).bind fun bt210 => ((montageref42_Encode.f kj5 a0 a1 a2).bind fun bt212 => (if bt210.1.toList = bt212.1.toList then (montagelaw42_ArmorBack.j1 kj5 a0 a1 bt210.1 bt212.2 (bt210.2 != bt212.2)) else (montagelaw42_ArmorBack.j1 kj5 a0 a1 bt210.1 bt212.2 true)))) = some r := by rw [if_neg (show ¬ (false = true) by decide)] at H; exact H
          clear H
          have H := H1
          clear H1
          replace H := Option.bind_eq_some_iff.mp H
          obtain ⟨⟨t210, t211⟩, A100, H⟩ := H
          replace H : ((montageref42_Encode.f kj5 a0 a1 a2).bind fun bt212 => (if t210.toList = bt212.1.toList then (montagelaw42_ArmorBack.j1 kj5 a0 a1 t210 bt212.2 (t211 != bt212.2)) else (montagelaw42_ArmorBack.j1 kj5 a0 a1 t210 bt212.2 true))) = some r := H
          have A10 := Aside0.mk A100
          clear A100
          replace H := Option.bind_eq_some_iff.mp H
          obtain ⟨⟨t212, t213⟩, A110, H⟩ := H
          replace H : (if t210.toList = t212.toList then (montagelaw42_ArmorBack.j1 kj5 a0 a1 t210 t213 (t211 != t213)) else (montagelaw42_ArmorBack.j1 kj5 a0 a1 t210 t213 true)) = some r := H
          have A11 := Aside0.mk A110
          clear A110
          have HC12 := Aside0.mk H
          clear H
          go_upto_region 7 with (first | ((with_reducible refine gate_callee (f := 10) rfl ?_); refine goesL_ (some 28) rfl rfl Tryd.func10 (by kernel_rfl) rfl #[.string a0, .string a1, .int .i64 a2] rfl (by (try simp only [List.map_toArray, List.map_cons, List.map_nil]); first | done | rfl | (simp only [List.length_drop, List.length_take]; rfl)) ?_; (with_reducible refine (armor_Encode.calls a0 a1 a2 t210 t211 _ A10.out).mono ?_); rintro e w13 ⟨rfl, hb⟩; refine ⟨_, rfl, ?_⟩; have n0_ := Aside0.mk (below_step (by repeat (first | (with_reducible first | exact HB.out | apply below_alloc | apply pw_below_drewN | apply below_drew1) | exact HB.out)) hb); clear HB; have HB := n0_; clear n0_; (try clear hb); (try clear hb2); (try clear hk); (try clear hi)) | ((with_reducible refine gate_callee (f := 11) rfl ?_); refine goesL_ (some 35) rfl rfl Tryd.func11 (by kernel_rfl) rfl #[.string a0, .string a1, .int .i64 a2] rfl (by (try simp only [List.map_toArray, List.map_cons, List.map_nil]); first | done | rfl | (simp only [List.length_drop, List.length_take]; rfl)) ?_; (with_reducible refine (montageref42_Encode.calls kj5 a0 a1 a2 t212 t213 _ A11.out).mono ?_); rintro e w14 ⟨rfl, hb⟩; refine ⟨_, rfl, ?_⟩; have n0_ := Aside0.mk (below_step (by repeat (first | (with_reducible first | exact HB.out | apply below_alloc | apply pw_below_drewN | apply below_drew1) | exact HB.out)) hb); clear HB; have HB := n0_; clear n0_; (try clear hb); (try clear hb2); (try clear hk); (try clear hi)))
          (try simp only [Act.put, List.setIfInBounds_toArray, List.set_cons_zero, List.set_cons_succ])
          go_cut [45] (fun v45 wc => ∃ (kq : Nat) (x45_11 : Bool), v45 = .bool x45_11 ∧ Aside0 (montagelaw42_ArmorBack.j1 kq a0 a1 t210 t213 x45_11 = some r) ∧ Aside0 (kq ≤ kj5) ∧ Aside0 (Below w.heap.size w wc))
          case first =>
            have H := HC12.out
            clear HC12
            by_cases c15 : t210.toList = t212.toList
            · rw [if_pos c15] at H
              have c15b0 : (t210.toList == t212.toList) = true := beq_iff_eq.mpr c15
              have c15b1 : (t210.toList != t212.toList) = false := bne_eq_false_iff_eq.mpr c15
              clear c15
              (first | rw [c15b0] | (simp only [i64_w, i32_w]; rw [c15b0]) | skip)
              have H' := Aside0.mk H
              clear H
              go_wp2
              go_meet
              case rel => exact ⟨_, ((t211 != t213)), (by first | rfl | (simp; done) | (simp [*]; done)), H', ⟨by have := HJ5.out; first | omega | exact Nat.le_refl _⟩, ⟨by repeat (first | (with_reducible first | exact HB.out | apply below_alloc | apply pw_below_drewN | apply below_drew1) | exact HB.out)⟩⟩
            · rw [if_neg c15] at H
              have c15b0 : (t210.toList == t212.toList) = false := beq_eq_false_iff_ne.mpr c15
              have c15b1 : (t210.toList != t212.toList) = true := bne_iff_ne.mpr c15
              (first | rw [c15b0] | (simp only [i64_w, i32_w]; rw [c15b0]) | skip)
              have H' := Aside0.mk H
              clear H
              go_wp2
              go_meet
              case rel => exact ⟨_, (true), (by first | rfl | (simp; done) | (simp [*]; done)), H', ⟨by have := HJ5.out; first | omega | exact Nat.le_refl _⟩, ⟨by repeat (first | (with_reducible first | exact HB.out | apply below_alloc | apply pw_below_drewN | apply below_drew1) | exact HB.out)⟩⟩
          case rest =>
            clear HC12
            try clear c1
            try clear p2
            try clear c4
            try clear c5
            try clear c8
            try clear c8b0
            try clear c8b1
            try clear c9
            try clear c10
            try clear c11
            try clear c15
            try clear c15b0
            try clear c15b1
            try clear p2
            obtain ⟨kq, x45_11, rfl, HA, HJ11, HB⟩ := hcut
            cases kq with
            | zero => exact absurd HA.out (by simp [montagelaw42_ArmorBack.j1])
            | succ kj11 =>
              have H := HA.out
              clear HA
              simp only [montagelaw42_ArmorBack.j1] at H
              by_cases c16 : x45_11 = true
              · subst c16
                have H1 : (some false) = some r := by rw [if_pos rfl] at H; exact H
                clear H
                have H := H1
                clear H1
                obtain rfl := Option.some.inj H
                cases hr_
              · replace c16 := Bool.eq_false_iff.mpr c16
                subst c16
                have H1 : (if t213 = 0 then ((armor_Decode.f kj11 t210).bind fun bt214 => (if bt214.1.toList = a0.toList then (if bt214.2.1.toList = a1.toList then (some (bt214.2.2 == 0)) else (some false)) else (some false))) else (some true)) = some r := by rw [if_neg (show ¬ (false = true) by decide)] at H; exact H
                clear H
                have H := H1
                clear H1
                by_cases c17 : t213 = 0
                · rw [if_pos c17] at H
                  have c17b0 : (t213 == 0) = true := beq_iff_eq.mpr c17
                  have c17b1 : (t213 != 0) = false := bne_eq_false_iff_eq.mpr c17
                  clear c17
                  replace H := Option.bind_eq_some_iff.mp H
                  obtain ⟨⟨t214, t215, t216⟩, A180, H⟩ := H
                  replace H : (if t214.toList = a0.toList then (if t215.toList = a1.toList then (some (t216 == 0)) else (some false)) else (some false)) = some r := H
                  have A18 := Aside0.mk A180
                  clear A180
                  by_cases c19 : t214.toList = a0.toList
                  · rw [if_pos c19] at H
                    have c19b0 : (t214.toList == a0.toList) = true := beq_iff_eq.mpr c19
                    have c19b1 : (t214.toList != a0.toList) = false := bne_eq_false_iff_eq.mpr c19
                    clear c19
                    by_cases c20 : t215.toList = a1.toList
                    · rw [if_pos c20] at H
                      have c20b0 : (t215.toList == a1.toList) = true := beq_iff_eq.mpr c20
                      have c20b1 : (t215.toList != a1.toList) = false := bne_eq_false_iff_eq.mpr c20
                      clear c20
                      obtain rfl := Option.some.inj H
                      go_wp2_with (first | ((with_reducible refine gate_callee (f := 12) rfl ?_); refine goesL_ (some 50) rfl rfl Tryd.func12 (by kernel_rfl) rfl #[.string t210] rfl (by (try simp only [List.map_toArray, List.map_cons, List.map_nil]); first | done | rfl | (simp only [List.length_drop, List.length_take]; rfl)) ?_; (with_reducible refine (armor_Decode.calls kj11 t210 t214 t215 t216 _ A18.out).mono ?_); rintro e w21 ⟨rfl, hb⟩; refine ⟨_, rfl, ?_⟩; have n0_ := Aside0.mk (below_step (by repeat (first | (with_reducible first | exact HB.out | apply below_alloc | apply pw_below_drewN | apply below_drew1) | exact HB.out)) hb); clear HB; have HB := n0_; clear n0_; (try clear hb); (try clear hb2); (try clear hk); (try clear hi)))
                      go_ret
                      exact ⟨by first | rfl | (simp [errW_none, errW_some] <;> rfl) | (simp [*, errW_none, errW_some] <;> rfl), by repeat (first | (with_reducible first | exact HB.out | apply below_alloc | apply pw_below_drewN | apply below_drew1) | exact HB.out)⟩
                    · rw [if_neg c20] at H
                      have c20b0 : (t215.toList == a1.toList) = false := beq_eq_false_iff_ne.mpr c20
                      have c20b1 : (t215.toList != a1.toList) = true := bne_iff_ne.mpr c20
                      obtain rfl := Option.some.inj H
                      cases hr_
                  · rw [if_neg c19] at H
                    have c19b0 : (t214.toList == a0.toList) = false := beq_eq_false_iff_ne.mpr c19
                    have c19b1 : (t214.toList != a0.toList) = true := bne_iff_ne.mpr c19
                    obtain rfl := Option.some.inj H
                    cases hr_
                · rw [if_neg c17] at H
                  have c17b0 : (t213 == 0) = false := beq_eq_false_iff_ne.mpr c17
                  have c17b1 : (t213 != 0) = true := bne_iff_ne.mpr c17
                  obtain rfl := Option.some.inj H
                  clear hr_
                  go_wp2
                  go_ret
                  exact ⟨by first | rfl | (simp [errW_none, errW_some] <;> rfl) | (simp [*, errW_none, errW_some] <;> rfl), by repeat (first | (with_reducible first | exact HB.out | apply below_alloc | apply pw_below_drewN | apply below_drew1) | exact HB.out)⟩
  · replace c5 := Bool.eq_false_iff.mpr c5
    subst c5
    have H1 : (some false) = some r := by rw [if_neg (show ¬ (false = true) by decide)] at H; exact H
    clear H
    have H := H1
    clear H1
    obtain rfl := Option.some.inj H
    cases hr_

/-- THE ONE PURE STATEMENT of montagelaw42_ArmorBack: yours. -/
def montagelaw42_ArmorBack.Pure : Prop := ∀ (a0 : ByteArray) (a1 : ByteArray) (a2 : Int), a0.size ≤ 140737488351232 → a1.size ≤ 140737488351232 → (Lit.int .i64 a2).wf = true → ∃ k, montagelaw42_ArmorBack.f k a0 a1 a2 = some true
theorem montagelaw42_ArmorBack.walk (P : montagelaw42_ArmorBack.Pure) (a0 : ByteArray) (a1 : ByteArray) (a2 : Int) (w : World) (w0 : a0.size ≤ 140737488351232) (w1 : a1.size ≤ 140737488351232) (w2 : (Lit.int .i64 a2).wf = true) :
    Calls Tryd.prog 4 #[.string a0, .string a1, .int .i64 a2] w fun e w' => e = .returned (.bool true) ∧ Below w.heap.size w w' := by
  obtain ⟨k, h⟩ := P a0 a1 a2 w0 w1 w2
  refine (montagelaw42_ArmorBack.calls k a0 a1 a2 true w (hr_ := rfl) h).mono ?_
  rintro e w' ⟨rfl, hd⟩
  exact ⟨rfl, hd⟩

end Go.Proofs.YtdnahkeiidbihaaDoor.PArmor
