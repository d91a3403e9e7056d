-- Written by wip/xprint of this repo (not trusted: Lean checks it).
import Derived.Test.YtdnahkeiidbihaaDoorPArmorx0
import Derived.Test.YtdnahkeiidbihaaDoorPArmorx1
import Derived.Test.YtdnahkeiidbihaaDoorPArmorx2
import Derived.Test.YtdnahkeiidbihaaDoorPArmorx4
namespace Go.Proofs.YtdnahkeiidbihaaDoor.PArmor
open Go.RowKit Go.Proofs.YtdnahkeiidbihaaDoorW.PrintWords Go.Proofs.YtdnahkeiidbihaaDoorW.PrintLast Go.Proofs.YtdnahkeiidbihaaDoorW.PrintMore
attribute [local go_sem] max2_int min2_int max_two min_two max_three min_three max_four min_four   -- for this text's walks alone
set_option linter.unusedVariables false
set_option linter.unusedSimpArgs false

/-! ### montagelaw42_awake: function 5 -/
def montagelaw42_awake.f (k : Nat)  : Option (Bool) := (armor_Encode.f (⟨#[97, 98, 99]⟩ : ByteArray) (⟨#[90, 73, 80]⟩ : ByteArray) 64).bind fun bt160 => ((armor_Decode.f k bt160.1).bind fun bt162 => ((armor_Bytes.f (⟨#[89, 87, 74, 106]⟩ : ByteArray)).bind fun bt165 => ((armor_Bytes.f (⟨#[89, 87, 74]⟩ : ByteArray)).bind fun bt167 => (if bt160.2 = 0 then (if bt162.1.toList = ([97, 98, 99] : List UInt8) then (if bt162.2.1.toList = ([90, 73, 80] : List UInt8) then (if bt162.2.2 = 0 then ((armor_Signs.f (⟨#[97, 98, 99]⟩ : ByteArray)).bind fun t169 => (if t169.toList = ([89, 87, 74, 106] : List UInt8) then (if bt165.1.toList = ([97, 98, 99] : List UInt8) then (if bt165.2 = 0 then (some (bt167.2 == 2)) else (some false)) else (some false)) else (some false))) else (some false)) else (some false)) else (some false)) else (some false)))))
theorem montagelaw42_awake.mono : ∀ k, LeO (montagelaw42_awake.f k ) (montagelaw42_awake.f (k + 1) ) := by
  intro  k
  unfold montagelaw42_awake.f
  repeat' first
      | (with_reducible exact armor_Decode.mono _ _)
      | (with_reducible exact LeO.refl _)
      | (with_reducible exact LeO.none _)
      | (with_reducible refine LeO.ite ?_ ?_)
      | (with_reducible refine LeO.bind ?_ (fun _ => ?_))
      | exact armor_Decode.mono _ _
      | exact LeO.none _
      | refine LeO.ite ?_ ?_
      | refine LeO.bind ?_ (fun _ => ?_)
set_option maxHeartbeats 8000000 in
set_option maxRecDepth 100000 in
theorem montagelaw42_awake.calls (k : Nat)  (r : Bool) (w : World) (h : montagelaw42_awake.f k  = some r) :
    Calls Tryd.prog 5 #[] w fun e w' => e = .returned (.bool r) ∧ Below w.heap.size w w' := by
  have HB := Aside0.mk (Below.refl w.heap.size w)
  have H : ((armor_Encode.f (⟨#[97, 98, 99]⟩ : ByteArray) (⟨#[90, 73, 80]⟩ : ByteArray) 64).bind fun bt160 => ((armor_Decode.f k bt160.1).bind fun bt162 => ((armor_Bytes.f (⟨#[89, 87, 74, 106]⟩ : ByteArray)).bind fun bt165 => ((armor_Bytes.f (⟨#[89, 87, 74]⟩ : ByteArray)).bind fun bt167 => (if bt160.2 = 0 then (if bt162.1.toList = ([97, 98, 99] : List UInt8) then (if bt162.2.1.toList = ([90, 73, 80] : List UInt8) then (if bt162.2.2 = 0 then ((armor_Signs.f (⟨#[97, 98, 99]⟩ : ByteArray)).bind fun t169 => (if t169.toList = ([89, 87, 74, 106] : List UInt8) then (if bt165.1.toList = ([97, 98, 99] : List UInt8) then (if bt165.2 = 0 then (some (bt167.2 == 2)) else (some false)) else (some false)) else (some false))) else (some false)) else (some false)) else (some false)) else (some false)))))) = some r := h
  clear h
  replace H := Option.bind_eq_some_iff.mp H
  obtain ⟨⟨t160, t161⟩, A10, H⟩ := H
  replace H : ((armor_Decode.f k t160).bind fun bt162 => ((armor_Bytes.f (⟨#[89, 87, 74, 106]⟩ : ByteArray)).bind fun bt165 => ((armor_Bytes.f (⟨#[89, 87, 74]⟩ : ByteArray)).bind fun bt167 => (if t161 = 0 then (if bt162.1.toList = ([97, 98, 99] : List UInt8) then (if bt162.2.1.toList = ([90, 73, 80] : List UInt8) then (if bt162.2.2 = 0 then ((armor_Signs.f (⟨#[97, 98, 99]⟩ : ByteArray)).bind fun t169 => (if t169.toList = ([89, 87, 74, 106] : List UInt8) then (if bt165.1.toList = ([97, 98, 99] : List UInt8) then (if bt165.2 = 0 then (some (bt167.2 == 2)) else (some false)) else (some false)) else (some false))) else (some false)) else (some false)) else (some false)) else (some false))))) = some r := H
  have A1 := Aside0.mk A10
  clear A10
  replace H := Option.bind_eq_some_iff.mp H
  obtain ⟨⟨t162, t163, t164⟩, A20, H⟩ := H
  replace H : ((armor_Bytes.f (⟨#[89, 87, 74, 106]⟩ : ByteArray)).bind fun bt165 => ((armor_Bytes.f (⟨#[89, 87, 74]⟩ : ByteArray)).bind fun bt167 => (if t161 = 0 then (if t162.toList = ([97, 98, 99] : List UInt8) then (if t163.toList = ([90, 73, 80] : List UInt8) then (if t164 = 0 then ((armor_Signs.f (⟨#[97, 98, 99]⟩ : ByteArray)).bind fun t169 => (if t169.toList = ([89, 87, 74, 106] : List UInt8) then (if bt165.1.toList = ([97, 98, 99] : List UInt8) then (if bt165.2 = 0 then (some (bt167.2 == 2)) else (some false)) else (some false)) else (some false))) else (some false)) else (some false)) else (some false)) else (some false)))) = some r := H
  have A2 := Aside0.mk A20
  clear A20
  replace H := Option.bind_eq_some_iff.mp H
  obtain ⟨⟨t165, t166⟩, A30, H⟩ := H
  replace H : ((armor_Bytes.f (⟨#[89, 87, 74]⟩ : ByteArray)).bind fun bt167 => (if t161 = 0 then (if t162.toList = ([97, 98, 99] : List UInt8) then (if t163.toList = ([90, 73, 80] : List UInt8) then (if t164 = 0 then ((armor_Signs.f (⟨#[97, 98, 99]⟩ : ByteArray)).bind fun t169 => (if t169.toList = ([89, 87, 74, 106] : List UInt8) then (if t165.toList = ([97, 98, 99] : List UInt8) then (if t166 = 0 then (some (bt167.2 == 2)) else (some false)) else (some false)) else (some false))) else (some false)) else (some false)) else (some false)) else (some false))) = some r := H
  have A3 := Aside0.mk A30
  clear A30
  replace H := Option.bind_eq_some_iff.mp H
  obtain ⟨⟨t167, t168⟩, A40, H⟩ := H
  replace H : (if t161 = 0 then (if t162.toList = ([97, 98, 99] : List UInt8) then (if t163.toList = ([90, 73, 80] : List UInt8) then (if t164 = 0 then ((armor_Signs.f (⟨#[97, 98, 99]⟩ : ByteArray)).bind fun t169 => (if t169.toList = ([89, 87, 74, 106] : List UInt8) then (if t165.toList = ([97, 98, 99] : List UInt8) then (if t166 = 0 then (some (t168 == 2)) else (some false)) else (some false)) else (some false))) else (some false)) else (some false)) else (some false)) else (some false)) = some r := H
  have A4 := Aside0.mk A40
  clear A40
  by_cases c5 : t161 = 0
  · rw [if_pos c5] at H
    have c5b0 : (t161 == 0) = true := beq_iff_eq.mpr c5
    have c5b1 : (t161 != 0) = false := bne_eq_false_iff_eq.mpr c5
    clear c5
    by_cases c6 : t162.toList = ([97, 98, 99] : List UInt8)
    · rw [if_pos c6] at H
      have c6b0 : (t162.toList == ([97, 98, 99] : List UInt8)) = true := beq_iff_eq.mpr c6
      have c6b1 : (t162.toList != ([97, 98, 99] : List UInt8)) = false := bne_eq_false_iff_eq.mpr c6
      clear c6
      by_cases c7 : t163.toList = ([90, 73, 80] : List UInt8)
      · rw [if_pos c7] at H
        have c7b0 : (t163.toList == ([90, 73, 80] : List UInt8)) = true := beq_iff_eq.mpr c7
        have c7b1 : (t163.toList != ([90, 73, 80] : List UInt8)) = false := bne_eq_false_iff_eq.mpr c7
        clear c7
        by_cases c8 : t164 = 0
        · rw [if_pos c8] at H
          have c8b0 : (t164 == 0) = true := beq_iff_eq.mpr c8
          have c8b1 : (t164 != 0) = false := bne_eq_false_iff_eq.mpr c8
          clear c8
          replace H := Option.bind_eq_some_iff.mp H
          obtain ⟨t169, A90, H⟩ := H
          replace H : (if t169.toList = ([89, 87, 74, 106] : List UInt8) then (if t165.toList = ([97, 98, 99] : List UInt8) then (if t166 = 0 then (some (t168 == 2)) else (some false)) else (some false)) else (some false)) = some r := H
          have A9 := Aside0.mk A90
          clear A90
          by_cases c10 : t169.toList = ([89, 87, 74, 106] : List UInt8)
          · rw [if_pos c10] at H
            have c10b0 : (t169.toList == ([89, 87, 74, 106] : List UInt8)) = true := beq_iff_eq.mpr c10
            have c10b1 : (t169.toList != ([89, 87, 74, 106] : List UInt8)) = false := bne_eq_false_iff_eq.mpr c10
            clear c10
            by_cases c11 : t165.toList = ([97, 98, 99] : List UInt8)
            · rw [if_pos c11] at H
              have c11b0 : (t165.toList == ([97, 98, 99] : List UInt8)) = true := beq_iff_eq.mpr c11
              have c11b1 : (t165.toList != ([97, 98, 99] : List UInt8)) = false := bne_eq_false_iff_eq.mpr c11
              clear c11
              by_cases c12 : t166 = 0
              · rw [if_pos c12] at H
                have c12b0 : (t166 == 0) = true := beq_iff_eq.mpr c12
                have c12b1 : (t166 != 0) = false := bne_eq_false_iff_eq.mpr c12
                clear c12
                obtain rfl := Option.some.inj H
                simp only [Option.some.injEq, Prod.mk.injEq] at H
                obtain ⟨rfl⟩ := H
                go_enter Tryd.func5, Tryd.ntmps5
                go_wp2_with (first | ((with_reducible refine gate_callee (f := 10) rfl ?_); refine goesL_ (some 11) rfl rfl Tryd.func10 (by kernel_rfl) rfl #[.string (⟨#[97, 98, 99]⟩ : ByteArray), .string (⟨#[90, 73, 80]⟩ : ByteArray), .int .i64 64] rfl (by (try simp only [List.map_toArray, List.map_cons, List.map_nil]); first | done | rfl | (simp only [List.length_drop, List.length_take]; rfl)) ?_; (with_reducible refine (armor_Encode.calls (⟨#[97, 98, 99]⟩ : ByteArray) (⟨#[90, 73, 80]⟩ : ByteArray) 64 t160 t161 _ A1.out).mono ?_); rintro e w13 ⟨rfl, hb⟩; refine ⟨_, rfl, ?_⟩; have n0_ := Aside0.mk (below_step (by repeat (first | (with_reducible first | exact HB.out | apply below_alloc | apply pw_below_drewN | apply below_drew1) | exact HB.out)) hb); clear HB; have HB := n0_; clear n0_; (try clear hb); (try clear hb2); (try clear hk); (try clear hi)) | ((with_reducible refine gate_callee (f := 12) rfl ?_); refine goesL_ (some 16) rfl rfl Tryd.func12 (by kernel_rfl) rfl #[.string t160] rfl (by (try simp only [List.map_toArray, List.map_cons, List.map_nil]); first | done | rfl | (simp only [List.length_drop, List.length_take]; rfl)) ?_; (with_reducible refine (armor_Decode.calls k t160 t162 t163 t164 _ A2.out).mono ?_); rintro e w14 ⟨rfl, hb⟩; refine ⟨_, rfl, ?_⟩; have n0_ := Aside0.mk (below_step (by repeat (first | (with_reducible first | exact HB.out | apply below_alloc | apply pw_below_drewN | apply below_drew1) | exact HB.out)) hb); clear HB; have HB := n0_; clear n0_; (try clear hb); (try clear hb2); (try clear hk); (try clear hi)) | ((with_reducible refine gate_callee (f := 7) rfl ?_); refine goesL_ (some 21) rfl rfl Tryd.func7 (by kernel_rfl) rfl #[.string (⟨#[89, 87, 74, 106]⟩ : ByteArray)] rfl (by (try simp only [List.map_toArray, List.map_cons, List.map_nil]); first | done | rfl | (simp only [List.length_drop, List.length_take]; rfl)) ?_; (with_reducible refine (armor_Bytes.calls (⟨#[89, 87, 74, 106]⟩ : ByteArray) t165 t166 _ A3.out).mono ?_); rintro e w15 ⟨rfl, hb⟩; refine ⟨_, rfl, ?_⟩; have n0_ := Aside0.mk (below_step (by repeat (first | (with_reducible first | exact HB.out | apply below_alloc | apply pw_below_drewN | apply below_drew1) | exact HB.out)) hb); clear HB; have HB := n0_; clear n0_; (try clear hb); (try clear hb2); (try clear hk); (try clear hi)) | ((with_reducible refine gate_callee (f := 7) rfl ?_); refine goesL_ (some 25) rfl rfl Tryd.func7 (by kernel_rfl) rfl #[.string (⟨#[89, 87, 74]⟩ : ByteArray)] rfl (by (try simp only [List.map_toArray, List.map_cons, List.map_nil]); first | done | rfl | (simp only [List.length_drop, List.length_take]; rfl)) ?_; (with_reducible refine (armor_Bytes.calls (⟨#[89, 87, 74]⟩ : ByteArray) t167 t168 _ A4.out).mono ?_); rintro e w16 ⟨rfl, hb⟩; refine ⟨_, rfl, ?_⟩; have n0_ := Aside0.mk (below_step (by repeat (first | (with_reducible first | exact HB.out | apply below_alloc | apply pw_below_drewN | apply below_drew1) | exact HB.out)) hb); clear HB; have HB := n0_; clear n0_; (try clear hb); (try clear hb2); (try clear hk); (try clear hi)) | (go_at_call 6; (with_reducible refine (armor_Signs.calls (⟨#[97, 98, 99]⟩ : ByteArray) t169 _ A9.out).mono ?_); rintro e w17 ⟨rfl, hb⟩; have n0_ := Aside0.mk (below_step (by repeat (first | (with_reducible first | exact HB.out | apply below_alloc | apply pw_below_drewN | apply below_drew1) | exact HB.out)) hb); clear HB; have HB := n0_; clear n0_; (try clear hb); (try clear hb2); (try clear hk); (try clear hi)))
                go_ret
                exact ⟨by first | rfl | (simp [errW_none, errW_some] <;> rfl) | (simp [*, errW_none, errW_some] <;> rfl), by repeat (first | (with_reducible first | exact HB.out | apply below_alloc | apply pw_below_drewN | apply below_drew1) | exact HB.out)⟩
              · rw [if_neg c12] at H
                have c12b0 : (t166 == 0) = false := beq_eq_false_iff_ne.mpr c12
                have c12b1 : (t166 != 0) = true := bne_iff_ne.mpr c12
                obtain rfl := Option.some.inj H
                simp only [Option.some.injEq, Prod.mk.injEq] at H
                obtain ⟨rfl⟩ := H
                go_enter Tryd.func5, Tryd.ntmps5
                go_wp2_with (first | ((with_reducible refine gate_callee (f := 10) rfl ?_); refine goesL_ (some 11) rfl rfl Tryd.func10 (by kernel_rfl) rfl #[.string (⟨#[97, 98, 99]⟩ : ByteArray), .string (⟨#[90, 73, 80]⟩ : ByteArray), .int .i64 64] rfl (by (try simp only [List.map_toArray, List.map_cons, List.map_nil]); first | done | rfl | (simp only [List.length_drop, List.length_take]; rfl)) ?_; (with_reducible refine (armor_Encode.calls (⟨#[97, 98, 99]⟩ : ByteArray) (⟨#[90, 73, 80]⟩ : ByteArray) 64 t160 t161 _ A1.out).mono ?_); rintro e w18 ⟨rfl, hb⟩; refine ⟨_, rfl, ?_⟩; have n0_ := Aside0.mk (below_step (by repeat (first | (with_reducible first | exact HB.out | apply below_alloc | apply pw_below_drewN | apply below_drew1) | exact HB.out)) hb); clear HB; have HB := n0_; clear n0_; (try clear hb); (try clear hb2); (try clear hk); (try clear hi)) | ((with_reducible refine gate_callee (f := 12) rfl ?_); refine goesL_ (some 16) rfl rfl Tryd.func12 (by kernel_rfl) rfl #[.string t160] rfl (by (try simp only [List.map_toArray, List.map_cons, List.map_nil]); first | done | rfl | (simp only [List.length_drop, List.length_take]; rfl)) ?_; (with_reducible refine (armor_Decode.calls k t160 t162 t163 t164 _ A2.out).mono ?_); rintro e w19 ⟨rfl, hb⟩; refine ⟨_, rfl, ?_⟩; have n0_ := Aside0.mk (below_step (by repeat (first | (with_reducible first | exact HB.out | apply below_alloc | apply pw_below_drewN | apply below_drew1) | exact HB.out)) hb); clear HB; have HB := n0_; clear n0_; (try clear hb); (try clear hb2); (try clear hk); (try clear hi)) | ((with_reducible refine gate_callee (f := 7) rfl ?_); refine goesL_ (some 21) rfl rfl Tryd.func7 (by kernel_rfl) rfl #[.string (⟨#[89, 87, 74, 106]⟩ : ByteArray)] rfl (by (try simp only [List.map_toArray, List.map_cons, List.map_nil]); first | done | rfl | (simp only [List.length_drop, List.length_take]; rfl)) ?_; (with_reducible refine (armor_Bytes.calls (⟨#[89, 87, 74, 106]⟩ : ByteArray) t165 t166 _ A3.out).mono ?_); rintro e w20 ⟨rfl, hb⟩; refine ⟨_, rfl, ?_⟩; have n0_ := Aside0.mk (below_step (by repeat (first | (with_reducible first | exact HB.out | apply below_alloc | apply pw_below_drewN | apply below_drew1) | exact HB.out)) hb); clear HB; have HB := n0_; clear n0_; (try clear hb); (try clear hb2); (try clear hk); (try clear hi)) | ((with_reducible refine gate_callee (f := 7) rfl ?_); refine goesL_ (some 25) rfl rfl Tryd.func7 (by kernel_rfl) rfl #[.string (⟨#[89, 87, 74]⟩ : ByteArray)] rfl (by (try simp only [List.map_toArray, List.map_cons, List.map_nil]); first | done | rfl | (simp only [List.length_drop, List.length_take]; rfl)) ?_; (with_reducible refine (armor_Bytes.calls (⟨#[89, 87, 74]⟩ : ByteArray) t167 t168 _ A4.out).mono ?_); rintro e w21 ⟨rfl, hb⟩; refine ⟨_, rfl, ?_⟩; have n0_ := Aside0.mk (below_step (by repeat (first | (with_reducible first | exact HB.out | apply below_alloc | apply pw_below_drewN | apply below_drew1) | exact HB.out)) hb); clear HB; have HB := n0_; clear n0_; (try clear hb); (try clear hb2); (try clear hk); (try clear hi)) | (go_at_call 6; (with_reducible refine (armor_Signs.calls (⟨#[97, 98, 99]⟩ : ByteArray) t169 _ A9.out).mono ?_); rintro e w22 ⟨rfl, hb⟩; have n0_ := Aside0.mk (below_step (by repeat (first | (with_reducible first | exact HB.out | apply below_alloc | apply pw_below_drewN | apply below_drew1) | exact HB.out)) hb); clear HB; have HB := n0_; clear n0_; (try clear hb); (try clear hb2); (try clear hk); (try clear hi)))
                go_ret
                exact ⟨by first | rfl | (simp [errW_none, errW_some] <;> rfl) | (simp [*, errW_none, errW_some] <;> rfl), by repeat (first | (with_reducible first | exact HB.out | apply below_alloc | apply pw_below_drewN | apply below_drew1) | exact HB.out)⟩
            · rw [if_neg c11] at H
              have c11b0 : (t165.toList == ([97, 98, 99] : List UInt8)) = false := beq_eq_false_iff_ne.mpr c11
              have c11b1 : (t165.toList != ([97, 98, 99] : List UInt8)) = true := bne_iff_ne.mpr c11
              obtain rfl := Option.some.inj H
              simp only [Option.some.injEq, Prod.mk.injEq] at H
              obtain ⟨rfl⟩ := H
              go_enter Tryd.func5, Tryd.ntmps5
              go_wp2_with (first | ((with_reducible refine gate_callee (f := 10) rfl ?_); refine goesL_ (some 11) rfl rfl Tryd.func10 (by kernel_rfl) rfl #[.string (⟨#[97, 98, 99]⟩ : ByteArray), .string (⟨#[90, 73, 80]⟩ : ByteArray), .int .i64 64] rfl (by (try simp only [List.map_toArray, List.map_cons, List.map_nil]); first | done | rfl | (simp only [List.length_drop, List.length_take]; rfl)) ?_; (with_reducible refine (armor_Encode.calls (⟨#[97, 98, 99]⟩ : ByteArray) (⟨#[90, 73, 80]⟩ : ByteArray) 64 t160 t161 _ A1.out).mono ?_); rintro e w23 ⟨rfl, hb⟩; refine ⟨_, rfl, ?_⟩; have n0_ := Aside0.mk (below_step (by repeat (first | (with_reducible first | exact HB.out | apply below_alloc | apply pw_below_drewN | apply below_drew1) | exact HB.out)) hb); clear HB; have HB := n0_; clear n0_; (try clear hb); (try clear hb2); (try clear hk); (try clear hi)) | ((with_reducible refine gate_callee (f := 12) rfl ?_); refine goesL_ (some 16) rfl rfl Tryd.func12 (by kernel_rfl) rfl #[.string t160] rfl (by (try simp only [List.map_toArray, List.map_cons, List.map_nil]); first | done | rfl | (simp only [List.length_drop, List.length_take]; rfl)) ?_; (with_reducible refine (armor_Decode.calls k t160 t162 t163 t164 _ A2.out).mono ?_); rintro e w24 ⟨rfl, hb⟩; refine ⟨_, rfl, ?_⟩; have n0_ := Aside0.mk (below_step (by repeat (first | (with_reducible first | exact HB.out | apply below_alloc | apply pw_below_drewN | apply below_drew1) | exact HB.out)) hb); clear HB; have HB := n0_; clear n0_; (try clear hb); (try clear hb2); (try clear hk); (try clear hi)) | ((with_reducible refine gate_callee (f := 7) rfl ?_); refine goesL_ (some 21) rfl rfl Tryd.func7 (by kernel_rfl) rfl #[.string (⟨#[89, 87, 74, 106]⟩ : ByteArray)] rfl (by (try simp only [List.map_toArray, List.map_cons, List.map_nil]); first | done | rfl | (simp only [List.length_drop, List.length_take]; rfl)) ?_; (with_reducible refine (armor_Bytes.calls (⟨#[89, 87, 74, 106]⟩ : ByteArray) t165 t166 _ A3.out).mono ?_); rintro e w25 ⟨rfl, hb⟩; refine ⟨_, rfl, ?_⟩; have n0_ := Aside0.mk (below_step (by repeat (first | (with_reducible first | exact HB.out | apply below_alloc | apply pw_below_drewN | apply below_drew1) | exact HB.out)) hb); clear HB; have HB := n0_; clear n0_; (try clear hb); (try clear hb2); (try clear hk); (try clear hi)) | ((with_reducible refine gate_callee (f := 7) rfl ?_); refine goesL_ (some 25) rfl rfl Tryd.func7 (by kernel_rfl) rfl #[.string (⟨#[89, 87, 74]⟩ : ByteArray)] rfl (by (try simp only [List.map_toArray, List.map_cons, List.map_nil]); first | done | rfl | (simp only [List.length_drop, List.length_take]; rfl)) ?_; (with_reducible refine (armor_Bytes.calls (⟨#[89, 87, 74]⟩ : ByteArray) t167 t168 _ A4.out).mono ?_); rintro e w26 ⟨rfl, hb⟩; refine ⟨_, rfl, ?_⟩; have n0_ := Aside0.mk (below_step (by repeat (first | (with_reducible first | exact HB.out | apply below_alloc | apply pw_below_drewN | apply below_drew1) | exact HB.out)) hb); clear HB; have HB := n0_; clear n0_; (try clear hb); (try clear hb2); (try clear hk); (try clear hi)) | (go_at_call 6; (with_reducible refine (armor_Signs.calls (⟨#[97, 98, 99]⟩ : ByteArray) t169 _ A9.out).mono ?_); rintro e w27 ⟨rfl, hb⟩; have n0_ := Aside0.mk (below_step (by repeat (first | (with_reducible first | exact HB.out | apply below_alloc | apply pw_below_drewN | apply below_drew1) | exact HB.out)) hb); clear HB; have HB := n0_; clear n0_; (try clear hb); (try clear hb2); (try clear hk); (try clear hi)))
              go_ret
              exact ⟨by first | rfl | (simp [errW_none, errW_some] <;> rfl) | (simp [*, errW_none, errW_some] <;> rfl), by repeat (first | (with_reducible first | exact HB.out | apply below_alloc | apply pw_below_drewN | apply below_drew1) | exact HB.out)⟩
          · rw [if_neg c10] at H
            have c10b0 : (t169.toList == ([89, 87, 74, 106] : List UInt8)) = false := beq_eq_false_iff_ne.mpr c10
            have c10b1 : (t169.toList != ([89, 87, 74, 106] : List UInt8)) = true := bne_iff_ne.mpr c10
            obtain rfl := Option.some.inj H
            simp only [Option.some.injEq, Prod.mk.injEq] at H
            obtain ⟨rfl⟩ := H
            go_enter Tryd.func5, Tryd.ntmps5
            go_wp2_with (first | ((with_reducible refine gate_callee (f := 10) rfl ?_); refine goesL_ (some 11) rfl rfl Tryd.func10 (by kernel_rfl) rfl #[.string (⟨#[97, 98, 99]⟩ : ByteArray), .string (⟨#[90, 73, 80]⟩ : ByteArray), .int .i64 64] rfl (by (try simp only [List.map_toArray, List.map_cons, List.map_nil]); first | done | rfl | (simp only [List.length_drop, List.length_take]; rfl)) ?_; (with_reducible refine (armor_Encode.calls (⟨#[97, 98, 99]⟩ : ByteArray) (⟨#[90, 73, 80]⟩ : ByteArray) 64 t160 t161 _ A1.out).mono ?_); rintro e w28 ⟨rfl, hb⟩; refine ⟨_, rfl, ?_⟩; have n0_ := Aside0.mk (below_step (by repeat (first | (with_reducible first | exact HB.out | apply below_alloc | apply pw_below_drewN | apply below_drew1) | exact HB.out)) hb); clear HB; have HB := n0_; clear n0_; (try clear hb); (try clear hb2); (try clear hk); (try clear hi)) | ((with_reducible refine gate_callee (f := 12) rfl ?_); refine goesL_ (some 16) rfl rfl Tryd.func12 (by kernel_rfl) rfl #[.string t160] rfl (by (try simp only [List.map_toArray, List.map_cons, List.map_nil]); first | done | rfl | (simp only [List.length_drop, List.length_take]; rfl)) ?_; (with_reducible refine (armor_Decode.calls k t160 t162 t163 t164 _ A2.out).mono ?_); rintro e w29 ⟨rfl, hb⟩; refine ⟨_, rfl, ?_⟩; have n0_ := Aside0.mk (below_step (by repeat (first | (with_reducible first | exact HB.out | apply below_alloc | apply pw_below_drewN | apply below_drew1) | exact HB.out)) hb); clear HB; have HB := n0_; clear n0_; (try clear hb); (try clear hb2); (try clear hk); (try clear hi)) | ((with_reducible refine gate_callee (f := 7) rfl ?_); refine goesL_ (some 21) rfl rfl Tryd.func7 (by kernel_rfl) rfl #[.string (⟨#[89, 87, 74, 106]⟩ : ByteArray)] rfl (by (try simp only [List.map_toArray, List.map_cons, List.map_nil]); first | done | rfl | (simp only [List.length_drop, List.length_take]; rfl)) ?_; (with_reducible refine (armor_Bytes.calls (⟨#[89, 87, 74, 106]⟩ : ByteArray) t165 t166 _ A3.out).mono ?_); rintro e w30 ⟨rfl, hb⟩; refine ⟨_, rfl, ?_⟩; have n0_ := Aside0.mk (below_step (by repeat (first | (with_reducible first | exact HB.out | apply below_alloc | apply pw_below_drewN | apply below_drew1) | exact HB.out)) hb); clear HB; have HB := n0_; clear n0_; (try clear hb); (try clear hb2); (try clear hk); (try clear hi)) | ((with_reducible refine gate_callee (f := 7) rfl ?_); refine goesL_ (some 25) rfl rfl Tryd.func7 (by kernel_rfl) rfl #[.string (⟨#[89, 87, 74]⟩ : ByteArray)] rfl (by (try simp only [List.map_toArray, List.map_cons, List.map_nil]); first | done | rfl | (simp only [List.length_drop, List.length_take]; rfl)) ?_; (with_reducible refine (armor_Bytes.calls (⟨#[89, 87, 74]⟩ : ByteArray) t167 t168 _ A4.out).mono ?_); rintro e w31 ⟨rfl, hb⟩; refine ⟨_, rfl, ?_⟩; have n0_ := Aside0.mk (below_step (by repeat (first | (with_reducible first | exact HB.out | apply below_alloc | apply pw_below_drewN | apply below_drew1) | exact HB.out)) hb); clear HB; have HB := n0_; clear n0_; (try clear hb); (try clear hb2); (try clear hk); (try clear hi)) | (go_at_call 6; (with_reducible refine (armor_Signs.calls (⟨#[97, 98, 99]⟩ : ByteArray) t169 _ A9.out).mono ?_); rintro e w32 ⟨rfl, hb⟩; have n0_ := Aside0.mk (below_step (by repeat (first | (with_reducible first | exact HB.out | apply below_alloc | apply pw_below_drewN | apply below_drew1) | exact HB.out)) hb); clear HB; have HB := n0_; clear n0_; (try clear hb); (try clear hb2); (try clear hk); (try clear hi)))
            go_ret
            exact ⟨by first | rfl | (simp [errW_none, errW_some] <;> rfl) | (simp [*, errW_none, errW_some] <;> rfl), by repeat (first | (with_reducible first | exact HB.out | apply below_alloc | apply pw_below_drewN | apply below_drew1) | exact HB.out)⟩
        · rw [if_neg c8] at H
          have c8b0 : (t164 == 0) = false := beq_eq_false_iff_ne.mpr c8
          have c8b1 : (t164 != 0) = true := bne_iff_ne.mpr c8
          obtain rfl := Option.some.inj H
          simp only [Option.some.injEq, Prod.mk.injEq] at H
          obtain ⟨rfl⟩ := H
          go_enter Tryd.func5, Tryd.ntmps5
          go_wp2_with (first | ((with_reducible refine gate_callee (f := 10) rfl ?_); refine goesL_ (some 11) rfl rfl Tryd.func10 (by kernel_rfl) rfl #[.string (⟨#[97, 98, 99]⟩ : ByteArray), .string (⟨#[90, 73, 80]⟩ : ByteArray), .int .i64 64] rfl (by (try simp only [List.map_toArray, List.map_cons, List.map_nil]); first | done | rfl | (simp only [List.length_drop, List.length_take]; rfl)) ?_; (with_reducible refine (armor_Encode.calls (⟨#[97, 98, 99]⟩ : ByteArray) (⟨#[90, 73, 80]⟩ : ByteArray) 64 t160 t161 _ A1.out).mono ?_); rintro e w33 ⟨rfl, hb⟩; refine ⟨_, rfl, ?_⟩; have n0_ := Aside0.mk (below_step (by repeat (first | (with_reducible first | exact HB.out | apply below_alloc | apply pw_below_drewN | apply below_drew1) | exact HB.out)) hb); clear HB; have HB := n0_; clear n0_; (try clear hb); (try clear hb2); (try clear hk); (try clear hi)) | ((with_reducible refine gate_callee (f := 12) rfl ?_); refine goesL_ (some 16) rfl rfl Tryd.func12 (by kernel_rfl) rfl #[.string t160] rfl (by (try simp only [List.map_toArray, List.map_cons, List.map_nil]); first | done | rfl | (simp only [List.length_drop, List.length_take]; rfl)) ?_; (with_reducible refine (armor_Decode.calls k t160 t162 t163 t164 _ A2.out).mono ?_); rintro e w34 ⟨rfl, hb⟩; refine ⟨_, rfl, ?_⟩; have n0_ := Aside0.mk (below_step (by repeat (first | (with_reducible first | exact HB.out | apply below_alloc | apply pw_below_drewN | apply below_drew1) | exact HB.out)) hb); clear HB; have HB := n0_; clear n0_; (try clear hb); (try clear hb2); (try clear hk); (try clear hi)) | ((with_reducible refine gate_callee (f := 7) rfl ?_); refine goesL_ (some 21) rfl rfl Tryd.func7 (by kernel_rfl) rfl #[.string (⟨#[89, 87, 74, 106]⟩ : ByteArray)] rfl (by (try simp only [List.map_toArray, List.map_cons, List.map_nil]); first | done | rfl | (simp only [List.length_drop, List.length_take]; rfl)) ?_; (with_reducible refine (armor_Bytes.calls (⟨#[89, 87, 74, 106]⟩ : ByteArray) t165 t166 _ A3.out).mono ?_); rintro e w35 ⟨rfl, hb⟩; refine ⟨_, rfl, ?_⟩; have n0_ := Aside0.mk (below_step (by repeat (first | (with_reducible first | exact HB.out | apply below_alloc | apply pw_below_drewN | apply below_drew1) | exact HB.out)) hb); clear HB; have HB := n0_; clear n0_; (try clear hb); (try clear hb2); (try clear hk); (try clear hi)) | ((with_reducible refine gate_callee (f := 7) rfl ?_); refine goesL_ (some 25) rfl rfl Tryd.func7 (by kernel_rfl) rfl #[.string (⟨#[89, 87, 74]⟩ : ByteArray)] rfl (by (try simp only [List.map_toArray, List.map_cons, List.map_nil]); first | done | rfl | (simp only [List.length_drop, List.length_take]; rfl)) ?_; (with_reducible refine (armor_Bytes.calls (⟨#[89, 87, 74]⟩ : ByteArray) t167 t168 _ A4.out).mono ?_); rintro e w36 ⟨rfl, hb⟩; refine ⟨_, rfl, ?_⟩; have n0_ := Aside0.mk (below_step (by repeat (first | (with_reducible first | exact HB.out | apply below_alloc | apply pw_below_drewN | apply below_drew1) | exact HB.out)) hb); clear HB; have HB := n0_; clear n0_; (try clear hb); (try clear hb2); (try clear hk); (try clear hi)))
          go_ret
          exact ⟨by first | rfl | (simp [errW_none, errW_some] <;> rfl) | (simp [*, errW_none, errW_some] <;> rfl), by repeat (first | (with_reducible first | exact HB.out | apply below_alloc | apply pw_below_drewN | apply below_drew1) | exact HB.out)⟩
      · rw [if_neg c7] at H
        have c7b0 : (t163.toList == ([90, 73, 80] : List UInt8)) = false := beq_eq_false_iff_ne.mpr c7
        have c7b1 : (t163.toList != ([90, 73, 80] : List UInt8)) = true := bne_iff_ne.mpr c7
        obtain rfl := Option.some.inj H
        simp only [Option.some.injEq, Prod.mk.injEq] at H
        obtain ⟨rfl⟩ := H
        go_enter Tryd.func5, Tryd.ntmps5
        go_wp2_with (first | ((with_reducible refine gate_callee (f := 10) rfl ?_); refine goesL_ (some 11) rfl rfl Tryd.func10 (by kernel_rfl) rfl #[.string (⟨#[97, 98, 99]⟩ : ByteArray), .string (⟨#[90, 73, 80]⟩ : ByteArray), .int .i64 64] rfl (by (try simp only [List.map_toArray, List.map_cons, List.map_nil]); first | done | rfl | (simp only [List.length_drop, List.length_take]; rfl)) ?_; (with_reducible refine (armor_Encode.calls (⟨#[97, 98, 99]⟩ : ByteArray) (⟨#[90, 73, 80]⟩ : ByteArray) 64 t160 t161 _ A1.out).mono ?_); rintro e w37 ⟨rfl, hb⟩; refine ⟨_, rfl, ?_⟩; have n0_ := Aside0.mk (below_step (by repeat (first | (with_reducible first | exact HB.out | apply below_alloc | apply pw_below_drewN | apply below_drew1) | exact HB.out)) hb); clear HB; have HB := n0_; clear n0_; (try clear hb); (try clear hb2); (try clear hk); (try clear hi)) | ((with_reducible refine gate_callee (f := 12) rfl ?_); refine goesL_ (some 16) rfl rfl Tryd.func12 (by kernel_rfl) rfl #[.string t160] rfl (by (try simp only [List.map_toArray, List.map_cons, List.map_nil]); first | done | rfl | (simp only [List.length_drop, List.length_take]; rfl)) ?_; (with_reducible refine (armor_Decode.calls k t160 t162 t163 t164 _ A2.out).mono ?_); rintro e w38 ⟨rfl, hb⟩; refine ⟨_, rfl, ?_⟩; have n0_ := Aside0.mk (below_step (by repeat (first | (with_reducible first | exact HB.out | apply below_alloc | apply pw_below_drewN | apply below_drew1) | exact HB.out)) hb); clear HB; have HB := n0_; clear n0_; (try clear hb); (try clear hb2); (try clear hk); (try clear hi)) | ((with_reducible refine gate_callee (f := 7) rfl ?_); refine goesL_ (some 21) rfl rfl Tryd.func7 (by kernel_rfl) rfl #[.string (⟨#[89, 87, 74, 106]⟩ : ByteArray)] rfl (by (try simp only [List.map_toArray, List.map_cons, List.map_nil]); first | done | rfl | (simp only [List.length_drop, List.length_take]; rfl)) ?_; (with_reducible refine (armor_Bytes.calls (⟨#[89, 87, 74, 106]⟩ : ByteArray) t165 t166 _ A3.out).mono ?_); rintro e w39 ⟨rfl, hb⟩; refine ⟨_, rfl, ?_⟩; have n0_ := Aside0.mk (below_step (by repeat (first | (with_reducible first | exact HB.out | apply below_alloc | apply pw_below_drewN | apply below_drew1) | exact HB.out)) hb); clear HB; have HB := n0_; clear n0_; (try clear hb); (try clear hb2); (try clear hk); (try clear hi)) | ((with_reducible refine gate_callee (f := 7) rfl ?_); refine goesL_ (some 25) rfl rfl Tryd.func7 (by kernel_rfl) rfl #[.string (⟨#[89, 87, 74]⟩ : ByteArray)] rfl (by (try simp only [List.map_toArray, List.map_cons, List.map_nil]); first | done | rfl | (simp only [List.length_drop, List.length_take]; rfl)) ?_; (with_reducible refine (armor_Bytes.calls (⟨#[89, 87, 74]⟩ : ByteArray) t167 t168 _ A4.out).mono ?_); rintro e w40 ⟨rfl, hb⟩; refine ⟨_, rfl, ?_⟩; have n0_ := Aside0.mk (below_step (by repeat (first | (with_reducible first | exact HB.out | apply below_alloc | apply pw_below_drewN | apply below_drew1) | exact HB.out)) hb); clear HB; have HB := n0_; clear n0_; (try clear hb); (try clear hb2); (try clear hk); (try clear hi)))
        go_ret
        exact ⟨by first | rfl | (simp [errW_none, errW_some] <;> rfl) | (simp [*, errW_none, errW_some] <;> rfl), by repeat (first | (with_reducible first | exact HB.out | apply below_alloc | apply pw_below_drewN | apply below_drew1) | exact HB.out)⟩
    · rw [if_neg c6] at H
      have c6b0 : (t162.toList == ([97, 98, 99] : List UInt8)) = false := beq_eq_false_iff_ne.mpr c6
      have c6b1 : (t162.toList != ([97, 98, 99] : List UInt8)) = true := bne_iff_ne.mpr c6
      obtain rfl := Option.some.inj H
      simp only [Option.some.injEq, Prod.mk.injEq] at H
      obtain ⟨rfl⟩ := H
      go_enter Tryd.func5, Tryd.ntmps5
      go_wp2_with (first | ((with_reducible refine gate_callee (f := 10) rfl ?_); refine goesL_ (some 11) rfl rfl Tryd.func10 (by kernel_rfl) rfl #[.string (⟨#[97, 98, 99]⟩ : ByteArray), .string (⟨#[90, 73, 80]⟩ : ByteArray), .int .i64 64] rfl (by (try simp only [List.map_toArray, List.map_cons, List.map_nil]); first | done | rfl | (simp only [List.length_drop, List.length_take]; rfl)) ?_; (with_reducible refine (armor_Encode.calls (⟨#[97, 98, 99]⟩ : ByteArray) (⟨#[90, 73, 80]⟩ : ByteArray) 64 t160 t161 _ A1.out).mono ?_); rintro e w41 ⟨rfl, hb⟩; refine ⟨_, rfl, ?_⟩; have n0_ := Aside0.mk (below_step (by repeat (first | (with_reducible first | exact HB.out | apply below_alloc | apply pw_below_drewN | apply below_drew1) | exact HB.out)) hb); clear HB; have HB := n0_; clear n0_; (try clear hb); (try clear hb2); (try clear hk); (try clear hi)) | ((with_reducible refine gate_callee (f := 12) rfl ?_); refine goesL_ (some 16) rfl rfl Tryd.func12 (by kernel_rfl) rfl #[.string t160] rfl (by (try simp only [List.map_toArray, List.map_cons, List.map_nil]); first | done | rfl | (simp only [List.length_drop, List.length_take]; rfl)) ?_; (with_reducible refine (armor_Decode.calls k t160 t162 t163 t164 _ A2.out).mono ?_); rintro e w42 ⟨rfl, hb⟩; refine ⟨_, rfl, ?_⟩; have n0_ := Aside0.mk (below_step (by repeat (first | (with_reducible first | exact HB.out | apply below_alloc | apply pw_below_drewN | apply below_drew1) | exact HB.out)) hb); clear HB; have HB := n0_; clear n0_; (try clear hb); (try clear hb2); (try clear hk); (try clear hi)) | ((with_reducible refine gate_callee (f := 7) rfl ?_); refine goesL_ (some 21) rfl rfl Tryd.func7 (by kernel_rfl) rfl #[.string (⟨#[89, 87, 74, 106]⟩ : ByteArray)] rfl (by (try simp only [List.map_toArray, List.map_cons, List.map_nil]); first | done | rfl | (simp only [List.length_drop, List.length_take]; rfl)) ?_; (with_reducible refine (armor_Bytes.calls (⟨#[89, 87, 74, 106]⟩ : ByteArray) t165 t166 _ A3.out).mono ?_); rintro e w43 ⟨rfl, hb⟩; refine ⟨_, rfl, ?_⟩; have n0_ := Aside0.mk (below_step (by repeat (first | (with_reducible first | exact HB.out | apply below_alloc | apply pw_below_drewN | apply below_drew1) | exact HB.out)) hb); clear HB; have HB := n0_; clear n0_; (try clear hb); (try clear hb2); (try clear hk); (try clear hi)) | ((with_reducible refine gate_callee (f := 7) rfl ?_); refine goesL_ (some 25) rfl rfl Tryd.func7 (by kernel_rfl) rfl #[.string (⟨#[89, 87, 74]⟩ : ByteArray)] rfl (by (try simp only [List.map_toArray, List.map_cons, List.map_nil]); first | done | rfl | (simp only [List.length_drop, List.length_take]; rfl)) ?_; (with_reducible refine (armor_Bytes.calls (⟨#[89, 87, 74]⟩ : ByteArray) t167 t168 _ A4.out).mono ?_); rintro e w44 ⟨rfl, hb⟩; refine ⟨_, rfl, ?_⟩; have n0_ := Aside0.mk (below_step (by repeat (first | (with_reducible first | exact HB.out | apply below_alloc | apply pw_below_drewN | apply below_drew1) | exact HB.out)) hb); clear HB; have HB := n0_; clear n0_; (try clear hb); (try clear hb2); (try clear hk); (try clear hi)))
      go_ret
      exact ⟨by first | rfl | (simp [errW_none, errW_some] <;> rfl) | (simp [*, errW_none, errW_some] <;> rfl), by repeat (first | (with_reducible first | exact HB.out | apply below_alloc | apply pw_below_drewN | apply below_drew1) | exact HB.out)⟩
  · rw [if_neg c5] at H
    have c5b0 : (t161 == 0) = false := beq_eq_false_iff_ne.mpr c5
    have c5b1 : (t161 != 0) = true := bne_iff_ne.mpr c5
    obtain rfl := Option.some.inj H
    simp only [Option.some.injEq, Prod.mk.injEq] at H
    obtain ⟨rfl⟩ := H
    go_enter Tryd.func5, Tryd.ntmps5
    go_wp2_with (first | ((with_reducible refine gate_callee (f := 10) rfl ?_); refine goesL_ (some 11) rfl rfl Tryd.func10 (by kernel_rfl) rfl #[.string (⟨#[97, 98, 99]⟩ : ByteArray), .string (⟨#[90, 73, 80]⟩ : ByteArray), .int .i64 64] rfl (by (try simp only [List.map_toArray, List.map_cons, List.map_nil]); first | done | rfl | (simp only [List.length_drop, List.length_take]; rfl)) ?_; (with_reducible refine (armor_Encode.calls (⟨#[97, 98, 99]⟩ : ByteArray) (⟨#[90, 73, 80]⟩ : ByteArray) 64 t160 t161 _ A1.out).mono ?_); rintro e w45 ⟨rfl, hb⟩; refine ⟨_, rfl, ?_⟩; have n0_ := Aside0.mk (below_step (by repeat (first | (with_reducible first | exact HB.out | apply below_alloc | apply pw_below_drewN | apply below_drew1) | exact HB.out)) hb); clear HB; have HB := n0_; clear n0_; (try clear hb); (try clear hb2); (try clear hk); (try clear hi)) | ((with_reducible refine gate_callee (f := 12) rfl ?_); refine goesL_ (some 16) rfl rfl Tryd.func12 (by kernel_rfl) rfl #[.string t160] rfl (by (try simp only [List.map_toArray, List.map_cons, List.map_nil]); first | done | rfl | (simp only [List.length_drop, List.length_take]; rfl)) ?_; (with_reducible refine (armor_Decode.calls k t160 t162 t163 t164 _ A2.out).mono ?_); rintro e w46 ⟨rfl, hb⟩; refine ⟨_, rfl, ?_⟩; have n0_ := Aside0.mk (below_step (by repeat (first | (with_reducible first | exact HB.out | apply below_alloc | apply pw_below_drewN | apply below_drew1) | exact HB.out)) hb); clear HB; have HB := n0_; clear n0_; (try clear hb); (try clear hb2); (try clear hk); (try clear hi)) | ((with_reducible refine gate_callee (f := 7) rfl ?_); refine goesL_ (some 21) rfl rfl Tryd.func7 (by kernel_rfl) rfl #[.string (⟨#[89, 87, 74, 106]⟩ : ByteArray)] rfl (by (try simp only [List.map_toArray, List.map_cons, List.map_nil]); first | done | rfl | (simp only [List.length_drop, List.length_take]; rfl)) ?_; (with_reducible refine (armor_Bytes.calls (⟨#[89, 87, 74, 106]⟩ : ByteArray) t165 t166 _ A3.out).mono ?_); rintro e w47 ⟨rfl, hb⟩; refine ⟨_, rfl, ?_⟩; have n0_ := Aside0.mk (below_step (by repeat (first | (with_reducible first | exact HB.out | apply below_alloc | apply pw_below_drewN | apply below_drew1) | exact HB.out)) hb); clear HB; have HB := n0_; clear n0_; (try clear hb); (try clear hb2); (try clear hk); (try clear hi)) | ((with_reducible refine gate_callee (f := 7) rfl ?_); refine goesL_ (some 25) rfl rfl Tryd.func7 (by kernel_rfl) rfl #[.string (⟨#[89, 87, 74]⟩ : ByteArray)] rfl (by (try simp only [List.map_toArray, List.map_cons, List.map_nil]); first | done | rfl | (simp only [List.length_drop, List.length_take]; rfl)) ?_; (with_reducible refine (armor_Bytes.calls (⟨#[89, 87, 74]⟩ : ByteArray) t167 t168 _ A4.out).mono ?_); rintro e w48 ⟨rfl, hb⟩; refine ⟨_, rfl, ?_⟩; have n0_ := Aside0.mk (below_step (by repeat (first | (with_reducible first | exact HB.out | apply below_alloc | apply pw_below_drewN | apply below_drew1) | exact HB.out)) hb); clear HB; have HB := n0_; clear n0_; (try clear hb); (try clear hb2); (try clear hk); (try clear hi)))
    go_ret
    exact ⟨by first | rfl | (simp [errW_none, errW_some] <;> rfl) | (simp [*, errW_none, errW_some] <;> rfl), by repeat (first | (with_reducible first | exact HB.out | apply below_alloc | apply pw_below_drewN | apply below_drew1) | exact HB.out)⟩

/-! ### montageref42_alphabet: function 18 -/
def montageref42_alphabet.f  : Option (ByteArray) := some (⟨#[65, 66, 67, 68, 69, 70, 71, 72, 73, 74, 75, 76, 77, 78, 79, 80, 81, 82, 83, 84, 85, 86, 87, 88, 89, 90, 97, 98, 99, 100, 101, 102, 103, 104, 105, 106, 107, 108, 109, 110, 111, 112, 113, 114, 115, 116, 117, 118, 119, 120, 121, 122, 48, 49, 50, 51, 52, 53, 54, 55, 56, 57, 43, 47]⟩ : ByteArray)
set_option maxHeartbeats 8000000 in
set_option maxRecDepth 100000 in
theorem montageref42_alphabet.calls  (r : ByteArray) (w : World) (h : montageref42_alphabet.f  = some r) :
    Calls Tryd.prog 18 #[] w fun e w' => e = .returned (.string r) ∧ Drawn0 w w' := by
  have H : (some (⟨#[65, 66, 67, 68, 69, 70, 71, 72, 73, 74, 75, 76, 77, 78, 79, 80, 81, 82, 83, 84, 85, 86, 87, 88, 89, 90, 97, 98, 99, 100, 101, 102, 103, 104, 105, 106, 107, 108, 109, 110, 111, 112, 113, 114, 115, 116, 117, 118, 119, 120, 121, 122, 48, 49, 50, 51, 52, 53, 54, 55, 56, 57, 43, 47]⟩ : ByteArray)) = some r := h
  clear h
  obtain rfl := Option.some.inj H
  simp only [Option.some.injEq, Prod.mk.injEq] at H
  obtain ⟨rfl⟩ := H
  go_enter Tryd.func18, Tryd.ntmps18
  go_wp2
  go_ret
  exact ⟨by first | rfl | (simp; done) | (simp [*]; done), by repeat (first | exact Drawn0.refl _ | apply Drawn0.step)⟩

/-! ### montageref42_Signs: function 9 -/
mutual
def montageref42_Signs.l0 : Nat → ByteArray → List Int → Int → Option (ByteArray)
  | 0, _, _, _ => none
  | k + 1, x0, x3, x4 => if x4 < (x0.size : Int) then (montageref42_Signs.l1 k x0 x3 x4 7) else (montageref42_Signs.l2 k x3)
def montageref42_Signs.l1 : Nat → ByteArray → List Int → Int → Int → Option (ByteArray)
  | 0, _, _, _, _ => none
  | k + 1, x0, x3, x4, x5 => if x5 ≥ 0 then (if 0 ≤ x4 then (if x4 < (x0.size : Int) then (if 0 ≤ x5 then (if x3.length < 140737488355328 then (montageref42_Signs.l1 k x0 (x3 ++ [Int.tmod (shr .u8 (bt x0 x4) x5) 2]) x4 (wrap64 (x5 - 1))) else (none)) else (none)) else (none)) else (none)) else (montageref42_Signs.l0 k x0 x3 (wrap64 (x4 + 1)))
def montageref42_Signs.l2 : Nat → List Int → Option (ByteArray)
  | 0, _ => none
  | k + 1, x3 => if ((x3.length : Int) % 6) = 0 then (montageref42_Signs.l3 k x3 (⟨#[]⟩ : ByteArray) 0) else (if x3.length < 140737488355328 then (montageref42_Signs.l2 k (x3 ++ [0])) else (none))
def montageref42_Signs.l3 : Nat → List Int → ByteArray → Int → Option (ByteArray)
  | 0, _, _, _ => none
  | k + 1, x3, x6, x7 => if x7 < (x3.length : Int) then (montageref42_Signs.l4 k x3 x6 x7 0 0) else (montageref42_Signs.l5 k x6)
def montageref42_Signs.l4 : Nat → List Int → ByteArray → Int → Int → Int → Option (ByteArray)
  | 0, _, _, _, _, _ => none
  | k + 1, x3, x6, x7, x8, x9 => if x9 < 6 then (if 0 ≤ (wrap64 (x7 + x9)) then (if (wrap64 (x7 + x9)) < (x3.length : Int) then (montageref42_Signs.l4 k x3 x6 x7 (wrap64 ((wrap64 (2 * x8)) + (wrap64 (rd x3 (wrap64 (x7 + x9)))))) (wrap64 (x9 + 1))) else (none)) else (none)) else ((montageref42_alphabet.f).bind fun t177 => (if 0 ≤ x8 then (if x8 ≤ (wrap64 (x8 + 1)) then (if (wrap64 (x8 + 1)) ≤ (t177.size : Int) then (if x6.size + (t177.extract (x8 : Int).toNat ((wrap64 (x8 + 1)) : Int).toNat).size ≤ 9223372036854775807 then (montageref42_Signs.l3 k x3 (x6 ++ (t177.extract (x8 : Int).toNat ((wrap64 (x8 + 1)) : Int).toNat)) (wrap64 (x7 + 6))) else (none)) else (none)) else (none)) else (none)))
def montageref42_Signs.l5 : Nat → ByteArray → Option (ByteArray)
  | 0, _ => none
  | k + 1, x6 => if ((x6.size : Int) % 4) = 0 then (some x6) else (if x6.size + 1 ≤ 9223372036854775807 then (montageref42_Signs.l5 k (x6 ++ (⟨#[61]⟩ : ByteArray))) else (none))
end
def montageref42_Signs.f (k : Nat) (a0 : ByteArray) : Option (ByteArray) := montageref42_Signs.l0 k a0 ([] : List Int) 0
theorem montageref42_Signs.mono_l : ∀ k, (∀ y0 y1 y2, LeO (montageref42_Signs.l0 k y0 y1 y2) (montageref42_Signs.l0 (k + 1) y0 y1 y2)) ∧ (∀ y0 y1 y2 y3, LeO (montageref42_Signs.l1 k y0 y1 y2 y3) (montageref42_Signs.l1 (k + 1) y0 y1 y2 y3)) ∧ (∀ y0, LeO (montageref42_Signs.l2 k y0) (montageref42_Signs.l2 (k + 1) y0)) ∧ (∀ y0 y1 y2, LeO (montageref42_Signs.l3 k y0 y1 y2) (montageref42_Signs.l3 (k + 1) y0 y1 y2)) ∧ (∀ y0 y1 y2 y3 y4, LeO (montageref42_Signs.l4 k y0 y1 y2 y3 y4) (montageref42_Signs.l4 (k + 1) y0 y1 y2 y3 y4)) ∧ (∀ y0, LeO (montageref42_Signs.l5 k y0) (montageref42_Signs.l5 (k + 1) y0))
  | 0 => ⟨fun _ _ _ r h => by simp [montageref42_Signs.l0] at h, fun _ _ _ _ r h => by simp [montageref42_Signs.l1] at h, fun _ r h => by simp [montageref42_Signs.l2] at h, fun _ _ _ r h => by simp [montageref42_Signs.l3] at h, fun _ _ _ _ _ r h => by simp [montageref42_Signs.l4] at h, fun _ r h => by simp [montageref42_Signs.l5] at h⟩
  | k + 1 => by
    obtain ⟨ih0, ih1, ih2, ih3, ih4, ih5⟩ := montageref42_Signs.mono_l k
    refine ⟨?_, ?_, ?_, ?_, ?_, ?_⟩
    · intro y0 y1 y2
      unfold montageref42_Signs.l0
      repeat' first
      | (with_reducible exact ih0 _ _ _)
      | (with_reducible exact ih1 _ _ _ _)
      | (with_reducible exact ih2 _)
      | (with_reducible exact ih3 _ _ _)
      | (with_reducible exact ih4 _ _ _ _ _)
      | (with_reducible exact ih5 _)
      | (with_reducible exact LeO.refl _)
      | (with_reducible exact LeO.none _)
      | (with_reducible refine LeO.ite ?_ ?_)
      | (with_reducible refine LeO.bind ?_ (fun _ => ?_))
      | exact ih0 _ _ _
      | exact ih1 _ _ _ _
      | exact ih2 _
      | exact ih3 _ _ _
      | exact ih4 _ _ _ _ _
      | exact ih5 _
      | exact LeO.none _
      | refine LeO.ite ?_ ?_
      | refine LeO.bind ?_ (fun _ => ?_)
    · intro y0 y1 y2 y3
      unfold montageref42_Signs.l1
      repeat' first
      | (with_reducible exact ih0 _ _ _)
      | (with_reducible exact ih1 _ _ _ _)
      | (with_reducible exact ih2 _)
      | (with_reducible exact ih3 _ _ _)
      | (with_reducible exact ih4 _ _ _ _ _)
      | (with_reducible exact ih5 _)
      | (with_reducible exact LeO.refl _)
      | (with_reducible exact LeO.none _)
      | (with_reducible refine LeO.ite ?_ ?_)
      | (with_reducible refine LeO.bind ?_ (fun _ => ?_))
      | exact ih0 _ _ _
      | exact ih1 _ _ _ _
      | exact ih2 _
      | exact ih3 _ _ _
      | exact ih4 _ _ _ _ _
      | exact ih5 _
      | exact LeO.none _
      | refine LeO.ite ?_ ?_
      | refine LeO.bind ?_ (fun _ => ?_)
    · intro y0
      unfold montageref42_Signs.l2
      repeat' first
      | (with_reducible exact ih0 _ _ _)
      | (with_reducible exact ih1 _ _ _ _)
      | (with_reducible exact ih2 _)
      | (with_reducible exact ih3 _ _ _)
      | (with_reducible exact ih4 _ _ _ _ _)
      | (with_reducible exact ih5 _)
      | (with_reducible exact LeO.refl _)
      | (with_reducible exact LeO.none _)
      | (with_reducible refine LeO.ite ?_ ?_)
      | (with_reducible refine LeO.bind ?_ (fun _ => ?_))
      | exact ih0 _ _ _
      | exact ih1 _ _ _ _
      | exact ih2 _
      | exact ih3 _ _ _
      | exact ih4 _ _ _ _ _
      | exact ih5 _
      | exact LeO.none _
      | refine LeO.ite ?_ ?_
      | refine LeO.bind ?_ (fun _ => ?_)
    · intro y0 y1 y2
      unfold montageref42_Signs.l3
      repeat' first
      | (with_reducible exact ih0 _ _ _)
      | (with_reducible exact ih1 _ _ _ _)
      | (with_reducible exact ih2 _)
      | (with_reducible exact ih3 _ _ _)
      | (with_reducible exact ih4 _ _ _ _ _)
      | (with_reducible exact ih5 _)
      | (with_reducible exact LeO.refl _)
      | (with_reducible exact LeO.none _)
      | (with_reducible refine LeO.ite ?_ ?_)
      | (with_reducible refine LeO.bind ?_ (fun _ => ?_))
      | exact ih0 _ _ _
      | exact ih1 _ _ _ _
      | exact ih2 _
      | exact ih3 _ _ _
      | exact ih4 _ _ _ _ _
      | exact ih5 _
      | exact LeO.none _
      | refine LeO.ite ?_ ?_
      | refine LeO.bind ?_ (fun _ => ?_)
    · intro y0 y1 y2 y3 y4
      unfold montageref42_Signs.l4
      repeat' first
      | (with_reducible exact ih0 _ _ _)
      | (with_reducible exact ih1 _ _ _ _)
      | (with_reducible exact ih2 _)
      | (with_reducible exact ih3 _ _ _)
      | (with_reducible exact ih4 _ _ _ _ _)
      | (with_reducible exact ih5 _)
      | (with_reducible exact LeO.refl _)
      | (with_reducible exact LeO.none _)
      | (with_reducible refine LeO.ite ?_ ?_)
      | (with_reducible refine LeO.bind ?_ (fun _ => ?_))
      | exact ih0 _ _ _
      | exact ih1 _ _ _ _
      | exact ih2 _
      | exact ih3 _ _ _
      | exact ih4 _ _ _ _ _
      | exact ih5 _
      | exact LeO.none _
      | refine LeO.ite ?_ ?_
      | refine LeO.bind ?_ (fun _ => ?_)
    · intro y0
      unfold montageref42_Signs.l5
      repeat' first
      | (with_reducible exact ih0 _ _ _)
      | (with_reducible exact ih1 _ _ _ _)
      | (with_reducible exact ih2 _)
      | (with_reducible exact ih3 _ _ _)
      | (with_reducible exact ih4 _ _ _ _ _)
      | (with_reducible exact ih5 _)
      | (with_reducible exact LeO.refl _)
      | (with_reducible exact LeO.none _)
      | (with_reducible refine LeO.ite ?_ ?_)
      | (with_reducible refine LeO.bind ?_ (fun _ => ?_))
      | exact ih0 _ _ _
      | exact ih1 _ _ _ _
      | exact ih2 _
      | exact ih3 _ _ _
      | exact ih4 _ _ _ _ _
      | exact ih5 _
      | exact LeO.none _
      | refine LeO.ite ?_ ?_
      | refine LeO.bind ?_ (fun _ => ?_)
theorem montageref42_Signs.mono : ∀ a0 k, LeO (montageref42_Signs.f k a0) (montageref42_Signs.f (k + 1) a0) := by
  intro a0 k
  obtain ⟨ih0, ih1, ih2, ih3, ih4, ih5⟩ := montageref42_Signs.mono_l k
  unfold montageref42_Signs.f
  repeat' first
      | (with_reducible exact ih0 _ _ _)
      | (with_reducible exact ih1 _ _ _ _)
      | (with_reducible exact ih2 _)
      | (with_reducible exact ih3 _ _ _)
      | (with_reducible exact ih4 _ _ _ _ _)
      | (with_reducible exact ih5 _)
      | (with_reducible exact LeO.refl _)
      | (with_reducible exact LeO.none _)
      | (with_reducible refine LeO.ite ?_ ?_)
      | (with_reducible refine LeO.bind ?_ (fun _ => ?_))
      | exact ih0 _ _ _
      | exact ih1 _ _ _ _
      | exact ih2 _
      | exact ih3 _ _ _
      | exact ih4 _ _ _ _ _
      | exact ih5 _
      | exact LeO.none _
      | refine LeO.ite ?_ ?_
      | refine LeO.bind ?_ (fun _ => ?_)
set_option maxHeartbeats 8000000 in
set_option maxRecDepth 100000 in
theorem montageref42_Signs.calls (k : Nat) (a0 : ByteArray) (r : ByteArray) (w : World) (h : montageref42_Signs.f k a0 = some r) :
    Calls Tryd.prog 9 #[.string a0] w fun e w' => e = .returned (.string r) ∧ Below w.heap.size w w' := by
  have HB := Aside0.mk (Below.refl w.heap.size w)
  have H : (montageref42_Signs.l0 k a0 ([] : List Int) 0) = some r := h
  clear h
  have H' := Aside0.mk H
  clear H
  go_enter Tryd.func9, Tryd.ntmps9
  go_wp2
  go_loopg [3, 4] k (fun kq v3 v4 w' => ∃ (x3_1 : List Int) (x4_1 : Int), v4 = .int .i64 x4_1 ∧ Aside0 (montageref42_Signs.l0 kq a0 x3_1 x4_1 = some r) ∧ Aside0 (kq ≤ k) ∧ Aside0 (Kd.R (Kd.int .u8) 5 w' w.heap.size (fun _ => True) v3 x3_1) ∧ Aside0 (Below w.heap.size w w'))
  case atStart => exact ⟨(([] : List Int)), (0), (by first | rfl | (simp; done) | (simp [*]; done)), H', ⟨Nat.le_refl _⟩, ⟨by first | exact Kd.R_nil _ _ _ _ _ | exact Kd.N_nil _ _ _ _ _ | exact Kd.V_nil _ _ _ _ _ | exact Kd.Q_nil _ _ _ _ _ | exact Kd.S_nil _ _ _ _ _⟩, ⟨by repeat (first | (with_reducible first | exact HB.out | apply below_alloc | apply pw_below_drewN | apply below_drew1) | exact HB.out)⟩⟩
  case round =>
    clear H'
    obtain ⟨x3_1, x4_1, rfl, HA, HK1, HO_3, HB⟩ := hrel
    cases gk with
    | zero => exact absurd HA.out (by simp [montageref42_Signs.l0])
    | succ k1 =>
      have H := HA.out
      clear HA
      simp only [montageref42_Signs.l0] at H
      by_cases c2 : x4_1 < (a0.size : Int)
      · rw [if_pos c2] at H
        have c2b0 : decide (x4_1 < (a0.size : Int)) = true := decide_eq_true c2
        clear c2
        have H' := Aside0.mk H
        clear H
        go_wp2
        go_loopg [3, 5] k1 (fun kq v3 v5 w' => ∃ (x3_2 : List Int) (x5_2 : Int), v5 = .int .i64 x5_2 ∧ Aside0 (montageref42_Signs.l1 kq a0 x3_2 x4_1 x5_2 = some r) ∧ Aside0 (kq ≤ k1) ∧ Aside0 (Kd.R (Kd.int .u8) 5 w' w.heap.size (fun _ => True) v3 x3_2) ∧ Aside0 (Below w.heap.size w w'))
        case atStart => exact ⟨(x3_1), (7), (by first | rfl | (simp; done) | (simp [*]; done)), H', ⟨Nat.le_refl _⟩, ⟨by (with_reducible repeat (first | apply Kd.R_alloc | apply Kd.R_drewN | apply Kd.R_drew)); exact HO_3.out⟩, ⟨by repeat (first | (with_reducible first | exact HB.out | apply below_alloc | apply pw_below_drewN | apply below_drew1) | exact HB.out)⟩⟩
        case round =>
          clear H'
          try clear c2
          try clear c2b0
          try clear p2
          obtain ⟨x3_2, x5_2, rfl, HA, HK2, HO_3, HB⟩ := hrel
          cases gk with
          | zero => exact absurd HA.out (by simp [montageref42_Signs.l1])
          | succ k2 =>
            have H := HA.out
            clear HA
            simp only [montageref42_Signs.l1] at H
            by_cases c3 : x5_2 ≥ 0
            · rw [if_pos c3] at H
              have c3b0 : decide (0 ≤ x5_2) = true := decide_eq_true c3
              clear c3
              by_cases c4 : 0 ≤ x4_1
              · rw [if_pos c4] at H
                have c4b0 : decide (0 ≤ x4_1) = true := decide_eq_true c4
                clear c4
                by_cases c5 : x4_1 < (a0.size : Int)
                · rw [if_pos c5] at H
                  have c5b0 : decide (x4_1 < (a0.size : Int)) = true := decide_eq_true c5
                  clear c5
                  by_cases c7 : 0 ≤ x5_2
                  · rw [if_pos c7] at H
                    have c7b0 := eq_true c7
                    have c7b1 : decide (0 ≤ x5_2) = true := decide_eq_true c7
                    clear c7
                    obtain ⟨ji8, hji8⟩ : ∃ j_ : Int, (shr .u8 (bt a0 x4_1) x5_2) = j_ := ⟨_, rfl⟩
                    replace H : (if x3_2.length < 140737488355328 then (montageref42_Signs.l1 k2 a0 (x3_2 ++ [Int.tmod (ji8) 2]) x4_1 (wrap64 (x5_2 - 1))) else (none)) = some r := by first | (rw [hji8] at H; exact H) | (simp only [hji8] at H ⊢; exact H)
                    have hji8_ : ((bt a0 x4_1) / 2 ^ min x5_2.toNat 8) = ji8 := hji8
                    have hji8z : x5_2 ≤ 8 → ((bt a0 x4_1) / 2 ^ x5_2.toNat) = ji8 := shr_small hji8
                    by_cases c9 : x3_2.length < 140737488355328
                    · rw [if_pos c9] at H
                      have LMc9 := Aside0.mk c9
                      clear c9
                      obtain ⟨y170, hy170⟩ : ∃ y_ : List Int, y_ = (x3_2 ++ [Int.tmod (ji8) 2]) := ⟨_, rfl⟩
                      replace H : (montageref42_Signs.l1 k2 a0 y170 x4_1 (wrap64 (x5_2 - 1))) = some r := by first | (rw [hy170]; with_reducible exact H) | (have H2_ := (Option.bind_some _ _).symm.trans H; rw [hy170]; with_reducible exact H2_) | (have H2_ := (Option.bind_some _ _).symm.trans H; with_reducible exact H2_) | with_reducible exact H | (rw [hy170]; exact H) | exact H
                      have Ny170 := Aside0.mk hy170
                      clear hy170
                      have H' := Aside0.mk H
                      clear H
                      have p6 : 0 ≤ (x4_1 : Int) := of_decide_eq_true (by first | (with_reducible assumption) | assumption)
                      have q6 : x4_1 < (a0.size : Int) := of_decide_eq_true (by first | (with_reducible assumption) | assumption)
                      have hx6 := bt_at a0 x4_1
                      replace p6 := eq_true p6
                      replace q6 := eq_true q6
                      go_wp2_with (first | ((with_reducible refine gate_builtin (b := .append) (xs := #[.tmp 20, .tmp 27]) rfl ?_); at_builtin; refine Kd.R_append (Kd.int .u8) (w0 := w) w.heap.size rfl (.tmp 20) (.tmp 27) 36 5 (.int .u8 0) 1 rfl Tryd.underlying36 info5 rfl (by decide) (by omega) u3 x3_2 (Int.tmod (ji8) 2) [.int .u8 (Int.tmod (ji8) 2)] (fun _ => True) (fun _ => False) rfl rfl ?aP (fun _ hk => hk.elim) ?aF ?aO ?aB ?aS ?aL ?_; (case aP => exact rfl); (case aB => exact (by repeat (first | (with_reducible first | exact HB.out | apply below_alloc | apply pw_below_drewN | apply below_drew1) | exact HB.out))); (case aF => exact (fun _ _ => trivial)); (case aO => exact (by (with_reducible repeat (first | apply Kd.R_alloc | apply Kd.R_drewN | apply Kd.R_drew)); exact HO_3.out)); (case aS => exact (below_size (by repeat (first | (with_reducible first | exact HB.out | apply below_alloc | apply pw_below_drewN | apply below_drew1) | exact HB.out)))); (case aL => have := LMc9.out; omega); intro v171 w10 ho hb hg hat; rw [← Ny170.out] at ho; have n0_ := Aside0.mk (hb); have n1_ := Aside0.mk (ho); clear HB; clear HO_3; have HB := n0_; have HO172 := n1_; clear n0_ n1_; clear ho hb hg hat))
                      go_roundg k2
                      case measure => have := HK1.out; have := HK2.out; omega
                      case rel => exact ⟨(y170), (wrap64 (x5_2 - 1)), (by first | rfl | (simp; done) | (simp [*]; done)), H', ⟨by have := HK1.out; have := HK2.out; omega⟩, ⟨by (with_reducible repeat (first | apply Kd.R_alloc | apply Kd.R_drewN | apply Kd.R_drew)); exact HO172.out⟩, ⟨by repeat (first | (with_reducible first | exact HB.out | apply below_alloc | apply pw_below_drewN | apply below_drew1) | exact HB.out)⟩⟩
                    · rw [if_neg c9] at H
                      exact absurd H (by simp)
                  · rw [if_neg c7] at H
                    exact absurd H (by simp)
                · rw [if_neg c5] at H
                  exact absurd H (by simp)
              · rw [if_neg c4] at H
                exact absurd H (by simp)
            · rw [if_neg c3] at H
              have c3b0 : decide (0 ≤ x5_2) = false := decide_eq_false c3
              clear c3
              have H' := Aside0.mk H
              clear H
              go_wp2
              go_roundg k2
              case measure => have := HK1.out; have := HK2.out; omega
              case rel => exact ⟨(x3_2), (wrap64 (x4_1 + 1)), (by first | rfl | (simp; done) | (simp [*]; done)), H', ⟨by have := HK1.out; have := HK2.out; omega⟩, ⟨by (with_reducible repeat (first | apply Kd.R_alloc | apply Kd.R_drewN | apply Kd.R_drew)); exact HO_3.out⟩, ⟨by repeat (first | (with_reducible first | exact HB.out | apply below_alloc | apply pw_below_drewN | apply below_drew1) | exact HB.out)⟩⟩
      · rw [if_neg c2] at H
        have c2b0 : decide (x4_1 < (a0.size : Int)) = false := decide_eq_false c2
        clear c2
        have H' := Aside0.mk H
        clear H
        go_wp2
        go_loopg [3] k1 (fun kq v3 w' => ∃ (x3_2 : List Int), Aside0 (montageref42_Signs.l2 kq x3_2 = some r) ∧ Aside0 (kq ≤ k1) ∧ Aside0 (Kd.R (Kd.int .u8) 5 w' w.heap.size (fun _ => True) v3 x3_2) ∧ Aside0 (Below w.heap.size w w'))
        case atStart => exact ⟨(x3_1), H', ⟨Nat.le_refl _⟩, ⟨by (with_reducible repeat (first | apply Kd.R_alloc | apply Kd.R_drewN | apply Kd.R_drew)); exact HO_3.out⟩, ⟨by repeat (first | (with_reducible first | exact HB.out | apply below_alloc | apply pw_below_drewN | apply below_drew1) | exact HB.out)⟩⟩
        case round =>
          clear H'
          try clear c2
          try clear c2b0
          try clear p2
          try clear c3
          try clear c3b0
          try clear c4
          try clear c4b0
          try clear c5
          try clear c5b0
          try clear p6
          try clear q6
          try clear hx6
          try clear c7
          try clear c7b0
          try clear c7b1
          try clear c9
          try clear p2
          try clear p6
          try clear q6
          obtain ⟨x3_2, HA, HK2, HO_3, HB⟩ := hrel
          cases gk with
          | zero => exact absurd HA.out (by simp [montageref42_Signs.l2])
          | succ k2 =>
            have H := HA.out
            clear HA
            simp only [montageref42_Signs.l2] at H
            by_cases c11 : ((x3_2.length : Int) % 6) = 0
            · rw [if_pos c11] at H
              have c11b0 : (((x3_2.length : Int) % 6) == 0) = true := beq_iff_eq.mpr c11
              have c11b1 : (((x3_2.length : Int) % 6) != 0) = false := bne_eq_false_iff_eq.mpr c11
              clear c11
              have H' := Aside0.mk H
              clear H
              obtain ⟨Ao12, co12, eo12⟩ := Kd.R_slice HO_3.out
              subst eo12
              go_wp2
              go_loopg [6, 7] k2 (fun kq v6 v7 w' => ∃ (x6_3 : ByteArray) (x7_3 : Int), v6 = .string x6_3 ∧ v7 = .int .i64 x7_3 ∧ Aside0 (montageref42_Signs.l3 kq x3_2 x6_3 x7_3 = some r) ∧ Aside0 (kq ≤ k2) ∧ Aside0 (Kd.R (Kd.int .u8) 5 w' w.heap.size (fun _ => True) (.slice Ao12 x3_2.length co12) x3_2) ∧ Aside0 (Below w.heap.size w w'))
              case atStart => exact ⟨((⟨#[]⟩ : ByteArray)), (0), (by first | rfl | (simp; done) | (simp [*]; done)), (by first | rfl | (simp; done) | (simp [*]; done)), H', ⟨Nat.le_refl _⟩, ⟨by (with_reducible repeat (first | apply Kd.R_alloc | apply Kd.R_drewN | apply Kd.R_drew)); exact HO_3.out⟩, ⟨by repeat (first | (with_reducible first | exact HB.out | apply below_alloc | apply pw_below_drewN | apply below_drew1) | exact HB.out)⟩⟩
              case round =>
                clear H'
                try clear c1
                try clear c2
                try clear c2b0
                try clear p2
                try clear c3
                try clear c3b0
                try clear c4
                try clear c4b0
                try clear c5
                try clear c5b0
                try clear p6
                try clear q6
                try clear hx6
                try clear c7
                try clear c7b0
                try clear c7b1
                try clear c9
                try clear c11
                try clear c11b0
                try clear c11b1
                try clear p2
                try clear p6
                try clear q6
                obtain ⟨x6_3, x7_3, rfl, rfl, HA, HK3, HO_3, HB⟩ := hrel
                cases gk with
                | zero => exact absurd HA.out (by simp [montageref42_Signs.l3])
                | succ k3 =>
                  have H := HA.out
                  clear HA
                  simp only [montageref42_Signs.l3] at H
                  by_cases c13 : x7_3 < (x3_2.length : Int)
                  · rw [if_pos c13] at H
                    have c13b0 : decide (x7_3 < (x3_2.length : Int)) = true := decide_eq_true c13
                    clear c13
                    have H' := Aside0.mk H
                    clear H
                    go_wp2
                    go_loopg [8, 9] k3 (fun kq v8 v9 w' => ∃ (x8_4 : Int) (x9_4 : Int), v8 = .int .i64 x8_4 ∧ v9 = .int .i64 x9_4 ∧ Aside0 (montageref42_Signs.l4 kq x3_2 x6_3 x7_3 x8_4 x9_4 = some r) ∧ Aside0 (kq ≤ k3) ∧ Aside0 (Kd.R (Kd.int .u8) 5 w' w.heap.size (fun _ => True) (.slice Ao12 x3_2.length co12) x3_2) ∧ Aside0 (Below w.heap.size w w'))
                    case atStart => exact ⟨(0), (0), (by first | rfl | (simp; done) | (simp [*]; done)), (by first | rfl | (simp; done) | (simp [*]; done)), H', ⟨Nat.le_refl _⟩, ⟨by (with_reducible repeat (first | apply Kd.R_alloc | apply Kd.R_drewN | apply Kd.R_drew)); exact HO_3.out⟩, ⟨by repeat (first | (with_reducible first | exact HB.out | apply below_alloc | apply pw_below_drewN | apply below_drew1) | exact HB.out)⟩⟩
                    case round =>
                      clear H'
                      try clear c1
                      try clear c2
                      try clear c2b0
                      try clear p2
                      try clear c3
                      try clear c3b0
                      try clear c4
                      try clear c4b0
                      try clear c5
                      try clear c5b0
                      try clear p6
                      try clear q6
                      try clear hx6
                      try clear c7
                      try clear c7b0
                      try clear c7b1
                      try clear c9
                      try clear c11
                      try clear c11b0
                      try clear c11b1
                      try clear c13
                      try clear c13b0
                      try clear p2
                      try clear p6
                      try clear q6
                      obtain ⟨x8_4, x9_4, rfl, rfl, HA, HK4, HO_3, HB⟩ := hrel
                      cases gk with
                      | zero => exact absurd HA.out (by simp [montageref42_Signs.l4])
                      | succ k4 =>
                        have H := HA.out
                        clear HA
                        simp only [montageref42_Signs.l4] at H
                        by_cases c14 : x9_4 < 6
                        · rw [if_pos c14] at H
                          have c14b0 : decide (x9_4 < 6) = true := decide_eq_true c14
                          clear c14
                          obtain ⟨ji15, hji15⟩ : ∃ j_ : Int, (wrap64 (x7_3 + x9_4)) = j_ := ⟨_, rfl⟩
                          replace H : (if 0 ≤ (ji15) then (if (ji15) < (x3_2.length : Int) then (montageref42_Signs.l4 k4 x3_2 x6_3 x7_3 (wrap64 ((wrap64 (2 * x8_4)) + (wrap64 (rd x3_2 (ji15))))) (wrap64 (x9_4 + 1))) else (none)) else (none)) = some r := by first | (rw [hji15] at H; exact H) | (simp only [hji15] at H ⊢; exact H)
                          have hji15w : (IntKind.i64.wrap (x7_3 + x9_4)) = ji15 := (i64_w _).trans hji15
                          by_cases c16 : 0 ≤ (ji15)
                          · rw [if_pos c16] at H
                            have c16b0 : decide (0 ≤ (ji15)) = true := decide_eq_true c16
                            clear c16
                            by_cases c17 : (ji15) < (x3_2.length : Int)
                            · rw [if_pos c17] at H
                              have c17b0 : decide ((ji15) < (x3_2.length : Int)) = true := decide_eq_true c17
                              clear c17
                              have H' := Aside0.mk H
                              clear H
                              have p176 : 0 ≤ ((ji15) : Int) := of_decide_eq_true (by first | (with_reducible assumption) | assumption)
                              have q176 : (ji15) < (x3_2.length : Int) := of_decide_eq_true (by first | (with_reducible assumption) | assumption)
                              obtain ⟨ad176, e176, hx176_0⟩ := Kd.at_int (Kd.R_reads' HO_3.out).2.2 (ji15) p176 q176
                              cases e176
                              replace p176 := eq_true p176
                              replace q176 := eq_true q176
                              go_wp2
                              go_roundg k4
                              case measure => have := HK1.out; have := HK2.out; have := HK3.out; have := HK4.out; omega
                              case rel => exact ⟨(wrap64 ((wrap64 (2 * x8_4)) + (wrap64 (rd x3_2 (ji15))))), (wrap64 (x9_4 + 1)), (by first | rfl | (simp; done) | (simp only [← hji15] <;> (first | rfl | simp)) | (simp [*]; done)), (by first | rfl | (simp; done) | (simp [*]; done)), H', ⟨by have := HK1.out; have := HK2.out; have := HK3.out; have := HK4.out; omega⟩, ⟨by (with_reducible repeat (first | apply Kd.R_alloc | apply Kd.R_drewN | apply Kd.R_drew)); exact HO_3.out⟩, ⟨by repeat (first | (with_reducible first | exact HB.out | apply below_alloc | apply pw_below_drewN | apply below_drew1) | exact HB.out)⟩⟩
                            · rw [if_neg c17] at H
                              exact absurd H (by simp)
                          · rw [if_neg c16] at H
                            exact absurd H (by simp)
                        · rw [if_neg c14] at H
                          have c14b0 : decide (x9_4 < 6) = false := decide_eq_false c14
                          clear c14
                          replace H := Option.bind_eq_some_iff.mp H
                          obtain ⟨t177, A180, H⟩ := H
                          replace H : (if 0 ≤ x8_4 then (if x8_4 ≤ (wrap64 (x8_4 + 1)) then (if (wrap64 (x8_4 + 1)) ≤ (t177.size : Int) then (if x6_3.size + (t177.extract (x8_4 : Int).toNat ((wrap64 (x8_4 + 1)) : Int).toNat).size ≤ 9223372036854775807 then (montageref42_Signs.l3 k4 x3_2 (x6_3 ++ (t177.extract (x8_4 : Int).toNat ((wrap64 (x8_4 + 1)) : Int).toNat)) (wrap64 (x7_3 + 6))) else (none)) else (none)) else (none)) else (none)) = some r := H
                          have A18 := Aside0.mk A180
                          clear A180
                          by_cases c19 : 0 ≤ x8_4
                          · rw [if_pos c19] at H
                            have c19b0 := eq_true c19
                            have c19b1 : decide (0 ≤ x8_4) = true := decide_eq_true c19
                            clear c19
                            by_cases c20 : x8_4 ≤ (wrap64 (x8_4 + 1))
                            · rw [if_pos c20] at H
                              have c20b0 := eq_true c20
                              have c20b1 : decide (x8_4 ≤ (wrap64 (x8_4 + 1))) = true := decide_eq_true c20
                              by_cases c21 : (wrap64 (x8_4 + 1)) ≤ (t177.size : Int)
                              · rw [if_pos c21] at H
                                have c21b0 := eq_true c21
                                have c21b1 : decide ((wrap64 (x8_4 + 1)) ≤ (t177.size : Int)) = true := decide_eq_true c21
                                by_cases c22 : x6_3.size + (t177.extract (x8_4 : Int).toNat ((wrap64 (x8_4 + 1)) : Int).toNat).size ≤ 9223372036854775807
                                · rw [if_pos c22] at H
                                  have c22b0 := eq_true c22
                                  have c22b1 : decide (x6_3.size + (t177.extract (x8_4 : Int).toNat ((wrap64 (x8_4 + 1)) : Int).toNat).size ≤ 9223372036854775807) = true := decide_eq_true c22
                                  try have c22b2 : (9223372036854775807 < x6_3.size + (t177.extract (x8_4 : Int).toNat ((wrap64 (x8_4 + 1)) : Int).toNat).size) = False := eq_false (Nat.not_lt.2 c22)
                                  have H' := Aside0.mk H
                                  clear H
                                  go_wp2_with (first | ((with_reducible refine gate_callee (f := 18) rfl ?_); refine goesL_ (some 57) rfl rfl Tryd.func18 (by kernel_rfl) rfl #[] rfl (by (try simp only [List.map_toArray, List.map_cons, List.map_nil]); first | done | rfl | (simp only [List.length_drop, List.length_take]; rfl)) ?_; (with_reducible refine (montageref42_alphabet.calls  t177 _ A18.out).mono ?_); rintro e w' ⟨rfl, ⟨nd, rfl⟩⟩; refine ⟨_, rfl, ?_⟩))
                                  go_roundg k4
                                  case measure => have := HK1.out; have := HK2.out; have := HK3.out; have := HK4.out; omega
                                  case rel => exact ⟨(x6_3 ++ (t177.extract (x8_4 : Int).toNat ((wrap64 (x8_4 + 1)) : Int).toNat)), (wrap64 (x7_3 + 6)), (by first | rfl | (simp; done) | (simp [*]; done)), (by first | rfl | (simp; done) | (simp [*]; done)), H', ⟨by have := HK1.out; have := HK2.out; have := HK3.out; have := HK4.out; omega⟩, ⟨by (with_reducible repeat (first | apply Kd.R_alloc | apply Kd.R_drewN | apply Kd.R_drew)); exact HO_3.out⟩, ⟨by repeat (first | (with_reducible first | exact HB.out | apply below_alloc | apply pw_below_drewN | apply below_drew1) | exact HB.out)⟩⟩
                                · rw [if_neg c22] at H
                                  exact absurd H (by simp)
                              · rw [if_neg c21] at H
                                exact absurd H (by simp)
                            · rw [if_neg c20] at H
                              exact absurd H (by simp)
                          · rw [if_neg c19] at H
                            exact absurd H (by simp)
                  · rw [if_neg c13] at H
                    have c13b0 : decide (x7_3 < (x3_2.length : Int)) = false := decide_eq_false c13
                    clear c13
                    have H' := Aside0.mk H
                    clear H
                    go_wp2
                    go_loopg [6] k3 (fun kq v6 w' => ∃ (x6_4 : ByteArray), v6 = .string x6_4 ∧ Aside0 (montageref42_Signs.l5 kq x6_4 = some r) ∧ Aside0 (kq ≤ k3) ∧ Aside0 (Below w.heap.size w w'))
                    case atStart => exact ⟨(x6_3), (by first | rfl | (simp; done) | (simp [*]; done)), H', ⟨Nat.le_refl _⟩, ⟨by repeat (first | (with_reducible first | exact HB.out | apply below_alloc | apply pw_below_drewN | apply below_drew1) | exact HB.out)⟩⟩
                    case round =>
                      clear H'
                      try clear c1
                      try clear p1
                      try clear q1
                      try clear hx1
                      try clear c2
                      try clear c2b0
                      try clear p2
                      try clear c3
                      try clear c3b0
                      try clear c4
                      try clear c4b0
                      try clear c5
                      try clear c5b0
                      try clear p6
                      try clear q6
                      try clear hx6
                      try clear c7
                      try clear c7b0
                      try clear c7b1
                      try clear c9
                      try clear c11
                      try clear c11b0
                      try clear c11b1
                      try clear c13
                      try clear c13b0
                      try clear c14
                      try clear c14b0
                      try clear c16
                      try clear c16b0
                      try clear c17
                      try clear c17b0
                      try clear p17
                      try clear q17
                      try clear hx17
                      try clear c18
                      try clear c19
                      try clear c19b0
                      try clear c19b1
                      try clear c20
                      try clear c20b0
                      try clear c20b1
                      try clear c21
                      try clear c21b0
                      try clear c21b1
                      try clear c22
                      try clear c22b0
                      try clear c22b1
                      try clear c22b2
                      try clear hx176_0
                      try clear p176
                      try clear p2
                      try clear p6
                      try clear q176
                      try clear q6
                      obtain ⟨x6_4, rfl, HA, HK4, HB⟩ := hrel
                      cases gk with
                      | zero => exact absurd HA.out (by simp [montageref42_Signs.l5])
                      | succ k4 =>
                        have H := HA.out
                        clear HA
                        simp only [montageref42_Signs.l5] at H
                        by_cases c23 : ((x6_4.size : Int) % 4) = 0
                        · rw [if_pos c23] at H
                          have c23b0 : (((x6_4.size : Int) % 4) == 0) = true := beq_iff_eq.mpr c23
                          have c23b1 : (((x6_4.size : Int) % 4) != 0) = false := bne_eq_false_iff_eq.mpr c23
                          clear c23
                          obtain rfl := Option.some.inj H
                          simp only [Option.some.injEq, Prod.mk.injEq] at H
                          obtain ⟨rfl⟩ := H
                          go_wp2
                          go_ret
                          exact ⟨by first | rfl | (simp [errW_none, errW_some] <;> rfl) | (simp [*, errW_none, errW_some] <;> rfl), by repeat (first | (with_reducible first | exact HB.out | apply below_alloc | apply pw_below_drewN | apply below_drew1) | exact HB.out)⟩
                        · rw [if_neg c23] at H
                          have c23b0 : (((x6_4.size : Int) % 4) == 0) = false := beq_eq_false_iff_ne.mpr c23
                          have c23b1 : (((x6_4.size : Int) % 4) != 0) = true := bne_iff_ne.mpr c23
                          by_cases c24 : x6_4.size + 1 ≤ 9223372036854775807
                          · rw [if_pos c24] at H
                            have c24b0 := eq_true c24
                            have c24b1 : decide (x6_4.size + 1 ≤ 9223372036854775807) = true := decide_eq_true c24
                            try have c24b2 : (9223372036854775807 < x6_4.size + 1) = False := eq_false (Nat.not_lt.2 c24)
                            have H' := Aside0.mk H
                            clear H
                            go_wp2
                            go_roundg k4
                            case measure => have := HK1.out; have := HK2.out; have := HK3.out; have := HK4.out; omega
                            case rel => exact ⟨(x6_4 ++ (⟨#[61]⟩ : ByteArray)), (by first | rfl | (simp; done) | (simp [*]; done)), H', ⟨by have := HK1.out; have := HK2.out; have := HK3.out; have := HK4.out; omega⟩, ⟨by repeat (first | (with_reducible first | exact HB.out | apply below_alloc | apply pw_below_drewN | apply below_drew1) | exact HB.out)⟩⟩
                          · rw [if_neg c24] at H
                            exact absurd H (by simp)
            · rw [if_neg c11] at H
              have c11b0 : (((x3_2.length : Int) % 6) == 0) = false := beq_eq_false_iff_ne.mpr c11
              have c11b1 : (((x3_2.length : Int) % 6) != 0) = true := bne_iff_ne.mpr c11
              by_cases c25 : x3_2.length < 140737488355328
              · rw [if_pos c25] at H
                have LMc25 := Aside0.mk c25
                clear c25
                obtain ⟨y173, hy173⟩ : ∃ y_ : List Int, y_ = (x3_2 ++ [0]) := ⟨_, rfl⟩
                replace H : (montageref42_Signs.l2 k2 y173) = some r := by first | (rw [hy173]; with_reducible exact H) | (have H2_ := (Option.bind_some _ _).symm.trans H; rw [hy173]; with_reducible exact H2_) | (have H2_ := (Option.bind_some _ _).symm.trans H; with_reducible exact H2_) | with_reducible exact H | (rw [hy173]; exact H) | exact H
                have Ny173 := Aside0.mk hy173
                clear hy173
                have H' := Aside0.mk H
                clear H
                obtain ⟨Ao26, co26, eo26⟩ := Kd.R_slice HO_3.out
                subst eo26
                go_wp2_with (first | ((with_reducible refine gate_builtin (b := .append) (xs := #[.tmp 33, .tmp 34]) rfl ?_); at_builtin; refine Kd.R_append (Kd.int .u8) (w0 := w) w.heap.size rfl (.tmp 33) (.tmp 34) 36 5 (.int .u8 0) 1 rfl Tryd.underlying36 info5 rfl (by decide) (by omega) (.slice Ao26 x3_2.length co26) x3_2 0 [.int .u8 0] (fun _ => True) (fun _ => False) rfl rfl ?aP (fun _ hk => hk.elim) ?aF ?aO ?aB ?aS ?aL ?_; (case aP => exact rfl); (case aB => exact (by repeat (first | (with_reducible first | exact HB.out | apply below_alloc | apply pw_below_drewN | apply below_drew1) | exact HB.out))); (case aF => exact (fun _ _ => trivial)); (case aO => exact (by (with_reducible repeat (first | apply Kd.R_alloc | apply Kd.R_drewN | apply Kd.R_drew)); exact HO_3.out)); (case aS => exact (below_size (by repeat (first | (with_reducible first | exact HB.out | apply below_alloc | apply pw_below_drewN | apply below_drew1) | exact HB.out)))); (case aL => have := LMc25.out; omega); intro v174 w27 ho hb hg hat; rw [← Ny173.out] at ho; have n0_ := Aside0.mk (hb); have n1_ := Aside0.mk (ho); clear HB; clear HO_3; have HB := n0_; have HO175 := n1_; clear n0_ n1_; clear ho hb hg hat))
                go_roundg k2
                case measure => have := HK1.out; have := HK2.out; omega
                case rel => exact ⟨(y173), H', ⟨by have := HK1.out; have := HK2.out; omega⟩, ⟨by (with_reducible repeat (first | apply Kd.R_alloc | apply Kd.R_drewN | apply Kd.R_drew)); exact HO175.out⟩, ⟨by repeat (first | (with_reducible first | exact HB.out | apply below_alloc | apply pw_below_drewN | apply below_drew1) | exact HB.out)⟩⟩
              · rw [if_neg c25] at H
                exact absurd H (by simp)

/-! ### montageref42_value: function 17 -/
def montageref42_value.l0 : Nat → Int → ByteArray → Int → Option (Int)
  | 0, _, _, _ => none
  | k + 1, x0, x3, x4 => if x4 < (x3.size : Int) then (if 0 ≤ x4 then (if (bt x3 x4) = x0 then (some x4) else (montageref42_value.l0 k x0 x3 (wrap64 (x4 + 1)))) else (none)) else (some (-1))
def montageref42_value.f (k : Nat) (a0 : Int) : Option (Int) := (montageref42_alphabet.f).bind fun t178 => (montageref42_value.l0 k a0 t178 0)
theorem montageref42_value.mono_l : ∀ k, (∀ y0 y1 y2, LeO (montageref42_value.l0 k y0 y1 y2) (montageref42_value.l0 (k + 1) y0 y1 y2))
  | 0 => fun _ _ _ r h => by simp [montageref42_value.l0] at h
  | k + 1 => by
    have ih0 := montageref42_value.mono_l k
    · intro y0 y1 y2
      unfold montageref42_value.l0
      repeat' first
      | (with_reducible exact ih0 _ _ _)
      | (with_reducible exact LeO.refl _)
      | (with_reducible exact LeO.none _)
      | (with_reducible refine LeO.ite ?_ ?_)
      | (with_reducible refine LeO.bind ?_ (fun _ => ?_))
      | exact ih0 _ _ _
      | exact LeO.none _
      | refine LeO.ite ?_ ?_
      | refine LeO.bind ?_ (fun _ => ?_)
theorem montageref42_value.mono : ∀ a0 k, LeO (montageref42_value.f k a0) (montageref42_value.f (k + 1) a0) := by
  intro a0 k
  have ih0 := montageref42_value.mono_l k
  unfold montageref42_value.f
  repeat' first
      | (with_reducible exact ih0 _ _ _)
      | (with_reducible exact LeO.refl _)
      | (with_reducible exact LeO.none _)
      | (with_reducible refine LeO.ite ?_ ?_)
      | (with_reducible refine LeO.bind ?_ (fun _ => ?_))
      | exact ih0 _ _ _
      | exact LeO.none _
      | refine LeO.ite ?_ ?_
      | refine LeO.bind ?_ (fun _ => ?_)
set_option maxHeartbeats 8000000 in
set_option maxRecDepth 100000 in
theorem montageref42_value.calls (k : Nat) (a0 : Int) (r : Int) (w : World) (h : montageref42_value.f k a0 = some r) :
    Calls Tryd.prog 17 #[.int .u8 a0] w fun e w' => e = .returned (.int .i64 r) ∧ Drawn0 w w' := by
  have H : ((montageref42_alphabet.f).bind fun t178 => (montageref42_value.l0 k a0 t178 0)) = some r := h
  clear h
  replace H := Option.bind_eq_some_iff.mp H
  obtain ⟨t178, A20, H⟩ := H
  replace H : (montageref42_value.l0 k a0 t178 0) = some r := H
  have A2 := Aside0.mk A20
  clear A20
  have H' := Aside0.mk H
  clear H
  go_enter Tryd.func17, Tryd.ntmps17
  go_wp2_with (first | ((with_reducible refine gate_callee (f := 18) rfl ?_); refine goesL_ (some 5) rfl rfl Tryd.func18 (by kernel_rfl) rfl #[] rfl (by (try simp only [List.map_toArray, List.map_cons, List.map_nil]); first | done | rfl | (simp only [List.length_drop, List.length_take]; rfl)) ?_; (with_reducible refine (montageref42_alphabet.calls  t178 _ A2.out).mono ?_); rintro e w' ⟨rfl, ⟨nd, rfl⟩⟩; refine ⟨_, rfl, ?_⟩))
  go_loopg [4] k (fun kq v4 w' => ∃ (x4_1 : Int), v4 = .int .i64 x4_1 ∧ Aside0 (montageref42_value.l0 kq a0 t178 x4_1 = some r) ∧ Aside0 (kq ≤ k) ∧ Drawn0 w w')
  case atStart => exact ⟨(0), (by first | rfl | (simp; done) | (simp [*]; done)), H', ⟨Nat.le_refl _⟩, by repeat (first | exact Drawn0.refl _ | apply Drawn0.step)⟩
  case round =>
    clear H'
    try clear c1
    try clear p2
    obtain ⟨x4_1, rfl, HA, HK1, ⟨m1, rfl⟩⟩ := hrel
    cases gk with
    | zero => exact absurd HA.out (by simp [montageref42_value.l0])
    | succ k1 =>
      have H := HA.out
      clear HA
      simp only [montageref42_value.l0] at H
      by_cases c3 : x4_1 < (t178.size : Int)
      · rw [if_pos c3] at H
        have c3b0 : decide (x4_1 < (t178.size : Int)) = true := decide_eq_true c3
        clear c3
        by_cases c4 : 0 ≤ x4_1
        · rw [if_pos c4] at H
          have c4b0 : decide (0 ≤ x4_1) = true := decide_eq_true c4
          clear c4
          by_cases c6 : (bt t178 x4_1) = a0
          · rw [if_pos c6] at H
            have c6b0 : ((bt t178 x4_1) == a0) = true := beq_iff_eq.mpr c6
            have c6b1 : ((bt t178 x4_1) != a0) = false := bne_eq_false_iff_eq.mpr c6
            clear c6
            obtain rfl := Option.some.inj H
            simp only [Option.some.injEq, Prod.mk.injEq] at H
            obtain ⟨rfl⟩ := H
            have p5 : 0 ≤ (x4_1 : Int) := of_decide_eq_true (by first | (with_reducible assumption) | assumption)
            have q5 : x4_1 < (t178.size : Int) := of_decide_eq_true (by first | (with_reducible assumption) | assumption)
            have hx5 := bt_at t178 x4_1
            replace p5 := eq_true p5
            replace q5 := eq_true q5
            go_wp2
            go_ret
            exact ⟨by first | rfl | (simp; done) | (simp [*]; done), by repeat (first | exact Drawn0.refl _ | apply Drawn0.step)⟩
          · rw [if_neg c6] at H
            have c6b0 : ((bt t178 x4_1) == a0) = false := beq_eq_false_iff_ne.mpr c6
            have c6b1 : ((bt t178 x4_1) != a0) = true := bne_iff_ne.mpr c6
            have H' := Aside0.mk H
            clear H
            have p5 : 0 ≤ (x4_1 : Int) := of_decide_eq_true (by first | (with_reducible assumption) | assumption)
            have q5 : x4_1 < (t178.size : Int) := of_decide_eq_true (by first | (with_reducible assumption) | assumption)
            have hx5 := bt_at t178 x4_1
            replace p5 := eq_true p5
            replace q5 := eq_true q5
            go_wp2
            go_roundg k1
            case measure => have := HK1.out; omega
            case rel => exact ⟨(wrap64 (x4_1 + 1)), (by first | rfl | (simp; done) | (simp [*]; done)), H', ⟨by have := HK1.out; omega⟩, by repeat (first | exact Drawn0.refl _ | apply Drawn0.step)⟩
        · rw [if_neg c4] at H
          exact absurd H (by simp)
      · rw [if_neg c3] at H
        have c3b0 : decide (x4_1 < (t178.size : Int)) = false := decide_eq_false c3
        clear c3
        obtain rfl := Option.some.inj H
        simp only [Option.some.injEq, Prod.mk.injEq] at H
        obtain ⟨rfl⟩ := H
        go_wp2
        go_ret
        exact ⟨by first | rfl | (simp; done) | (simp [*]; done), by repeat (first | exact Drawn0.refl _ | apply Drawn0.step)⟩

end Go.Proofs.YtdnahkeiidbihaaDoor.PArmor
