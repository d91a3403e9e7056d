-- Written by wip/xprint of this repo (not trusted: Lean checks it).
import Derived.Test.YtdnahkeiidbihaaDoorPArmorx0
import Derived.Test.YtdnahkeiidbihaaDoorPArmorx2
namespace Go.Proofs.YtdnahkeiidbihaaDoor.PArmor
open Go.RowKit Go.Proofs.YtdnahkeiidbihaaDoorW.PrintWords Go.Proofs.YtdnahkeiidbihaaDoorW.PrintLast Go.Proofs.YtdnahkeiidbihaaDoorW.PrintMore
attribute [local go_sem] max2_int min2_int max_two min_two max_three min_three max_four min_four   -- for this text's walks alone
set_option linter.unusedVariables false
set_option linter.unusedSimpArgs false

/-! ### armor_cut: function 26 -/
def armor_cut.f (a0 : ByteArray) (a1 : ByteArray) (a2 : ByteArray) : Option (ByteArray × Bool) := (strings_CutPrefix.f a0 a1).bind fun bt119 => ((strings_CutSuffix.f bt119.1 a2).bind fun bt121 => (if bt119.2 = true then (some (bt121.1, bt121.2)) else (some (bt121.1, false))))
set_option maxHeartbeats 8000000 in
set_option maxRecDepth 100000 in
theorem armor_cut.calls (a0 : ByteArray) (a1 : ByteArray) (a2 : ByteArray) (r1 : ByteArray) (r2 : Bool) (w : World) (h : armor_cut.f a0 a1 a2 = some (r1, r2)) :
    Calls Tryd.prog 26 #[.string a0, .string a1, .string a2] w fun e w' => e = .returned (.tuple #[.string r1, .bool r2]) ∧ Drawn0 w w' := by
  have H : ((strings_CutPrefix.f a0 a1).bind fun bt119 => ((strings_CutSuffix.f bt119.1 a2).bind fun bt121 => (if bt119.2 = true then (some (bt121.1, bt121.2)) else (some (bt121.1, false))))) = some (r1, r2) := h
  clear h
  replace H := Option.bind_eq_some_iff.mp H
  obtain ⟨⟨t119, t120⟩, A40, H⟩ := H
  replace H : ((strings_CutSuffix.f t119 a2).bind fun bt121 => (if t120 = true then (some (bt121.1, bt121.2)) else (some (bt121.1, false)))) = some (r1, r2) := H
  have A4 := Aside0.mk A40
  clear A40
  replace H := Option.bind_eq_some_iff.mp H
  obtain ⟨⟨t121, t122⟩, A50, H⟩ := H
  replace H : (if t120 = true then (some (t121, t122)) else (some (t121, false))) = some (r1, r2) := H
  have A5 := Aside0.mk A50
  clear A50
  by_cases c6 : t120 = true
  · subst c6
    have H1 : (some (t121, t122)) = some (r1, r2) := by rw [if_pos rfl] at H; exact H
    clear H
    have H := H1
    clear H1
    simp only [Option.some.injEq, Prod.mk.injEq] at H
    obtain ⟨rfl, rfl⟩ := H
    go_enter Tryd.func26, Tryd.ntmps26
    go_wp2_with (first | ((with_reducible refine gate_callee (f := 29) rfl ?_); refine goesL_ (some 13) rfl rfl Tryd.func29 (by kernel_rfl) rfl #[.string a0, .string a1] rfl (by (try simp only [List.map_toArray, List.map_cons, List.map_nil]); first | done | rfl | (simp only [List.length_drop, List.length_take]; rfl)) ?_; (with_reducible refine (strings_CutPrefix.calls a0 a1 t119 true _ A4.out).mono ?_); rintro e w' ⟨rfl, ⟨nd, rfl⟩⟩; refine ⟨_, rfl, ?_⟩) | ((with_reducible refine gate_callee (f := 24) rfl ?_); refine goesL_ (some 19) rfl rfl Tryd.func24 (by kernel_rfl) rfl #[.string t119, .string a2] rfl (by (try simp only [List.map_toArray, List.map_cons, List.map_nil]); first | done | rfl | (simp only [List.length_drop, List.length_take]; rfl)) ?_; (with_reducible refine (strings_CutSuffix.calls t119 a2 t121 t122 _ A5.out).mono ?_); rintro e w' ⟨rfl, ⟨nd, rfl⟩⟩; refine ⟨_, rfl, ?_⟩))
    go_ret2
    exact ⟨by first | rfl | (simp; done) | (simp [*]; done), by repeat (first | exact Drawn0.refl _ | apply Drawn0.step)⟩
  · replace c6 := Bool.eq_false_iff.mpr c6
    subst c6
    have H1 : (some (t121, false)) = some (r1, r2) := by rw [if_neg (show ¬ (false = true) by decide)] at H; exact H
    clear H
    have H := H1
    clear H1
    simp only [Option.some.injEq, Prod.mk.injEq] at H
    obtain ⟨rfl, rfl⟩ := H
    go_enter Tryd.func26, Tryd.ntmps26
    go_wp2_with (first | ((with_reducible refine gate_callee (f := 29) rfl ?_); refine goesL_ (some 13) rfl rfl Tryd.func29 (by kernel_rfl) rfl #[.string a0, .string a1] rfl (by (try simp only [List.map_toArray, List.map_cons, List.map_nil]); first | done | rfl | (simp only [List.length_drop, List.length_take]; rfl)) ?_; (with_reducible refine (strings_CutPrefix.calls a0 a1 t119 false _ A4.out).mono ?_); rintro e w' ⟨rfl, ⟨nd, rfl⟩⟩; refine ⟨_, rfl, ?_⟩) | ((with_reducible refine gate_callee (f := 24) rfl ?_); refine goesL_ (some 19) rfl rfl Tryd.func24 (by kernel_rfl) rfl #[.string t119, .string a2] rfl (by (try simp only [List.map_toArray, List.map_cons, List.map_nil]); first | done | rfl | (simp only [List.length_drop, List.length_take]; rfl)) ?_; (with_reducible refine (strings_CutSuffix.calls t119 a2 t121 t122 _ A5.out).mono ?_); rintro e w' ⟨rfl, ⟨nd, rfl⟩⟩; refine ⟨_, rfl, ?_⟩))
    go_ret2
    exact ⟨by first | rfl | (simp; done) | (simp [*]; done), by repeat (first | exact Drawn0.refl _ | apply Drawn0.step)⟩

/-! ### armor_even: function 27 -/
def armor_even.l0 : Nat → List ByteArray → List ByteArray → Int → Int → Option (Bool)
  | 0, _, _, _, _ => none
  | k + 1, x0, x5, x6, x7 => if x7 < x6 then (if 0 ≤ x7 then (if x7 < (x5.length : Int) then (if (wrap64 (x7 + 1)) < (x0.length : Int) then (if 0 < (x0.length : Int) then (if ((rdOf ByteArray.empty x5 x7).size : Int) = ((rdOf ByteArray.empty x0 0).size : Int) then (if ((rdOf ByteArray.empty x5 x7).size : Int) > ((rdOf ByteArray.empty x0 0).size : Int) then (some false) else ((armor_wide.f ((rdOf ByteArray.empty x5 x7).size : Int)).bind fun t126 => (if t126 = true then (armor_even.l0 k x0 x5 x6 (wrap64 (x7 + 1))) else (some false)))) else (some false)) else (none)) else (if 0 < (x0.length : Int) then (if ((rdOf ByteArray.empty x5 x7).size : Int) > ((rdOf ByteArray.empty x0 0).size : Int) then (some false) else ((armor_wide.f ((rdOf ByteArray.empty x5 x7).size : Int)).bind fun t128 => (if t128 = true then (armor_even.l0 k x0 x5 x6 (wrap64 (x7 + 1))) else (some false)))) else (none))) else (none)) else (none)) else (some true)
def armor_even.f (k : Nat) (l0 : List ByteArray) : Option (Bool) := armor_even.l0 k l0 l0 (l0.length : Int) 0
theorem armor_even.mono_l : ∀ k, (∀ y0 y1 y2 y3, LeO (armor_even.l0 k y0 y1 y2 y3) (armor_even.l0 (k + 1) y0 y1 y2 y3))
  | 0 => fun _ _ _ _ r h => by simp [armor_even.l0] at h
  | k + 1 => by
    have ih0 := armor_even.mono_l k
    · intro y0 y1 y2 y3
      unfold armor_even.l0
      repeat' first
      | (with_reducible exact ih0 _ _ _ _)
      | (with_reducible exact LeO.refl _)
      | (with_reducible exact LeO.none _)
      | (with_reducible refine LeO.ite ?_ ?_)
      | (with_reducible refine LeO.bind ?_ (fun _ => ?_))
      | exact ih0 _ _ _ _
      | exact LeO.none _
      | refine LeO.ite ?_ ?_
      | refine LeO.bind ?_ (fun _ => ?_)
theorem armor_even.mono : ∀ a0 k, LeO (armor_even.f k a0) (armor_even.f (k + 1) a0) := by
  intro a0 k
  have ih0 := armor_even.mono_l k
  unfold armor_even.f
  repeat' first
      | (with_reducible exact ih0 _ _ _ _)
      | (with_reducible exact LeO.refl _)
      | (with_reducible exact LeO.none _)
      | (with_reducible refine LeO.ite ?_ ?_)
      | (with_reducible refine LeO.bind ?_ (fun _ => ?_))
      | exact ih0 _ _ _ _
      | exact LeO.none _
      | refine LeO.ite ?_ ?_
      | refine LeO.bind ?_ (fun _ => ?_)
set_option maxHeartbeats 8000000 in
set_option maxRecDepth 100000 in
theorem armor_even.calls (k : Nat) (A0 : Option Addr) (c0 : Nat) (l0 : List ByteArray) (r : Bool) (w : World) (hr0 : Kd.C Kd.string w A0 l0.length l0) (hc0 : l0.length ≤ c0) (h : armor_even.f k l0 = some r) :
    Calls Tryd.prog 27 #[.slice A0 l0.length c0] w fun e w' => e = .returned (.bool r) ∧ Drawn0 w w' := by
  have HR0 := Aside0.mk hr0
  have HC0 := Aside0.mk hc0
  clear hr0 hc0
  have H : (armor_even.l0 k l0 l0 (l0.length : Int) 0) = some r := h
  clear h
  have H' := Aside0.mk H
  clear H
  go_enter Tryd.func27, Tryd.ntmps27
  go_wp2
  go_loopg [7] k (fun kq v7 w' => ∃ (x7_1 : Int), v7 = .int .i64 x7_1 ∧ Aside0 (armor_even.l0 kq l0 l0 (l0.length : Int) x7_1 = some r) ∧ Aside0 (kq ≤ k) ∧ Drawn0 w w')
  case atStart => exact ⟨(0), (by first | rfl | (simp; done) | (simp [*]; done)), H', ⟨Nat.le_refl _⟩, by repeat (first | exact Drawn0.refl _ | apply Drawn0.step)⟩
  case round =>
    clear H'
    obtain ⟨x7_1, rfl, HA, HK1, ⟨m1, rfl⟩⟩ := hrel
    cases gk with
    | zero => exact absurd HA.out (by simp [armor_even.l0])
    | succ k1 =>
      have H := HA.out
      clear HA
      simp only [armor_even.l0] at H
      by_cases c2 : x7_1 < (l0.length : Int)
      · rw [if_pos c2] at H
        have c2b0 : decide (x7_1 < (l0.length : Int)) = true := decide_eq_true c2
        clear c2
        by_cases c3 : 0 ≤ x7_1
        · rw [if_pos c3] at H
          have c3b0 : decide (0 ≤ x7_1) = true := decide_eq_true c3
          clear c3
          by_cases c4 : x7_1 < (l0.length : Int)
          · rw [if_pos c4] at H
            have c4b0 : decide (x7_1 < (l0.length : Int)) = true := decide_eq_true c4
            clear c4
            by_cases c5 : (wrap64 (x7_1 + 1)) < (l0.length : Int)
            · rw [if_pos c5] at H
              have c5b0 : decide ((wrap64 (x7_1 + 1)) < (l0.length : Int)) = true := decide_eq_true c5
              clear c5
              by_cases c6 : 0 < (l0.length : Int)
              · rw [if_pos c6] at H
                have c6b0 : decide (0 < (l0.length : Int)) = true := decide_eq_true c6
                have c6b1 : decide (0 < l0.length) = true := decide_eq_true (by omega)
                clear c6
                by_cases c7 : ((rdOf ByteArray.empty l0 x7_1).size : Int) = ((rdOf ByteArray.empty l0 0).size : Int)
                · rw [if_pos c7] at H
                  have c7b0 : (((rdOf ByteArray.empty l0 x7_1).size : Int) == ((rdOf ByteArray.empty l0 0).size : Int)) = true := beq_iff_eq.mpr c7
                  have c7b1 : (((rdOf ByteArray.empty l0 x7_1).size : Int) != ((rdOf ByteArray.empty l0 0).size : Int)) = false := bne_eq_false_iff_eq.mpr c7
                  have c7b2 : ((rdOf ByteArray.empty l0 x7_1).size == (rdOf ByteArray.empty l0 0).size) = true := by first | simpa using c7 | (simp at c7 ⊢; omega)
                  clear c7
                  by_cases c8 : ((rdOf ByteArray.empty l0 x7_1).size : Int) > ((rdOf ByteArray.empty l0 0).size : Int)
                  · rw [if_pos c8] at H
                    have c8b0 : decide (((rdOf ByteArray.empty l0 0).size : Int) < ((rdOf ByteArray.empty l0 x7_1).size : Int)) = true := decide_eq_true c8
                    have c8b1 : decide ((rdOf ByteArray.empty l0 0).size < (rdOf ByteArray.empty l0 x7_1).size) = true := decide_eq_true (Int.ofNat_lt.mp c8)
                    clear c8
                    obtain rfl := Option.some.inj H
                    simp only [Option.some.injEq, Prod.mk.injEq] at H
                    obtain ⟨rfl⟩ := H
                    have p123 : 0 ≤ (x7_1 : Int) := of_decide_eq_true (by first | (with_reducible assumption) | assumption)
                    have q123 : x7_1 < (l0.length : Int) := of_decide_eq_true (by first | (with_reducible assumption) | assumption)
                    obtain ⟨ad123, e123, hx123_0⟩ := Kd.at_string HR0.out x7_1 p123 q123
                    cases e123
                    replace p123 := eq_true p123
                    replace q123 := eq_true q123
                    have p124 : 0 ≤ (0 : Int) := (by omega)
                    have q124 : 0 < (l0.length : Int) := of_decide_eq_true (by first | (with_reducible assumption) | assumption)
                    obtain ⟨ad124, e124, hx124_0⟩ := Kd.at_string HR0.out 0 p124 q124
                    obtain rfl : ad123 = ad124 := (by injection e124)
                    have qi124 : (0 < l0.length) = True := eq_true (by omega)
                    (try rw [show ((0 : Int)).toNat = 0 from rfl] at hx124_0)
                    (try rw [Addr.add_zero'] at hx124_0)
                    replace p124 := eq_true p124
                    replace q124 := eq_true q124
                    have p125 : 0 ≤ (0 : Int) := (by omega)
                    have q125 : 0 < (l0.length : Int) := of_decide_eq_true (by first | (with_reducible assumption) | assumption)
                    obtain ⟨ad125, e125, hx125_0⟩ := Kd.at_string HR0.out 0 p125 q125
                    obtain rfl : ad123 = ad125 := (by injection e125)
                    have qi125 : (0 < l0.length) = True := eq_true (by omega)
                    (try rw [show ((0 : Int)).toNat = 0 from rfl] at hx125_0)
                    (try rw [Addr.add_zero'] at hx125_0)
                    replace p125 := eq_true p125
                    replace q125 := eq_true q125
                    go_wp2
                    go_ret
                    exact ⟨by first | rfl | (simp; done) | (simp [*]; done), by repeat (first | exact Drawn0.refl _ | apply Drawn0.step)⟩
                  · rw [if_neg c8] at H
                    have c8b0 : decide (((rdOf ByteArray.empty l0 0).size : Int) < ((rdOf ByteArray.empty l0 x7_1).size : Int)) = false := decide_eq_false c8
                    have c8b1 : decide ((rdOf ByteArray.empty l0 0).size < (rdOf ByteArray.empty l0 x7_1).size) = false := decide_eq_false (fun h => c8 (Int.ofNat_lt.mpr h))
                    clear c8
                    replace H := Option.bind_eq_some_iff.mp H
                    obtain ⟨t126, A90, H⟩ := H
                    replace H : (if t126 = true then (armor_even.l0 k1 l0 l0 (l0.length : Int) (wrap64 (x7_1 + 1))) else (some false)) = some r := H
                    have A9 := Aside0.mk A90
                    clear A90
                    by_cases c10 : t126 = true
                    · subst c10
                      have H1 : (armor_even.l0 k1 l0 l0 (l0.length : Int) (wrap64 (x7_1 + 1))) = some r := by rw [if_pos rfl] at H; exact H
                      clear H
                      have H := H1
                      clear H1
                      have H' := Aside0.mk H
                      clear H
                      have p123 : 0 ≤ (x7_1 : Int) := of_decide_eq_true (by first | (with_reducible assumption) | assumption)
                      have q123 : x7_1 < (l0.length : Int) := of_decide_eq_true (by first | (with_reducible assumption) | assumption)
                      obtain ⟨ad123, e123, hx123_0⟩ := Kd.at_string HR0.out x7_1 p123 q123
                      cases e123
                      replace p123 := eq_true p123
                      replace q123 := eq_true q123
                      have p124 : 0 ≤ (0 : Int) := (by omega)
                      have q124 : 0 < (l0.length : Int) := of_decide_eq_true (by first | (with_reducible assumption) | assumption)
                      obtain ⟨ad124, e124, hx124_0⟩ := Kd.at_string HR0.out 0 p124 q124
                      obtain rfl : ad123 = ad124 := (by injection e124)
                      have qi124 : (0 < l0.length) = True := eq_true (by omega)
                      (try rw [show ((0 : Int)).toNat = 0 from rfl] at hx124_0)
                      (try rw [Addr.add_zero'] at hx124_0)
                      replace p124 := eq_true p124
                      replace q124 := eq_true q124
                      have p125 : 0 ≤ (0 : Int) := (by omega)
                      have q125 : 0 < (l0.length : Int) := of_decide_eq_true (by first | (with_reducible assumption) | assumption)
                      obtain ⟨ad125, e125, hx125_0⟩ := Kd.at_string HR0.out 0 p125 q125
                      obtain rfl : ad123 = ad125 := (by injection e125)
                      have qi125 : (0 < l0.length) = True := eq_true (by omega)
                      (try rw [show ((0 : Int)).toNat = 0 from rfl] at hx125_0)
                      (try rw [Addr.add_zero'] at hx125_0)
                      replace p125 := eq_true p125
                      replace q125 := eq_true q125
                      go_wp2_with (first | (go_at_call 20; (with_reducible refine (armor_wide.calls ((rdOf ByteArray.empty l0 x7_1).size : Int) true _ A9.out).mono ?_); rintro e w' ⟨rfl, ⟨nd, rfl⟩⟩))
                      go_roundg k1
                      case measure => have := HK1.out; omega
                      case rel => exact ⟨(wrap64 (x7_1 + 1)), (by first | rfl | (simp; done) | (simp [*]; done)), H', ⟨by have := HK1.out; omega⟩, by repeat (first | exact Drawn0.refl _ | apply Drawn0.step)⟩
                    · replace c10 := Bool.eq_false_iff.mpr c10
                      subst c10
                      have H1 : (some false) = some r := by rw [if_neg (show ¬ (false = true) by decide)] at H; exact H
                      clear H
                      have H := H1
                      clear H1
                      obtain rfl := Option.some.inj H
                      simp only [Option.some.injEq, Prod.mk.injEq] at H
                      obtain ⟨rfl⟩ := H
                      have p123 : 0 ≤ (x7_1 : Int) := of_decide_eq_true (by first | (with_reducible assumption) | assumption)
                      have q123 : x7_1 < (l0.length : Int) := of_decide_eq_true (by first | (with_reducible assumption) | assumption)
                      obtain ⟨ad123, e123, hx123_0⟩ := Kd.at_string HR0.out x7_1 p123 q123
                      cases e123
                      replace p123 := eq_true p123
                      replace q123 := eq_true q123
                      have p124 : 0 ≤ (0 : Int) := (by omega)
                      have q124 : 0 < (l0.length : Int) := of_decide_eq_true (by first | (with_reducible assumption) | assumption)
                      obtain ⟨ad124, e124, hx124_0⟩ := Kd.at_string HR0.out 0 p124 q124
                      obtain rfl : ad123 = ad124 := (by injection e124)
                      have qi124 : (0 < l0.length) = True := eq_true (by omega)
                      (try rw [show ((0 : Int)).toNat = 0 from rfl] at hx124_0)
                      (try rw [Addr.add_zero'] at hx124_0)
                      replace p124 := eq_true p124
                      replace q124 := eq_true q124
                      have p125 : 0 ≤ (0 : Int) := (by omega)
                      have q125 : 0 < (l0.length : Int) := of_decide_eq_true (by first | (with_reducible assumption) | assumption)
                      obtain ⟨ad125, e125, hx125_0⟩ := Kd.at_string HR0.out 0 p125 q125
                      obtain rfl : ad123 = ad125 := (by injection e125)
                      have qi125 : (0 < l0.length) = True := eq_true (by omega)
                      (try rw [show ((0 : Int)).toNat = 0 from rfl] at hx125_0)
                      (try rw [Addr.add_zero'] at hx125_0)
                      replace p125 := eq_true p125
                      replace q125 := eq_true q125
                      go_wp2_with (first | (go_at_call 20; (with_reducible refine (armor_wide.calls ((rdOf ByteArray.empty l0 x7_1).size : Int) false _ A9.out).mono ?_); rintro e w' ⟨rfl, ⟨nd, rfl⟩⟩))
                      go_ret
                      exact ⟨by first | rfl | (simp; done) | (simp [*]; done), by repeat (first | exact Drawn0.refl _ | apply Drawn0.step)⟩
                · rw [if_neg c7] at H
                  have c7b0 : (((rdOf ByteArray.empty l0 x7_1).size : Int) == ((rdOf ByteArray.empty l0 0).size : Int)) = false := beq_eq_false_iff_ne.mpr c7
                  have c7b1 : (((rdOf ByteArray.empty l0 x7_1).size : Int) != ((rdOf ByteArray.empty l0 0).size : Int)) = true := bne_iff_ne.mpr c7
                  have c7b2 : ((rdOf ByteArray.empty l0 x7_1).size == (rdOf ByteArray.empty l0 0).size) = false := by first | simpa using c7 | (simp at c7 ⊢; omega)
                  obtain rfl := Option.some.inj H
                  simp only [Option.some.injEq, Prod.mk.injEq] at H
                  obtain ⟨rfl⟩ := H
                  have p123 : 0 ≤ (x7_1 : Int) := of_decide_eq_true (by first | (with_reducible assumption) | assumption)
                  have q123 : x7_1 < (l0.length : Int) := of_decide_eq_true (by first | (with_reducible assumption) | assumption)
                  obtain ⟨ad123, e123, hx123_0⟩ := Kd.at_string HR0.out x7_1 p123 q123
                  cases e123
                  replace p123 := eq_true p123
                  replace q123 := eq_true q123
                  have p124 : 0 ≤ (0 : Int) := (by omega)
                  have q124 : 0 < (l0.length : Int) := of_decide_eq_true (by first | (with_reducible assumption) | assumption)
                  obtain ⟨ad124, e124, hx124_0⟩ := Kd.at_string HR0.out 0 p124 q124
                  obtain rfl : ad123 = ad124 := (by injection e124)
                  have qi124 : (0 < l0.length) = True := eq_true (by omega)
                  (try rw [show ((0 : Int)).toNat = 0 from rfl] at hx124_0)
                  (try rw [Addr.add_zero'] at hx124_0)
                  replace p124 := eq_true p124
                  replace q124 := eq_true q124
                  go_wp2
                  go_ret
                  exact ⟨by first | rfl | (simp; done) | (simp [*]; done), by repeat (first | exact Drawn0.refl _ | apply Drawn0.step)⟩
              · rw [if_neg c6] at H
                exact absurd H (by simp)
            · rw [if_neg c5] at H
              have c5b0 : decide ((wrap64 (x7_1 + 1)) < (l0.length : Int)) = false := decide_eq_false c5
              clear c5
              by_cases c11 : 0 < (l0.length : Int)
              · rw [if_pos c11] at H
                have c11b0 : decide (0 < (l0.length : Int)) = true := decide_eq_true c11
                have c11b1 : decide (0 < l0.length) = true := decide_eq_true (by omega)
                clear c11
                by_cases c12 : ((rdOf ByteArray.empty l0 x7_1).size : Int) > ((rdOf ByteArray.empty l0 0).size : Int)
                · rw [if_pos c12] at H
                  have c12b0 : decide (((rdOf ByteArray.empty l0 0).size : Int) < ((rdOf ByteArray.empty l0 x7_1).size : Int)) = true := decide_eq_true c12
                  have c12b1 : decide ((rdOf ByteArray.empty l0 0).size < (rdOf ByteArray.empty l0 x7_1).size) = true := decide_eq_true (Int.ofNat_lt.mp c12)
                  clear c12
                  obtain rfl := Option.some.inj H
                  simp only [Option.some.injEq, Prod.mk.injEq] at H
                  obtain ⟨rfl⟩ := H
                  have p123 : 0 ≤ (x7_1 : Int) := of_decide_eq_true (by first | (with_reducible assumption) | assumption)
                  have q123 : x7_1 < (l0.length : Int) := of_decide_eq_true (by first | (with_reducible assumption) | assumption)
                  obtain ⟨ad123, e123, hx123_0⟩ := Kd.at_string HR0.out x7_1 p123 q123
                  cases e123
                  replace p123 := eq_true p123
                  replace q123 := eq_true q123
                  have p127 : 0 ≤ (0 : Int) := (by omega)
                  have q127 : 0 < (l0.length : Int) := of_decide_eq_true (by first | (with_reducible assumption) | assumption)
                  obtain ⟨ad127, e127, hx127_0⟩ := Kd.at_string HR0.out 0 p127 q127
                  obtain rfl : ad123 = ad127 := (by injection e127)
                  have qi127 : (0 < l0.length) = True := eq_true (by omega)
                  (try rw [show ((0 : Int)).toNat = 0 from rfl] at hx127_0)
                  (try rw [Addr.add_zero'] at hx127_0)
                  replace p127 := eq_true p127
                  replace q127 := eq_true q127
                  go_wp2
                  go_ret
                  exact ⟨by first | rfl | (simp; done) | (simp [*]; done), by repeat (first | exact Drawn0.refl _ | apply Drawn0.step)⟩
                · rw [if_neg c12] at H
                  have c12b0 : decide (((rdOf ByteArray.empty l0 0).size : Int) < ((rdOf ByteArray.empty l0 x7_1).size : Int)) = false := decide_eq_false c12
                  have c12b1 : decide ((rdOf ByteArray.empty l0 0).size < (rdOf ByteArray.empty l0 x7_1).size) = false := decide_eq_false (fun h => c12 (Int.ofNat_lt.mpr h))
                  clear c12
                  replace H := Option.bind_eq_some_iff.mp H
                  obtain ⟨t128, A130, H⟩ := H
                  replace H : (if t128 = true then (armor_even.l0 k1 l0 l0 (l0.length : Int) (wrap64 (x7_1 + 1))) else (some false)) = some r := H
                  have A13 := Aside0.mk A130
                  clear A130
                  by_cases c14 : t128 = true
                  · subst c14
                    have H1 : (armor_even.l0 k1 l0 l0 (l0.length : Int) (wrap64 (x7_1 + 1))) = some r := by rw [if_pos rfl] at H; exact H
                    clear H
                    have H := H1
                    clear H1
                    have H' := Aside0.mk H
                    clear H
                    have p123 : 0 ≤ (x7_1 : Int) := of_decide_eq_true (by first | (with_reducible assumption) | assumption)
                    have q123 : x7_1 < (l0.length : Int) := of_decide_eq_true (by first | (with_reducible assumption) | assumption)
                    obtain ⟨ad123, e123, hx123_0⟩ := Kd.at_string HR0.out x7_1 p123 q123
                    cases e123
                    replace p123 := eq_true p123
                    replace q123 := eq_true q123
                    have p127 : 0 ≤ (0 : Int) := (by omega)
                    have q127 : 0 < (l0.length : Int) := of_decide_eq_true (by first | (with_reducible assumption) | assumption)
                    obtain ⟨ad127, e127, hx127_0⟩ := Kd.at_string HR0.out 0 p127 q127
                    obtain rfl : ad123 = ad127 := (by injection e127)
                    have qi127 : (0 < l0.length) = True := eq_true (by omega)
                    (try rw [show ((0 : Int)).toNat = 0 from rfl] at hx127_0)
                    (try rw [Addr.add_zero'] at hx127_0)
                    replace p127 := eq_true p127
                    replace q127 := eq_true q127
                    go_wp2_with (first | (go_at_call 20; (with_reducible refine (armor_wide.calls ((rdOf ByteArray.empty l0 x7_1).size : Int) true _ A13.out).mono ?_); rintro e w' ⟨rfl, ⟨nd, rfl⟩⟩))
                    go_roundg k1
                    case measure => have := HK1.out; omega
                    case rel => exact ⟨(wrap64 (x7_1 + 1)), (by first | rfl | (simp; done) | (simp [*]; done)), H', ⟨by have := HK1.out; omega⟩, by repeat (first | exact Drawn0.refl _ | apply Drawn0.step)⟩
                  · replace c14 := Bool.eq_false_iff.mpr c14
                    subst c14
                    have H1 : (some false) = some r := by rw [if_neg (show ¬ (false = true) by decide)] at H; exact H
                    clear H
                    have H := H1
                    clear H1
                    obtain rfl := Option.some.inj H
                    simp only [Option.some.injEq, Prod.mk.injEq] at H
                    obtain ⟨rfl⟩ := H
                    have p123 : 0 ≤ (x7_1 : Int) := of_decide_eq_true (by first | (with_reducible assumption) | assumption)
                    have q123 : x7_1 < (l0.length : Int) := of_decide_eq_true (by first | (with_reducible assumption) | assumption)
                    obtain ⟨ad123, e123, hx123_0⟩ := Kd.at_string HR0.out x7_1 p123 q123
                    cases e123
                    replace p123 := eq_true p123
                    replace q123 := eq_true q123
                    have p127 : 0 ≤ (0 : Int) := (by omega)
                    have q127 : 0 < (l0.length : Int) := of_decide_eq_true (by first | (with_reducible assumption) | assumption)
                    obtain ⟨ad127, e127, hx127_0⟩ := Kd.at_string HR0.out 0 p127 q127
                    obtain rfl : ad123 = ad127 := (by injection e127)
                    have qi127 : (0 < l0.length) = True := eq_true (by omega)
                    (try rw [show ((0 : Int)).toNat = 0 from rfl] at hx127_0)
                    (try rw [Addr.add_zero'] at hx127_0)
                    replace p127 := eq_true p127
                    replace q127 := eq_true q127
                    go_wp2_with (first | (go_at_call 20; (with_reducible refine (armor_wide.calls ((rdOf ByteArray.empty l0 x7_1).size : Int) false _ A13.out).mono ?_); rintro e w' ⟨rfl, ⟨nd, rfl⟩⟩))
                    go_ret
                    exact ⟨by first | rfl | (simp; done) | (simp [*]; done), by repeat (first | exact Drawn0.refl _ | apply Drawn0.step)⟩
              · rw [if_neg c11] at H
                exact absurd H (by simp)
          · rw [if_neg c4] at H
            exact absurd H (by simp)
        · rw [if_neg c3] at H
          exact absurd H (by simp)
      · rw [if_neg c2] at H
        have c2b0 : decide (x7_1 < (l0.length : Int)) = false := decide_eq_false c2
        clear c2
        obtain rfl := Option.some.inj H
        simp only [Option.some.injEq, Prod.mk.injEq] at H
        obtain ⟨rfl⟩ := H
        go_wp2
        go_ret
        exact ⟨by first | rfl | (simp; done) | (simp [*]; done), by repeat (first | exact Drawn0.refl _ | apply Drawn0.step)⟩

/-! ### strings_Join: function 28 (its contract is typed by hand) -/

def strings_Join.f (l0 : List ByteArray) (a1 : ByteArray) : Option ByteArray := if l0.length ≤ 140737488355328 ∧ (Lib.join (l0.map (·.data.toList)) a1.data.toList).length ≤ 140737488355328 then some ⟨(Lib.join (l0.map (·.data.toList)) a1.data.toList).toArray⟩ else none
theorem strings_Join.calls (A0 : Option Addr) (c0 : Nat) (l0 : List ByteArray) (a1 : ByteArray) (r : ByteArray) (w : World) (hr0 : Kd.C Kd.string w A0 l0.length l0) (hc0 : l0.length ≤ c0) (h : strings_Join.f l0 a1 = some r) :
    Calls Tryd.prog 28 #[.slice A0 l0.length c0, .string a1] w fun e w' => e = .returned (.string r) ∧ Below w.heap.size w w' := by
  unfold strings_Join.f at h
  split at h
  · rename_i hb
    obtain rfl := Option.some.inj h
    cases l0 with
    | nil =>
      refine (Tryd.strings_Join_none A0 c0 a1 w).mono ?_
      rintro e w' ⟨he, rfl⟩
      exact ⟨he, Below.refl _ _⟩
    | cons x xs =>
      obtain ⟨ad, rfl, hcell⟩ := hr0.2.2 (by simp)
      have hat : ∀ (j : Nat) y, (x :: xs)[j]? = some y → w.cell? (ad.add j) = some (.string y) := by
        intro j y hj
        obtain ⟨c, hlen, hk, hc⟩ := hcell j y hj
        obtain rfl : c = [Value.string y] := hk
        have := hc 0 (.string y) rfl
        rw [show j * (Kd.string).sz + 0 = j from by show j * 1 + 0 = j; omega] at this
        exact this
      obtain ⟨bk, o, sp⟩ := ad
      have hsp : sp = none := by
        have h0 := hat 0 x rfl
        cases sp with
        | none => rfl
        | some q =>
          simp only [Addr.add, World.cell?] at h0
          split at h0 <;> simp_all
      subst hsp
      have hlt : bk < w.heap.size := by
        rcases Nat.lt_or_ge bk w.heap.size with h' | h'
        · exact h'
        · have h0 := hat 0 x rfl
          simp [Addr.add, World.cell?, Array.getElem?_eq_none h'] at h0
      exact Tryd.strings_Join bk o c0 (x :: xs) a1 w (fun j y hj => by
        have h1 := hat j y hj
        unfold Addr.add at h1
        by_cases h0 : j = 0
        · subst h0; simpa using h1
        · simpa [h0] using h1) hlt hb.1 hc0 hb.2
  · cases h

end Go.Proofs.YtdnahkeiidbihaaDoor.PArmor
