-- Written by wip/xprint of this repo (not trusted: Lean checks it).
import Derived.Test.YtlbkfnofnlioaaaDoorPGlobx0
import Derived.Test.YtlbkfnofnlioaaaDoorPGlobx3
namespace Go.Proofs.YtlbkfnofnlioaaaDoor.PGlob
open Go.RowKit Go.Proofs.YtlbkfnofnlioaaaDoorW.PrintWords Go.Proofs.YtlbkfnofnlioaaaDoorW.PrintLast Go.Proofs.YtlbkfnofnlioaaaDoorW.PrintMore
attribute [local go_sem] max2_int min2_int max_two min_two max_three min_three max_four min_four   -- for this text's walks alone
set_option linter.unusedVariables false
set_option linter.unusedSimpArgs false

/-! ### montageref37_Right: function 8 -/
mutual
def montageref37_Right.j0 : Nat → List ByteArray → Bool → Option (Bool)
  | 0, _, _ => none
  | k + 1, x3, x16 => if x16 = true then (some false) else (montageref37_Right.l0 k x3 0)
def montageref37_Right.l0 : Nat → List ByteArray → Int → Option (Bool)
  | 0, _, _ => none
  | k + 1, x3, x4 => if x4 < (x3.length : Int) then (if 0 ≤ x4 then ((montageref37_tokens.f k (rdOf ByteArray.empty x3 x4)).bind fun bt168 => (if (rdOf ByteArray.empty x3 x4).toList = ([42, 42] : List UInt8) then (montageref37_Right.l0 k x3 (wrap64 (x4 + 1))) else (if bt168.2 = true then (montageref37_Right.l0 k x3 (wrap64 (x4 + 1))) else (some false)))) else (none)) else (some true)
end
def montageref37_Right.f (k : Nat) (a0 : ByteArray) : Option (Bool) := (montageref13_Parts.f k a0).bind fun t164 => (if (t164.length : Int) < 1 then (montageref37_Right.j0 k t164 true) else (montageref37_Right.j0 k t164 (decide ((t164.length : Int) > 32))))
theorem montageref37_Right.mono_l : ∀ k, (∀ y0 y1, LeO (montageref37_Right.j0 k y0 y1) (montageref37_Right.j0 (k + 1) y0 y1)) ∧ (∀ y0 y1, LeO (montageref37_Right.l0 k y0 y1) (montageref37_Right.l0 (k + 1) y0 y1))
  | 0 => ⟨fun _ _ r h => by simp [montageref37_Right.j0] at h, fun _ _ r h => by simp [montageref37_Right.l0] at h⟩
  | k + 1 => by
    obtain ⟨ih0, ih1⟩ := montageref37_Right.mono_l k
    refine ⟨?_, ?_⟩
    · intro y0 y1
      unfold montageref37_Right.j0
      repeat' first
      | (with_reducible exact ih0 _ _)
      | (with_reducible exact ih1 _ _)
      | (with_reducible exact montageref13_Parts.mono _ _)
      | (with_reducible exact montageref37_tokens.mono _ _)
      | (with_reducible exact LeO.refl _)
      | (with_reducible exact LeO.none _)
      | (with_reducible refine LeO.ite ?_ ?_)
      | (with_reducible refine LeO.bind ?_ (fun _ => ?_))
      | exact ih0 _ _
      | exact ih1 _ _
      | exact montageref13_Parts.mono _ _
      | exact montageref37_tokens.mono _ _
      | exact LeO.none _
      | refine LeO.ite ?_ ?_
      | refine LeO.bind ?_ (fun _ => ?_)
    · intro y0 y1
      unfold montageref37_Right.l0
      repeat' first
      | (with_reducible exact ih0 _ _)
      | (with_reducible exact ih1 _ _)
      | (with_reducible exact montageref13_Parts.mono _ _)
      | (with_reducible exact montageref37_tokens.mono _ _)
      | (with_reducible exact LeO.refl _)
      | (with_reducible exact LeO.none _)
      | (with_reducible refine LeO.ite ?_ ?_)
      | (with_reducible refine LeO.bind ?_ (fun _ => ?_))
      | exact ih0 _ _
      | exact ih1 _ _
      | exact montageref13_Parts.mono _ _
      | exact montageref37_tokens.mono _ _
      | exact LeO.none _
      | refine LeO.ite ?_ ?_
      | refine LeO.bind ?_ (fun _ => ?_)
theorem montageref37_Right.mono : ∀ a0 k, LeO (montageref37_Right.f k a0) (montageref37_Right.f (k + 1) a0) := by
  intro a0 k
  obtain ⟨ih0, ih1⟩ := montageref37_Right.mono_l k
  unfold montageref37_Right.f
  repeat' first
      | (with_reducible exact ih0 _ _)
      | (with_reducible exact ih1 _ _)
      | (with_reducible exact montageref13_Parts.mono _ _)
      | (with_reducible exact montageref37_tokens.mono _ _)
      | (with_reducible exact LeO.refl _)
      | (with_reducible exact LeO.none _)
      | (with_reducible refine LeO.ite ?_ ?_)
      | (with_reducible refine LeO.bind ?_ (fun _ => ?_))
      | exact ih0 _ _
      | exact ih1 _ _
      | exact montageref13_Parts.mono _ _
      | exact montageref37_tokens.mono _ _
      | exact LeO.none _
      | refine LeO.ite ?_ ?_
      | refine LeO.bind ?_ (fun _ => ?_)
set_option maxHeartbeats 8000000 in
set_option maxRecDepth 100000 in
theorem montageref37_Right.calls (k : Nat) (a0 : ByteArray) (r : Bool) (w : World) (h : montageref37_Right.f k a0 = some r) :
    Calls Tryd.prog 8 #[.string a0] w fun e w' => e = .returned (.bool r) ∧ Below w.heap.size w w' := by
  have HB := Aside0.mk (Below.refl w.heap.size w)
  have H : ((montageref13_Parts.f k a0).bind fun t164 => (if (t164.length : Int) < 1 then (montageref37_Right.j0 k t164 true) else (montageref37_Right.j0 k t164 (decide ((t164.length : Int) > 32))))) = some r := h
  clear h
  replace H := Option.bind_eq_some_iff.mp H
  obtain ⟨t164, A20, H⟩ := H
  replace H : (if (t164.length : Int) < 1 then (montageref37_Right.j0 k t164 true) else (montageref37_Right.j0 k t164 (decide ((t164.length : Int) > 32)))) = some r := H
  have A2 := Aside0.mk A20
  clear A20
  have HC3 := Aside0.mk H
  clear H
  go_enter Tryd.func8, Tryd.ntmps8
  go_upto_region 2 with (first | ((with_reducible refine gate_callee (f := 17) rfl ?_); refine goesL_ (some 8) rfl rfl Tryd.func17 (by kernel_rfl) rfl #[.string a0] rfl (by (try simp only [List.map_toArray, List.map_cons, List.map_nil]); first | done | rfl | (simp only [List.length_drop, List.length_take]; rfl)) ?_; (with_reducible refine (montageref13_Parts.calls k a0 t164 _ A2.out).mono ?_); rintro e w4 ⟨v165, rfl, ho0, hb⟩; refine ⟨_, rfl, ?_⟩; have n0_ := Aside0.mk (Kd.R_lower ho0 (below_size (by repeat (first | (with_reducible first | exact HB.out | apply below_alloc | apply pw_below_drewN | apply below_drew1) | exact HB.out)))); have n1_ := Aside0.mk (below_step (by repeat (first | (with_reducible first | exact HB.out | apply below_alloc | apply pw_below_drewN | apply below_drew1) | exact HB.out)) hb); clear HB; have HO166 := n0_; have HB := n1_; clear n0_ n1_; (try clear hb); (try clear hb2); (try clear hk); (try clear hi); (try clear ho0)))
  (try simp only [Act.put, List.setIfInBounds_toArray, List.set_cons_zero, List.set_cons_succ])
  go_cut [16] (fun v16 wc => ∃ (kq : Nat) (x16_2 : Bool), v16 = .bool x16_2 ∧ Aside0 (montageref37_Right.j0 kq t164 x16_2 = some r) ∧ Aside0 (kq ≤ k) ∧ Aside0 (Kd.R Kd.string 9 wc w.heap.size (fun _ => True) v165 t164) ∧ Aside0 (Below w.heap.size w wc))
  case first =>
    have H := HC3.out
    clear HC3
    by_cases c5 : (t164.length : Int) < 1
    · rw [if_pos c5] at H
      have c5b0 : decide ((t164.length : Int) < 1) = true := decide_eq_true c5
      have c5b1 : decide (t164.length < 1) = true := decide_eq_true (by omega)
      clear c5
      (first | rw [c5b0] | (simp only [i64_w, i32_w]; rw [c5b0]) | skip)
      have H' := Aside0.mk H
      clear H
      obtain ⟨Ao6, co6, eo6⟩ := Kd.R_slice HO166.out
      subst eo6
      go_wp2
      go_meet
      case rel => exact ⟨_, (true), (by first | rfl | (simp; done) | (simp [*]; done)), H', ⟨by first | omega | exact Nat.le_refl _⟩, ⟨by (with_reducible repeat (first | apply Kd.R_alloc | apply Kd.R_drewN | apply Kd.R_drew)); exact HO166.out⟩, ⟨by repeat (first | (with_reducible first | exact HB.out | apply below_alloc | apply pw_below_drewN | apply below_drew1) | exact HB.out)⟩⟩
    · rw [if_neg c5] at H
      have c5b0 : decide ((t164.length : Int) < 1) = false := decide_eq_false c5
      have c5b1 : decide (t164.length < 1) = false := decide_eq_false (by omega)
      clear c5
      (first | rw [c5b0] | (simp only [i64_w, i32_w]; rw [c5b0]) | skip)
      have H' := Aside0.mk H
      clear H
      obtain ⟨Ao7, co7, eo7⟩ := Kd.R_slice HO166.out
      subst eo7
      go_wp2
      go_meet
      case rel => exact ⟨_, (decide ((t164.length : Int) > 32)), (by first | rfl | (simp; done) | (simp [*]; done)), H', ⟨by first | omega | exact Nat.le_refl _⟩, ⟨by (with_reducible repeat (first | apply Kd.R_alloc | apply Kd.R_drewN | apply Kd.R_drew)); exact HO166.out⟩, ⟨by repeat (first | (with_reducible first | exact HB.out | apply below_alloc | apply pw_below_drewN | apply below_drew1) | exact HB.out)⟩⟩
  case rest =>
    clear HC3
    try clear c1
    try clear p2
    try clear c5
    try clear c5b0
    try clear c5b1
    obtain ⟨kq, x16_2, rfl, HA, HJ2, HO_3, HB⟩ := hcut
    cases kq with
    | zero => exact absurd HA.out (by simp [montageref37_Right.j0])
    | succ kj2 =>
      have H := HA.out
      clear HA
      simp only [montageref37_Right.j0] at H
      by_cases c8 : x16_2 = true
      · subst c8
        have H1 : (some false) = some r := by rw [if_pos rfl] at H; exact H
        clear H
        have H := H1
        clear H1
        obtain rfl := Option.some.inj H
        go_wp2
        go_ret
        exact ⟨by first | rfl | (simp [errW_none, errW_some] <;> rfl) | (simp [*, errW_none, errW_some] <;> rfl), by repeat (first | (with_reducible first | exact HB.out | apply below_alloc | apply pw_below_drewN | apply below_drew1) | exact HB.out)⟩
      · replace c8 := Bool.eq_false_iff.mpr c8
        subst c8
        have H1 : (montageref37_Right.l0 kj2 t164 0) = some r := by rw [if_neg (show ¬ (false = true) by decide)] at H; exact H
        clear H
        have H := H1
        clear H1
        have H' := Aside0.mk H
        clear H
        go_wp2
        go_loopg [4] kj2 (fun kq v4 w' => ∃ (x4_2 : Int), v4 = .int .i64 x4_2 ∧ Aside0 (montageref37_Right.l0 kq t164 x4_2 = some r) ∧ Aside0 (kq ≤ kj2) ∧ Aside0 (Kd.R Kd.string 9 w' w.heap.size (fun _ => True) v165 t164) ∧ Aside0 (Below w.heap.size w w'))
        case atStart => exact ⟨(0), (by first | rfl | (simp; done) | (simp [*]; done)), H', ⟨Nat.le_refl _⟩, ⟨by (with_reducible repeat (first | apply Kd.R_alloc | apply Kd.R_drewN | apply Kd.R_drew)); exact HO_3.out⟩, ⟨by repeat (first | (with_reducible first | exact HB.out | apply below_alloc | apply pw_below_drewN | apply below_drew1) | exact HB.out)⟩⟩
        case round =>
          clear H'
          try clear c1
          try clear p2
          try clear c5
          try clear c5b0
          try clear c5b1
          try clear c8
          try clear p2
          obtain ⟨x4_2, rfl, HA, HK2, HO_3, HB⟩ := hrel
          cases gk with
          | zero => exact absurd HA.out (by simp [montageref37_Right.l0])
          | succ k2 =>
            have H := HA.out
            clear HA
            simp only [montageref37_Right.l0] at H
            by_cases c9 : x4_2 < (t164.length : Int)
            · rw [if_pos c9] at H
              have c9b0 : decide (x4_2 < (t164.length : Int)) = true := decide_eq_true c9
              clear c9
              by_cases c10 : 0 ≤ x4_2
              · rw [if_pos c10] at H
                have c10b0 : decide (0 ≤ x4_2) = true := decide_eq_true c10
                clear c10
                replace H := Option.bind_eq_some_iff.mp H
                obtain ⟨⟨t168, t169⟩, A110, H⟩ := H
                replace H : (if (rdOf ByteArray.empty t164 x4_2).toList = ([42, 42] : List UInt8) then (montageref37_Right.l0 k2 t164 (wrap64 (x4_2 + 1))) else (if t169 = true then (montageref37_Right.l0 k2 t164 (wrap64 (x4_2 + 1))) else (some false))) = some r := H
                have A11 := Aside0.mk A110
                clear A110
                by_cases c12 : (rdOf ByteArray.empty t164 x4_2).toList = ([42, 42] : List UInt8)
                · rw [if_pos c12] at H
                  have c12b0 : ((rdOf ByteArray.empty t164 x4_2).toList == ([42, 42] : List UInt8)) = true := beq_iff_eq.mpr c12
                  have c12b1 : ((rdOf ByteArray.empty t164 x4_2).toList != ([42, 42] : List UInt8)) = false := bne_eq_false_iff_eq.mpr c12
                  clear c12
                  have H' := Aside0.mk H
                  clear H
                  obtain ⟨Ao13, co13, eo13⟩ := Kd.R_slice HO_3.out
                  subst eo13
                  have p167 : 0 ≤ (x4_2 : Int) := of_decide_eq_true (by first | (with_reducible assumption) | assumption)
                  have q167 : x4_2 < (t164.length : Int) := of_decide_eq_true (by first | (with_reducible assumption) | assumption)
                  obtain ⟨ad167, e167, hx167_0⟩ := Kd.at_string (Kd.R_reads' HO_3.out).2.2 x4_2 p167 q167
                  cases e167
                  replace p167 := eq_true p167
                  replace q167 := eq_true q167
                  go_wp2_with (first | ((with_reducible refine gate_callee (f := 18) rfl ?_); refine goesL_ (some 28) rfl rfl Tryd.func18 (by kernel_rfl) rfl #[.string (rdOf ByteArray.empty t164 x4_2)] rfl (by (try simp only [List.map_toArray, List.map_cons, List.map_nil]); first | done | rfl | (simp only [List.length_drop, List.length_take]; rfl)) ?_; (with_reducible refine (montageref37_tokens.calls k2 (rdOf ByteArray.empty t164 x4_2) t168 t169 _ A11.out).mono ?_); rintro e w14 ⟨v170, rfl, ho0, hb⟩; refine ⟨_, rfl, ?_⟩; have n0_ := Aside0.mk (Kd.R_below (by (with_reducible repeat (first | apply Kd.R_alloc | apply Kd.R_drewN | apply Kd.R_drew)); exact HO_3.out) hb); have n1_ := Aside0.mk (Kd.R_lower ho0 (below_size (by repeat (first | (with_reducible first | exact HB.out | apply below_alloc | apply pw_below_drewN | apply below_drew1) | exact HB.out)))); have n2_ := Aside0.mk (below_step (by repeat (first | (with_reducible first | exact HB.out | apply below_alloc | apply pw_below_drewN | apply below_drew1) | exact HB.out)) hb); clear HO_3; clear HB; have HO_3 := n0_; have HO171 := n1_; have HB := n2_; clear n0_ n1_ n2_; (try clear hb); (try clear hb2); (try clear hk); (try clear hi); (try clear ho0); have p172 : 0 ≤ (x4_2 : Int) := of_decide_eq_true (by first | (with_reducible assumption) | assumption); have q172 : x4_2 < (t164.length : Int) := of_decide_eq_true (by first | (with_reducible assumption) | assumption); obtain ⟨ad172, e172, hx172_0⟩ := Kd.at_string (Kd.R_reads' HO_3.out).2.2 x4_2 p172 q172; obtain rfl : ad167 = ad172 := (by injection e172); replace p172 := eq_true p172; replace q172 := eq_true q172))
                  go_roundg k2
                  case measure => have := HJ2.out; have := HK2.out; omega
                  case rel => exact ⟨(wrap64 (x4_2 + 1)), (by first | rfl | (simp; done) | (simp [*]; done)), H', ⟨by have := HJ2.out; have := HK2.out; omega⟩, ⟨by (with_reducible repeat (first | apply Kd.R_alloc | apply Kd.R_drewN | apply Kd.R_drew)); exact HO_3.out⟩, ⟨by repeat (first | (with_reducible first | exact HB.out | apply below_alloc | apply pw_below_drewN | apply below_drew1) | exact HB.out)⟩⟩
                · rw [if_neg c12] at H
                  have c12b0 : ((rdOf ByteArray.empty t164 x4_2).toList == ([42, 42] : List UInt8)) = false := beq_eq_false_iff_ne.mpr c12
                  have c12b1 : ((rdOf ByteArray.empty t164 x4_2).toList != ([42, 42] : List UInt8)) = true := bne_iff_ne.mpr c12
                  by_cases c15 : t169 = true
                  · subst c15
                    have H1 : (montageref37_Right.l0 k2 t164 (wrap64 (x4_2 + 1))) = some r := by rw [if_pos rfl] at H; exact H
                    clear H
                    have H := H1
                    clear H1
                    have H' := Aside0.mk H
                    clear H
                    obtain ⟨Ao16, co16, eo16⟩ := Kd.R_slice HO_3.out
                    subst eo16
                    have p167 : 0 ≤ (x4_2 : Int) := of_decide_eq_true (by first | (with_reducible assumption) | assumption)
                    have q167 : x4_2 < (t164.length : Int) := of_decide_eq_true (by first | (with_reducible assumption) | assumption)
                    obtain ⟨ad167, e167, hx167_0⟩ := Kd.at_string (Kd.R_reads' HO_3.out).2.2 x4_2 p167 q167
                    cases e167
                    replace p167 := eq_true p167
                    replace q167 := eq_true q167
                    go_wp2_with (first | ((with_reducible refine gate_callee (f := 18) rfl ?_); refine goesL_ (some 28) rfl rfl Tryd.func18 (by kernel_rfl) rfl #[.string (rdOf ByteArray.empty t164 x4_2)] rfl (by (try simp only [List.map_toArray, List.map_cons, List.map_nil]); first | done | rfl | (simp only [List.length_drop, List.length_take]; rfl)) ?_; (with_reducible refine (montageref37_tokens.calls k2 (rdOf ByteArray.empty t164 x4_2) t168 true _ A11.out).mono ?_); rintro e w17 ⟨v170, rfl, ho0, hb⟩; refine ⟨_, rfl, ?_⟩; have n0_ := Aside0.mk (Kd.R_below (by (with_reducible repeat (first | apply Kd.R_alloc | apply Kd.R_drewN | apply Kd.R_drew)); exact HO_3.out) hb); have n1_ := Aside0.mk (Kd.R_lower ho0 (below_size (by repeat (first | (with_reducible first | exact HB.out | apply below_alloc | apply pw_below_drewN | apply below_drew1) | exact HB.out)))); have n2_ := Aside0.mk (below_step (by repeat (first | (with_reducible first | exact HB.out | apply below_alloc | apply pw_below_drewN | apply below_drew1) | exact HB.out)) hb); clear HO_3; clear HB; have HO_3 := n0_; have HO171 := n1_; have HB := n2_; clear n0_ n1_ n2_; (try clear hb); (try clear hb2); (try clear hk); (try clear hi); (try clear ho0); have p172 : 0 ≤ (x4_2 : Int) := of_decide_eq_true (by first | (with_reducible assumption) | assumption); have q172 : x4_2 < (t164.length : Int) := of_decide_eq_true (by first | (with_reducible assumption) | assumption); obtain ⟨ad172, e172, hx172_0⟩ := Kd.at_string (Kd.R_reads' HO_3.out).2.2 x4_2 p172 q172; obtain rfl : ad167 = ad172 := (by injection e172); replace p172 := eq_true p172; replace q172 := eq_true q172))
                    go_roundg k2
                    case measure => have := HJ2.out; have := HK2.out; omega
                    case rel => exact ⟨(wrap64 (x4_2 + 1)), (by first | rfl | (simp; done) | (simp [*]; done)), H', ⟨by have := HJ2.out; have := HK2.out; omega⟩, ⟨by (with_reducible repeat (first | apply Kd.R_alloc | apply Kd.R_drewN | apply Kd.R_drew)); exact HO_3.out⟩, ⟨by repeat (first | (with_reducible first | exact HB.out | apply below_alloc | apply pw_below_drewN | apply below_drew1) | exact HB.out)⟩⟩
                  · replace c15 := Bool.eq_false_iff.mpr c15
                    subst c15
                    have H1 : (some false) = some r := by rw [if_neg (show ¬ (false = true) by decide)] at H; exact H
                    clear H
                    have H := H1
                    clear H1
                    obtain rfl := Option.some.inj H
                    obtain ⟨Ao18, co18, eo18⟩ := Kd.R_slice HO_3.out
                    subst eo18
                    have p167 : 0 ≤ (x4_2 : Int) := of_decide_eq_true (by first | (with_reducible assumption) | assumption)
                    have q167 : x4_2 < (t164.length : Int) := of_decide_eq_true (by first | (with_reducible assumption) | assumption)
                    obtain ⟨ad167, e167, hx167_0⟩ := Kd.at_string (Kd.R_reads' HO_3.out).2.2 x4_2 p167 q167
                    cases e167
                    replace p167 := eq_true p167
                    replace q167 := eq_true q167
                    go_wp2_with (first | ((with_reducible refine gate_callee (f := 18) rfl ?_); refine goesL_ (some 28) rfl rfl Tryd.func18 (by kernel_rfl) rfl #[.string (rdOf ByteArray.empty t164 x4_2)] rfl (by (try simp only [List.map_toArray, List.map_cons, List.map_nil]); first | done | rfl | (simp only [List.length_drop, List.length_take]; rfl)) ?_; (with_reducible refine (montageref37_tokens.calls k2 (rdOf ByteArray.empty t164 x4_2) t168 false _ A11.out).mono ?_); rintro e w19 ⟨v170, rfl, ho0, hb⟩; refine ⟨_, rfl, ?_⟩; have n0_ := Aside0.mk (Kd.R_below (by (with_reducible repeat (first | apply Kd.R_alloc | apply Kd.R_drewN | apply Kd.R_drew)); exact HO_3.out) hb); have n1_ := Aside0.mk (Kd.R_lower ho0 (below_size (by repeat (first | (with_reducible first | exact HB.out | apply below_alloc | apply pw_below_drewN | apply below_drew1) | exact HB.out)))); have n2_ := Aside0.mk (below_step (by repeat (first | (with_reducible first | exact HB.out | apply below_alloc | apply pw_below_drewN | apply below_drew1) | exact HB.out)) hb); clear HO_3; clear HB; have HO_3 := n0_; have HO171 := n1_; have HB := n2_; clear n0_ n1_ n2_; (try clear hb); (try clear hb2); (try clear hk); (try clear hi); (try clear ho0); have p172 : 0 ≤ (x4_2 : Int) := of_decide_eq_true (by first | (with_reducible assumption) | assumption); have q172 : x4_2 < (t164.length : Int) := of_decide_eq_true (by first | (with_reducible assumption) | assumption); obtain ⟨ad172, e172, hx172_0⟩ := Kd.at_string (Kd.R_reads' HO_3.out).2.2 x4_2 p172 q172; obtain rfl : ad167 = ad172 := (by injection e172); replace p172 := eq_true p172; replace q172 := eq_true q172))
                    go_ret
                    exact ⟨by first | rfl | (simp [errW_none, errW_some] <;> rfl) | (simp [*, errW_none, errW_some] <;> rfl), by repeat (first | (with_reducible first | exact HB.out | apply below_alloc | apply pw_below_drewN | apply below_drew1) | exact HB.out)⟩
              · rw [if_neg c10] at H
                exact absurd H (by simp)
            · rw [if_neg c9] at H
              have c9b0 : decide (x4_2 < (t164.length : Int)) = false := decide_eq_false c9
              clear c9
              obtain rfl := Option.some.inj H
              obtain ⟨Ao20, co20, eo20⟩ := Kd.R_slice HO_3.out
              subst eo20
              go_wp2
              go_ret
              exact ⟨by first | rfl | (simp [errW_none, errW_some] <;> rfl) | (simp [*, errW_none, errW_some] <;> rfl), by repeat (first | (with_reducible first | exact HB.out | apply below_alloc | apply pw_below_drewN | apply below_drew1) | exact HB.out)⟩

/-! ### montageref37_fit: function 23 (its contract is typed by hand) -/
/-- Bools from place k on, c of them, set. -/
def setR (xs : List Bool) (k : Nat) : Nat → List Bool
  | 0 => xs
  | c + 1 => (setR xs k c).set (k + c) true
/-- One row of the table: what k first bytes may fit, out of the row before. -/
def dpRow (m : Nat) (star : Bool) (hit : Nat → Bool) (can : List Bool) : Nat → List Bool
  | 0 => List.replicate (m + 1) false
  | k + 1 => if can.getD k false = true then (if star = true then setR (dpRow m star hit can k) k (m + 1 - k) else if k < m then (if hit k = true then (dpRow m star hit can k).set (k + 1) true else dpRow m star hit can k) else dpRow m star hit can k) else dpRow m star hit can k
def dpTab (m : Nat) (star : Nat → Bool) (hit : Nat → Nat → Bool) : Nat → List Bool
  | 0 => (List.replicate (m + 1) false).set 0 true
  | i + 1 => dpRow m (star i) (hit i) (dpTab m star hit i) (m + 1)
theorem setR_length (xs : List Bool) (k : Nat) : ∀ c, (setR xs k c).length = xs.length
  | 0 => rfl
  | c + 1 => by simp [setR, setR_length xs k c]
theorem dpRow_length (m : Nat) (star : Bool) (hit : Nat → Bool) (can : List Bool) : ∀ k, (dpRow m star hit can k).length = m + 1
  | 0 => by simp [dpRow]
  | k + 1 => by
    have ih := dpRow_length m star hit can k
    unfold dpRow
    repeat' split
    all_goals simp [setR_length, ih]
theorem dpTab_length (m : Nat) (star : Nat → Bool) (hit : Nat → Nat → Bool) : ∀ i, (dpTab m star hit i).length = m + 1
  | 0 => by simp [dpTab]
  | i + 1 => dpRow_length _ _ _ _ _
/-- Block g is a row of these bools. -/
structure BR (w : World) (g : Nat) (xs : List Bool) : Prop where
  heap : w.heap[g]? = some (.cells (xs.map Value.bool).toArray 4 (0, 0))
theorem BR.cell {w : World} {g : Nat} {xs : List Bool} (h : BR w g xs) (j : Nat) (hj : j < xs.length) : w.cell? ⟨g, j, none⟩ = some (.bool (xs.getD j false)) := by
  rw [Lib.cell_of_heap h.heap]
  simp [hj]
theorem BR.frozen {w : World} {g : Nat} {xs : List Bool} (h : BR w g xs) (j : Nat) : w.frozen? ⟨g, j, none⟩ = false := Lib.frozen_of_heap h.heap j
theorem BR.set {w : World} {g : Nat} {xs : List Bool} (h : BR w g xs) (j : Nat) (b : Bool) : BR (w.setCell ⟨g, j, none⟩ (.bool b)) g (xs.set j b) := by
  refine ⟨?_⟩
  simp [World.setCell, Array.getElem?_modify, h.heap, List.map_set]
theorem BR.other {w : World} {g : Nat} {xs : List Bool} (h : BR w g xs) (a : Addr) (u : Value) (hne : g ≠ a.block) : BR (w.setCell a u) g xs := ⟨by rw [Below.heap_setCell _ _ _ _ hne]; exact h.heap⟩
theorem BR.lt {w : World} {g : Nat} {xs : List Bool} (h : BR w g xs) : g < w.heap.size := by
  rcases Nat.lt_or_ge g w.heap.size with h' | h'
  · exact h'
  · have := h.heap; simp [Array.getElem?_eq_none h'] at this
theorem BR.grown {w w1 : World} {g : Nat} {xs : List Bool} (h : BR w g xs) (hg : w.grownBy w1 none) : BR w1 g xs := ⟨(hg.block g h.lt (by simp)).trans h.heap⟩
theorem BR.drewN {w : World} {g : Nat} {xs : List Bool} (h : BR w g xs) (n : Nat) : BR (w.drewN n) g xs := ⟨h.heap⟩
theorem BR.made {w : World} {base g N : Nat} (h : w.ownsRow base 4 1 (.slice (some ⟨g, 0, none⟩) N N) N (madeCells (Value.bool false).cells (N * 1)).toList) : BR w g (List.replicate N false) := by
  refine ⟨?_⟩
  rcases h.2 with ⟨h1, _⟩ | ⟨g', cap, cur, h1, _, hh, _, _, hs, ht⟩
  · cases h1
  · injection h1 with h1 h2 h3
    injection h1 with h1
    injection h1 with h1
    subst h1 h3
    rw [hh]
    have hl : cur.toList.length = N := by simpa using hs
    have ht2 : cur.toList = (madeCells (Value.bool false).cells (N * 1)).toList := by rw [← ht]; exact (List.take_of_length_le (by rw [hl]; omega)).symm
    have hcur : cur = ((List.replicate N false).map Value.bool).toArray := by
      apply Array.toList_inj.1
      rw [ht2]
      apply List.ext_getElem
      · simp [madeCells]
      · intro j h1 h2
        simp [madeCells, Value.cells, Nat.mod_one]
    rw [hcur]
def montageref37_fit.f (l0 : List Int) (a1 : ByteArray) : Option (Bool) := if l0.length ≤ 1099511627776 ∧ a1.size ≤ 1099511627776 then some ((dpTab a1.size (fun i => rd l0 i == 257) (fun i k => rd l0 i == 256 || rd l0 i == bt a1 k) l0.length).getD a1.size false) else none
set_option maxHeartbeats 2000000 in
set_option maxRecDepth 100000 in
theorem montageref37_fit.calls (A0 : Option Addr) (c0 : Nat) (l0 : List Int) (a1 : ByteArray) (r : Bool) (w : World) (hr0 : Kd.C (Kd.int .i64) w A0 l0.length l0) (hc0 : l0.length ≤ c0) (h : montageref37_fit.f l0 a1 = some r) :
    Calls Tryd.prog 23 #[.slice A0 l0.length c0, .string a1] w fun e w' => e = .returned (.bool r) ∧ Below w.heap.size w w' := by
  unfold montageref37_fit.f at h
  split at h
  case isFalse => cases h
  case isTrue hb =>
  obtain ⟨hl, hs⟩ := hb
  have HR := Aside0.mk (Option.some.inj h)
  clear h
  have HC := Aside0.mk hr0
  clear hr0
  obtain ⟨star, hstar⟩ : ∃ f : Nat → Bool, f = (fun i : Nat => rd l0 i == 257) := ⟨_, rfl⟩
  obtain ⟨hit, hhit⟩ : ∃ f : Nat → Nat → Bool, f = (fun (i k : Nat) => rd l0 i == 256 || rd l0 i == bt a1 k) := ⟨_, rfl⟩
  have HST := Aside0.mk hstar
  have HHT := Aside0.mk hhit
  rw [← hstar, ← hhit] at HR
  clear hstar hhit
  have HT := Aside0.mk (dpTab_length a1.size star hit)
  obtain ⟨i0, hi, hz0, hz1, hz2⟩ := info_parts info4
  have e1 : IntKind.i64.wrap ((a1.size : Int) + 1) = (a1.size : Int) + 1 := IntWalk.i64_in _ (by omega)
  go_enter Tryd.func23, Tryd.ntmps23
  go_wp2_with (refine wpList_make_full _ rfl _ _ 41 rfl w.heap.size 4 i0 (.bool false) 1 Tryd.underlying41 hi hz0 hz1 .i64 .i64 _ _ (a1.size + 1) rfl rfl (by omega) (by omega) (by rw [hz2]; omega) (by unfold maxLen; omega) (Nat.le_refl _) ?_; intro w1 ho1 hg1; have HB1 := Aside0.mk ((Below.refl _ w).grown hg1 (Nat.le_refl _) (fun k hk => by cases hk)); have HBR := Aside0.mk (BR.made ho1); have k0 := HBR.out.cell 0 (by simp); have f0 := HBR.out.frozen 0; clear ho1 hg1)
  clear k0 f0
  go_loopg [5, 6] l0.length (fun gg s5 s6 wr => ∃ (i g5 : Nat), s5 = .slice (some ⟨g5, 0, none⟩) (a1.size + 1) (a1.size + 1) ∧ s6 = .int .i64 i ∧ i ≤ l0.length ∧ l0.length - i ≤ gg ∧ w.heap.size ≤ g5 ∧ Aside0 (BR wr g5 (dpTab a1.size star hit i)) ∧ Aside0 (Below w.heap.size w wr))
  case atStart => exact ⟨0, w.heap.size, rfl, rfl, Nat.zero_le _, by omega, Nat.le_refl _, ⟨HBR.out.set 0 true⟩, ⟨HB1.out.setCell (p := ⟨w.heap.size, 0, none⟩) (Nat.le_refl _) _⟩⟩
  case round =>
    obtain ⟨i, g5, rfl, rfl, hil, hg, hg5, HBR5, HB⟩ := hrel
    by_cases hlt : i < l0.length
    · have hltI : (i : Int) < (l0.length : Int) := by omega
      obtain ⟨wo, rfl⟩ : ∃ wo : World, wo = wr := ⟨_, rfl⟩
      go_wp2_with (refine wpList_make_full _ rfl _ _ 41 rfl wo.heap.size 4 i0 (.bool false) 1 Tryd.underlying41 hi hz0 hz1 .i64 .i64 _ _ (a1.size + 1) rfl rfl (by omega) (by omega) (by rw [hz2]; omega) (by unfold maxLen; omega) (Nat.le_refl _) ?_; intro w2 ho2 hg2; have HB2 := Aside0.mk (HB.out.grown hg2 HB.out.size (fun k hk => by cases hk)); have HBR7 := Aside0.mk (BR.made ho2); have HBR5' := Aside0.mk (HBR5.out.grown hg2); clear ho2 hg2)
      have hne : g5 < wo.heap.size := HBR5.out.lt
      have hg7 : w.heap.size ≤ wo.heap.size := HB.out.size
      obtain ⟨g7, hg7e⟩ : ∃ g7, g7 = wo.heap.size := ⟨_, rfl⟩
      rw [← hg7e] at hne hg7 HBR7
      rw [← hg7e]
      clear HB HBR5 hg7e
      go_loopg [8] (a1.size + 1) (fun gg s8 wr => ∃ (k : Nat), s8 = .int .i64 k ∧ k ≤ a1.size + 1 ∧ a1.size + 1 - k ≤ gg ∧ Aside0 (BR wr g5 (dpTab a1.size star hit i)) ∧ Aside0 (BR wr g7 (dpRow a1.size (star i) (hit i) (dpTab a1.size star hit i) k)) ∧ Aside0 (Below w.heap.size w wr))
      case atStart => exact ⟨0, rfl, Nat.zero_le _, Nat.le_refl _, HBR5', HBR7, HB2⟩
      case round =>
        obtain ⟨k, rfl, hkm, hgk, HBR5, HBR7, HB⟩ := hrel
        obtain ⟨tab, htab⟩ : ∃ tab, tab = dpTab a1.size star hit i := ⟨_, rfl⟩
        have htl : tab.length = a1.size + 1 := by rw [htab]; exact HT.out i
        have HTL := Aside0.mk htl
        have HTAB := Aside0.mk htab
        rw [← htab] at HBR5 HBR7
        have hrl := Aside0.mk (dpRow_length a1.size (star i) (hit i) tab k)
        clear htab htl
        by_cases hk1 : k ≤ a1.size
        · have hkI : (k : Int) ≤ (a1.size : Int) := by omega
          have hk5 := HBR5.out.cell k (by rw [HTL.out]; omega)
          obtain ⟨ad, rfl, hcell⟩ := Kd.at_int (Kd.C_below HC.out HB.out) i (by omega) (by omega)
          rw [Int.toNat_natCast] at hcell
          cases hcan : tab.getD k false with
          | false =>
            rw [hcan] at hk5
            have HCAN := Aside0.mk hcan
            clear hcan
            go_wp2
            go_roundg (a1.size + 1 - (k + 1))
            case measure => omega
            case rel => exact ⟨k + 1, by go_num, by omega, by omega, ⟨HTAB.out ▸ HBR5.out⟩, ⟨by rw [← HTAB.out]; show BR _ _ (dpRow _ _ _ tab (k + 1)); rw [dpRow, if_neg (by rw [HCAN.out]; decide)]; exact HBR7.out⟩, HB⟩
          | true =>
            rw [hcan] at hk5
            have HCAN := Aside0.mk hcan
            clear hcan
            cases hst : star i with
            | true =>
              have hst2 : (rd l0 i == 257) = true := by have h3 := congrFun HST.out i; rw [hst] at h3; exact h3.symm
              have HSI := Aside0.mk hst
              clear hst
              obtain ⟨wv, rfl⟩ : ∃ wv : World, wv = wr := ⟨_, rfl⟩
              go_wp2
              go_loopg [9] (a1.size + 1 - k) (fun gg s9 wr => ∃ (j : Nat), s9 = .int .i64 j ∧ k ≤ j ∧ j ≤ a1.size + 1 ∧ a1.size + 1 - j ≤ gg ∧ Aside0 (BR wr g5 tab) ∧ Aside0 (BR wr g7 (setR (dpRow a1.size (star i) (hit i) tab k) k (j - k))) ∧ Aside0 (Below w.heap.size w wr))
              case atStart => exact ⟨k, rfl, Nat.le_refl _, hkm, Nat.le_refl _, HBR5, ⟨by rw [Nat.sub_self]; exact HBR7.out⟩, HB⟩
              case round =>
                obtain ⟨j, rfl, hkj, hjm, hgj, HBR5, HBR7, HB⟩ := hrel
                by_cases hj1 : j ≤ a1.size
                · have hjI : (j : Int) ≤ (a1.size : Int) := by omega
                  have hk7 := HBR7.out.cell j (by rw [setR_length, hrl.out]; omega)
                  have hf7 := HBR7.out.frozen j
                  go_wp2
                  go_roundg (a1.size + 1 - (j + 1))
                  case measure => omega
                  case rel => exact ⟨j + 1, by go_num, by omega, by omega, by omega, ⟨HBR5.out.other ⟨g7, j, none⟩ _ (by show g5 ≠ g7; omega)⟩, ⟨by have h3 := HBR7.out.set j true; rw [show j + 1 - k = (j - k) + 1 from by omega, setR, show k + (j - k) = j from by omega]; exact h3⟩, ⟨HB.out.setCell (p := ⟨g7, j, none⟩) hg7 _⟩⟩
                · have hjI : ¬ (j : Int) ≤ (a1.size : Int) := by omega
                  obtain rfl : j = a1.size + 1 := by omega
                  go_wp2
                  go_roundg (a1.size + 1 - (k + 1))
                  case measure => omega
                  case rel => exact ⟨k + 1, by go_num, by omega, by omega, ⟨HTAB.out ▸ HBR5.out⟩, ⟨by rw [← HTAB.out]; show BR _ _ (dpRow _ _ _ tab (k + 1)); rw [dpRow, if_pos HCAN.out, if_pos HSI.out]; exact HBR7.out⟩, HB⟩
            | false =>
              have hst2 : (rd l0 i == 257) = false := by have h3 := congrFun HST.out i; rw [hst] at h3; exact h3.symm
              have HSI := Aside0.mk hst
              clear hst
              by_cases hk2 : k < a1.size
              · have hkI2 : (k : Int) < (a1.size : Int) := by omega
                have hx' : ((a1[k]'hk2).toNat : Int) = bt a1 k := bt_at a1 k hk2
                have hk7 := HBR7.out.cell (k + 1) (by rw [hrl.out]; omega)
                have hf7 := HBR7.out.frozen (k + 1)
                have hhk : Aside0 (hit i k = (rd l0 i == 256 || rd l0 i == bt a1 k)) := ⟨congrFun (congrFun HHT.out i) k⟩
                cases h256 : rd l0 i == 256 with
                | true =>
                  go_wp2
                  go_quiet (fail)
                  go_wp2
                  go_roundg (a1.size + 1 - (k + 1))
                  case measure => omega
                  case rel => exact ⟨k + 1, by go_num, by omega, by omega, ⟨HTAB.out ▸ ((HBR5.out.drewN _).other ⟨g7, k + 1, none⟩ _ (by show g5 ≠ g7; omega))⟩, ⟨by rw [← HTAB.out]; show BR _ _ (dpRow _ _ _ tab (k + 1)); rw [dpRow, if_pos HCAN.out, if_neg (by rw [HSI.out]; decide), if_pos hk2, if_pos (by rw [hhk.out, h256]; rfl)]; exact (HBR7.out.drewN _).set (k + 1) true⟩, ⟨(pw_below_drewN HB.out _).setCell (p := ⟨g7, k + 1, none⟩) hg7 _⟩⟩
                | false =>
                  have hbr := bt_range a1 k
                  cases hbt : rd l0 i == bt a1 k with
                  | true =>
                    have hbtk := hbt
                    go_wp2
                    go_quiet (fail)
                    go_wp2
                    go_roundg (a1.size + 1 - (k + 1))
                    case measure => omega
                    case rel => exact ⟨k + 1, by go_num, by omega, by omega, ⟨HTAB.out ▸ ((HBR5.out.drewN _).other ⟨g7, k + 1, none⟩ _ (by show g5 ≠ g7; omega))⟩, ⟨by rw [← HTAB.out]; show BR _ _ (dpRow _ _ _ tab (k + 1)); rw [dpRow, if_pos HCAN.out, if_neg (by rw [HSI.out]; decide), if_pos hk2, if_pos (by rw [hhk.out, h256, hbtk]; rfl)]; exact (HBR7.out.drewN _).set (k + 1) true⟩, ⟨(pw_below_drewN HB.out _).setCell (p := ⟨g7, k + 1, none⟩) hg7 _⟩⟩
                  | false =>
                    go_wp2
                    go_quiet (fail)
                    go_wp2
                    go_roundg (a1.size + 1 - (k + 1))
                    case measure => omega
                    case rel => exact ⟨k + 1, by go_num, by omega, by omega, ⟨HTAB.out ▸ (HBR5.out.drewN _)⟩, ⟨by rw [← HTAB.out]; show BR _ _ (dpRow _ _ _ tab (k + 1)); rw [dpRow, if_pos HCAN.out, if_neg (by rw [HSI.out]; decide), if_pos hk2, if_neg (by rw [hhk.out, h256, hbt]; decide)]; exact HBR7.out.drewN _⟩, ⟨pw_below_drewN HB.out _⟩⟩
              · have hkI2 : decide ((k : Int) < (a1.size : Int)) = false := decide_eq_false (by omega)
                have hkI3 : decide (k < a1.size) = false := decide_eq_false hk2
                go_wp2
                go_quiet (fail)
                go_wp2
                go_roundg (a1.size + 1 - (k + 1))
                case measure => omega
                case rel => exact ⟨k + 1, by go_num, by omega, by omega, ⟨HTAB.out ▸ (HBR5.out.drewN _)⟩, ⟨by rw [← HTAB.out]; show BR _ _ (dpRow _ _ _ tab (k + 1)); rw [dpRow, if_pos HCAN.out, if_neg (by rw [HSI.out]; decide), if_neg hk2]; exact HBR7.out.drewN _⟩, ⟨pw_below_drewN HB.out _⟩⟩
        · have hkI : ¬ (k : Int) ≤ (a1.size : Int) := by omega
          obtain rfl : k = a1.size + 1 := by omega
          go_wp2
          go_roundg (l0.length - (i + 1))
          case measure => omega
          case rel => exact ⟨i + 1, g7, by go_num, by go_num, by omega, by omega, hg7, ⟨by rw [HTAB.out] at HBR7; exact HBR7.out⟩, HB⟩
    · have hltI : ¬ (i : Int) < (l0.length : Int) := by omega
      obtain rfl : i = l0.length := by omega
      have hk5 := HBR5.out.cell a1.size (by rw [HT.out]; omega)
      rw [HR.out] at hk5
      go_wp2
      go_ret
      exact ⟨rfl, HB.out⟩

/-! ### montageref37_Part: function 12 -/
def montageref37_Part.f (k : Nat) (a0 : ByteArray) (a1 : ByteArray) : Option (Bool) := (montageref37_tokens.f k a0).bind fun bt173 => (if bt173.2 = true then ((montageref37_fit.f bt173.1 a1).bind fun t177 => (some t177)) else (some false))
theorem montageref37_Part.mono : ∀ a0 a1 k, LeO (montageref37_Part.f k a0 a1) (montageref37_Part.f (k + 1) a0 a1) := by
  intro a0 a1 k
  unfold montageref37_Part.f
  repeat' first
      | (with_reducible exact montageref37_tokens.mono _ _)
      | (with_reducible exact LeO.refl _)
      | (with_reducible exact LeO.none _)
      | (with_reducible refine LeO.ite ?_ ?_)
      | (with_reducible refine LeO.bind ?_ (fun _ => ?_))
      | exact montageref37_tokens.mono _ _
      | exact LeO.none _
      | refine LeO.ite ?_ ?_
      | refine LeO.bind ?_ (fun _ => ?_)
set_option maxHeartbeats 8000000 in
set_option maxRecDepth 100000 in
theorem montageref37_Part.calls (k : Nat) (a0 : ByteArray) (a1 : ByteArray) (r : Bool) (w : World) (h : montageref37_Part.f k a0 a1 = some r) :
    Calls Tryd.prog 12 #[.string a0, .string a1] w fun e w' => e = .returned (.bool r) ∧ Below w.heap.size w w' := by
  have HB := Aside0.mk (Below.refl w.heap.size w)
  have H : ((montageref37_tokens.f k a0).bind fun bt173 => (if bt173.2 = true then ((montageref37_fit.f bt173.1 a1).bind fun t177 => (some t177)) else (some false))) = some r := h
  clear h
  replace H := Option.bind_eq_some_iff.mp H
  obtain ⟨⟨t173, t174⟩, A30, H⟩ := H
  replace H : (if t174 = true then ((montageref37_fit.f t173 a1).bind fun t177 => (some t177)) else (some false)) = some r := H
  have A3 := Aside0.mk A30
  clear A30
  by_cases c4 : t174 = true
  · subst c4
    have H1 : ((montageref37_fit.f t173 a1).bind fun t177 => (some t177)) = some r := by rw [if_pos rfl] at H; exact H
    clear H
    have H := H1
    clear H1
    replace H := Option.bind_eq_some_iff.mp H
    obtain ⟨t177, A50, H⟩ := H
    replace H : (some t177) = some r := H
    have A5 := Aside0.mk A50
    clear A50
    obtain rfl := Option.some.inj H
    go_enter Tryd.func12, Tryd.ntmps12
    go_wp2_with (first | ((with_reducible refine gate_callee (f := 18) rfl ?_); refine goesL_ (some 9) rfl rfl Tryd.func18 (by kernel_rfl) rfl #[.string a0] rfl (by (try simp only [List.map_toArray, List.map_cons, List.map_nil]); first | done | rfl | (simp only [List.length_drop, List.length_take]; rfl)) ?_; (with_reducible refine (montageref37_tokens.calls k a0 t173 true _ A3.out).mono ?_); rintro e w6 ⟨v175, rfl, ho0, hb⟩; refine ⟨_, rfl, ?_⟩; have n0_ := Aside0.mk (Kd.R_lower ho0 (below_size (by repeat (first | (with_reducible first | exact HB.out | apply below_alloc | apply pw_below_drewN | apply below_drew1) | exact HB.out)))); have n1_ := Aside0.mk (below_step (by repeat (first | (with_reducible first | exact HB.out | apply below_alloc | apply pw_below_drewN | apply below_drew1) | exact HB.out)) hb); clear HB; have HO176 := n0_; have HB := n1_; clear n0_ n1_; (try clear hb); (try clear hb2); (try clear hk); (try clear hi); (try clear ho0); obtain ⟨Ao7, co7, eo7⟩ := Kd.R_slice HO176.out; subst eo7) | (go_at_call 23; (with_reducible refine (montageref37_fit.calls _ _ t173 a1 t177 _ ?side1 ?side2 A5.out).mono ?_); (case side1 => repeat (first | exact (Kd.R_reads' HO176.out).2.2 | (with_reducible refine Kd.C_alloc ?_ _) | (with_reducible refine Kd.C_drewN ?_ _) | (with_reducible refine Kd.C_drew ?_))); (case side2 => exact (Kd.R_reads' HO176.out).2.1); rintro e w8 ⟨rfl, hb⟩; have n0_ := Aside0.mk (Kd.R_below (by (with_reducible repeat (first | apply Kd.R_alloc | apply Kd.R_drewN | apply Kd.R_drew)); exact HO176.out) hb); have n1_ := Aside0.mk (below_step (by repeat (first | (with_reducible first | exact HB.out | apply below_alloc | apply pw_below_drewN | apply below_drew1) | exact HB.out)) hb); clear HO176; clear HB; have HO176 := n0_; have HB := n1_; clear n0_ n1_; (try clear hb); (try clear hb2); (try clear hk); (try clear hi)))
    go_ret
    exact ⟨by first | rfl | (simp [errW_none, errW_some] <;> rfl) | (simp [*, errW_none, errW_some] <;> rfl), by repeat (first | (with_reducible first | exact HB.out | apply below_alloc | apply pw_below_drewN | apply below_drew1) | exact HB.out)⟩
  · replace c4 := Bool.eq_false_iff.mpr c4
    subst c4
    have H1 : (some false) = some r := by rw [if_neg (show ¬ (false = true) by decide)] at H; exact H
    clear H
    have H := H1
    clear H1
    obtain rfl := Option.some.inj H
    go_enter Tryd.func12, Tryd.ntmps12
    go_wp2_with (first | ((with_reducible refine gate_callee (f := 18) rfl ?_); refine goesL_ (some 9) rfl rfl Tryd.func18 (by kernel_rfl) rfl #[.string a0] rfl (by (try simp only [List.map_toArray, List.map_cons, List.map_nil]); first | done | rfl | (simp only [List.length_drop, List.length_take]; rfl)) ?_; (with_reducible refine (montageref37_tokens.calls k a0 t173 false _ A3.out).mono ?_); rintro e w9 ⟨v175, rfl, ho0, hb⟩; refine ⟨_, rfl, ?_⟩; have n0_ := Aside0.mk (Kd.R_lower ho0 (below_size (by repeat (first | (with_reducible first | exact HB.out | apply below_alloc | apply pw_below_drewN | apply below_drew1) | exact HB.out)))); have n1_ := Aside0.mk (below_step (by repeat (first | (with_reducible first | exact HB.out | apply below_alloc | apply pw_below_drewN | apply below_drew1) | exact HB.out)) hb); clear HB; have HO176 := n0_; have HB := n1_; clear n0_ n1_; (try clear hb); (try clear hb2); (try clear hk); (try clear hi); (try clear ho0)))
    go_ret
    exact ⟨by first | rfl | (simp [errW_none, errW_some] <;> rfl) | (simp [*, errW_none, errW_some] <;> rfl), by repeat (first | (with_reducible first | exact HB.out | apply below_alloc | apply pw_below_drewN | apply below_drew1) | exact HB.out)⟩

/-! ### montageref37_Fits: function 10 (its contract is typed by hand) -/
def montageref37_Fits.K (a : ByteArray) : Nat := a.size + 40
def montageref37_Fits.ok (K : Nat) (l q : List ByteArray) : Prop := l.length ≤ 1099511627776 ∧ q.length ≤ 1099511627776 ∧ ∀ i, i < l.length → ∀ k, k < q.length → (montageref37_Part.f K (l.getD i ByteArray.empty) (q.getD k ByteArray.empty)).isSome = true
instance (K : Nat) (l q : List ByteArray) : Decidable (montageref37_Fits.ok K l q) := by unfold montageref37_Fits.ok; exact inferInstance
def montageref37_Fits.f (a0 : ByteArray) (a1 : ByteArray) : Option (Bool) :=
  (montageref37_Right.f (montageref37_Fits.K a0) a0).bind fun b => if b = true then (montageref13_Parts.f (montageref37_Fits.K a0) a0).bind fun l => (montageref13_Parts.f (montageref37_Fits.K a1) a1).bind fun q =>
    if montageref37_Fits.ok (montageref37_Fits.K a0) l q then some ((dpTab q.length (fun i => (l.getD i ByteArray.empty).toList == [42, 42]) (fun i k => (montageref37_Part.f (montageref37_Fits.K a0) (l.getD i ByteArray.empty) (q.getD k ByteArray.empty)).getD false) l.length).getD q.length false) else none
  else some false
theorem cell_kept {w wx : World} {a : Addr} {v : Value} (hb : Below w.heap.size w wx) (h : w.cell? a = some v) : wx.cell? a = some v := (hb.cell (World.block_lt_of_cell? _ _ h)).trans h
theorem BR.below {w w1 : World} {g : Nat} {xs : List Bool} (h : BR w g xs) (hb : Below w.heap.size w w1) : BR w1 g xs := ⟨(hb.block g h.lt).trans h.heap⟩
theorem rdOf_nat (l : List ByteArray) (i : Nat) : rdOf ByteArray.empty l (i : Int) = l.getD i ByteArray.empty := rfl
set_option maxHeartbeats 4000000 in
set_option maxRecDepth 100000 in
theorem montageref37_Fits.calls (a0 : ByteArray) (a1 : ByteArray) (r : Bool) (w : World) (h : montageref37_Fits.f a0 a1 = some r) :
    Calls Tryd.prog 10 #[.string a0, .string a1] w fun e w' => e = .returned (.bool r) ∧ Below w.heap.size w w' := by
  unfold montageref37_Fits.f at h
  obtain ⟨b, hb, h1⟩ := Option.bind_eq_some_iff.mp h
  clear h
  have h := h1
  clear h1
  have HRt := Aside0.mk hb
  cases b with
  | false =>
    rw [if_neg (by decide)] at h
    obtain rfl := Option.some.inj h
    clear h hb
    go_enter Tryd.func10, Tryd.ntmps10
    go_wp2_with (go_at_call 8; refine (montageref37_Right.calls _ a0 false _ HRt.out).mono ?_; rintro e w1 ⟨rfl, hb1⟩; have HB1 := Aside0.mk hb1; clear hb1)
    go_ret
    exact ⟨rfl, HB1.out⟩
  | true =>
    rw [if_pos rfl] at h
    obtain ⟨l, hl, h2⟩ := Option.bind_eq_some_iff.mp h
    clear h
    obtain ⟨q, hq, h⟩ := Option.bind_eq_some_iff.mp h2
    clear h2
    split at h
    case isFalse => cases h
    case isTrue hok =>
    obtain ⟨hll, hql, hpt⟩ := hok
    have HL := Aside0.mk hl
    have HQ := Aside0.mk hq
    have HR := Aside0.mk (Option.some.inj h)
    have HPT := Aside0.mk hpt
    clear hb hl hq h hpt
    obtain ⟨star, hstar⟩ : ∃ f : Nat → Bool, f = (fun i : Nat => (l.getD i ByteArray.empty).toList == [42, 42]) := ⟨_, rfl⟩
    obtain ⟨hit, hhit⟩ : ∃ f : Nat → Nat → Bool, f = (fun (i k : Nat) => (montageref37_Part.f (montageref37_Fits.K a0) (l.getD i ByteArray.empty) (q.getD k ByteArray.empty)).getD false) := ⟨_, rfl⟩
    have HST := Aside0.mk hstar
    have HHT := Aside0.mk hhit
    rw [← hstar, ← hhit] at HR
    clear hstar hhit
    have HT := Aside0.mk (dpTab_length q.length star hit)
    obtain ⟨i0, hi, hz0, hz1, hz2⟩ := info_parts info4
    have e1 : IntKind.i64.wrap ((q.length : Int) + 1) = (q.length : Int) + 1 := IntWalk.i64_in _ (by omega)
    go_enter Tryd.func10, Tryd.ntmps10
    go_wp2_with (go_at_call 8; refine (montageref37_Right.calls _ a0 true _ HRt.out).mono ?_; rintro e wa ⟨rfl, hba⟩; have HBa := Aside0.mk hba; clear hba)
    go_wp2_with fail
    refine (montageref13_Parts.calls _ a0 l wa HL.out).mono ?_
    rintro e wb ⟨vl, rfl, hvl, hbb⟩
    have HBb := Aside0.mk (HBa.out.trans (hbb.mono HBa.out.size))
    obtain ⟨Al, cl, rfl, hcl, hrl⟩ := Kd.R_reads hvl
    have HLC := Aside0.mk hrl
    clear hvl hbb hrl
    go_wp2_with fail
    refine (montageref13_Parts.calls _ a1 q wb HQ.out).mono ?_
    rintro e wc ⟨vq, rfl, hvq, hbc⟩
    have HLC := Aside0.mk (Kd.C_below HLC.out hbc)
    have HBc := Aside0.mk (HBb.out.trans (hbc.mono HBb.out.size))
    obtain ⟨Aq, cq, rfl, hcq, hrq⟩ := Kd.R_reads hvq
    have HQC := Aside0.mk hrq
    clear hvq hbc hrq
    go_wp2_with (refine wpList_make_full _ rfl _ _ 41 rfl wc.heap.size 4 i0 (.bool false) 1 Tryd.underlying41 hi hz0 hz1 .i64 .i64 _ _ (q.length + 1) rfl rfl (by omega) (by omega) (by rw [hz2]; omega) (by unfold maxLen; omega) (Nat.le_refl _) ?_; intro w1 ho1 hg1; have HB1 := Aside0.mk ((Below.refl _ wc).grown hg1 (Nat.le_refl _) (fun k hk => by cases hk)); have HBR := Aside0.mk (BR.made ho1); have k0 := HBR.out.cell 0 (by simp); have f0 := HBR.out.frozen 0; clear ho1 hg1)
    clear k0 f0
    go_loopg [7, 8] l.length (fun gg s5 s6 wr => ∃ (i g5 : Nat), s5 = .slice (some ⟨g5, 0, none⟩) (q.length + 1) (q.length + 1) ∧ s6 = .int .i64 i ∧ i ≤ l.length ∧ l.length - i ≤ gg ∧ wc.heap.size ≤ g5 ∧ Aside0 (BR wr g5 (dpTab q.length star hit i)) ∧ Aside0 (Below wc.heap.size wc wr))
    case atStart => exact ⟨0, wc.heap.size, rfl, rfl, Nat.zero_le _, by omega, Nat.le_refl _, ⟨HBR.out.set 0 true⟩, ⟨HB1.out.setCell (p := ⟨wc.heap.size, 0, none⟩) (Nat.le_refl _) _⟩⟩
    case round =>
      obtain ⟨i, g5, rfl, rfl, hil, hg, hg5, HBR5, HB⟩ := hrel
      by_cases hlt : i < l.length
      · have hltI : (i : Int) < (l.length : Int) := by omega
        obtain ⟨wo, rfl⟩ : ∃ wo : World, wo = wr := ⟨_, rfl⟩
        go_wp2_with (refine wpList_make_full _ rfl _ _ 41 rfl wo.heap.size 4 i0 (.bool false) 1 Tryd.underlying41 hi hz0 hz1 .i64 .i64 _ _ (q.length + 1) rfl rfl (by omega) (by omega) (by rw [hz2]; omega) (by unfold maxLen; omega) (Nat.le_refl _) ?_; intro w2 ho2 hg2; have HB2 := Aside0.mk (HB.out.grown hg2 HB.out.size (fun k hk => by cases hk)); have HBR7 := Aside0.mk (BR.made ho2); have HBR5' := Aside0.mk (HBR5.out.grown hg2); clear ho2 hg2)
        have hne : g5 < wo.heap.size := HBR5.out.lt
        have hg7 : wc.heap.size ≤ wo.heap.size := HB.out.size
        obtain ⟨g7, hg7e⟩ : ∃ g7, g7 = wo.heap.size := ⟨_, rfl⟩
        rw [← hg7e] at hne hg7 HBR7
        rw [← hg7e]
        clear HB HBR5 hg7e
        go_loopg [10] (q.length + 1) (fun gg s8 wr => ∃ (k : Nat), s8 = .int .i64 k ∧ k ≤ q.length + 1 ∧ q.length + 1 - k ≤ gg ∧ Aside0 (BR wr g5 (dpTab q.length star hit i)) ∧ Aside0 (BR wr g7 (dpRow q.length (star i) (hit i) (dpTab q.length star hit i) k)) ∧ Aside0 (Below wc.heap.size wc wr))
        case atStart => exact ⟨0, rfl, Nat.zero_le _, Nat.le_refl _, HBR5', HBR7, HB2⟩
        case round =>
          obtain ⟨k, rfl, hkm, hgk, HBR5, HBR7, HB⟩ := hrel
          obtain ⟨tab, htab⟩ : ∃ tab, tab = dpTab q.length star hit i := ⟨_, rfl⟩
          have htl : tab.length = q.length + 1 := by rw [htab]; exact HT.out i
          have HTL := Aside0.mk htl
          have HTAB := Aside0.mk htab
          rw [← htab] at HBR5 HBR7
          have hrl := Aside0.mk (dpRow_length q.length (star i) (hit i) tab k)
          clear htab htl
          by_cases hk1 : k ≤ q.length
          · have hkI : (k : Int) ≤ (q.length : Int) := by omega
            have hk5 := HBR5.out.cell k (by rw [HTL.out]; omega)
            obtain ⟨ad, rfl, hcell⟩ := Kd.at_string (Kd.C_below HLC.out HB.out) i (by omega) (by omega)
            rw [Int.toNat_natCast, rdOf_nat] at hcell
            obtain ⟨li, hli⟩ : ∃ li, li = l.getD i ByteArray.empty := ⟨_, rfl⟩
            rw [← hli] at hcell
            have HLI := Aside0.mk hli
            clear hli
            cases hcan : tab.getD k false with
            | false =>
              rw [hcan] at hk5
              have HCAN := Aside0.mk hcan
              clear hcan
              go_wp2
              go_roundg (q.length + 1 - (k + 1))
              case measure => omega
              case rel => exact ⟨k + 1, by go_num, by omega, by omega, ⟨HTAB.out ▸ HBR5.out⟩, ⟨by rw [← HTAB.out]; show BR _ _ (dpRow _ _ _ tab (k + 1)); rw [dpRow, if_neg (by rw [HCAN.out]; decide)]; exact HBR7.out⟩, HB⟩
            | true =>
              rw [hcan] at hk5
              have HCAN := Aside0.mk hcan
              clear hcan
              cases hst : star i with
              | true =>
                have hst2 : (li.toList == [42, 42]) = true := by have h3 := congrFun HST.out i; rw [hst] at h3; rw [HLI.out]; exact h3.symm
                have HSI := Aside0.mk hst
                clear hst
                obtain ⟨wv, rfl⟩ : ∃ wv : World, wv = wr := ⟨_, rfl⟩
                go_wp2
                go_loopg [11] (q.length + 1 - k) (fun gg s9 wr => ∃ (j : Nat), s9 = .int .i64 j ∧ k ≤ j ∧ j ≤ q.length + 1 ∧ q.length + 1 - j ≤ gg ∧ Aside0 (BR wr g5 tab) ∧ Aside0 (BR wr g7 (setR (dpRow q.length (star i) (hit i) tab k) k (j - k))) ∧ Aside0 (Below wc.heap.size wc wr))
                case atStart => exact ⟨k, rfl, Nat.le_refl _, hkm, Nat.le_refl _, HBR5, ⟨by rw [Nat.sub_self]; exact HBR7.out⟩, HB⟩
                case round =>
                  obtain ⟨j, rfl, hkj, hjm, hgj, HBR5, HBR7, HB⟩ := hrel
                  by_cases hj1 : j ≤ q.length
                  · have hjI : (j : Int) ≤ (q.length : Int) := by omega
                    have hk7 := HBR7.out.cell j (by rw [setR_length, hrl.out]; omega)
                    have hf7 := HBR7.out.frozen j
                    go_wp2
                    go_roundg (q.length + 1 - (j + 1))
                    case measure => omega
                    case rel => exact ⟨j + 1, by go_num, by omega, by omega, by omega, ⟨HBR5.out.other ⟨g7, j, none⟩ _ (by show g5 ≠ g7; omega)⟩, ⟨by have h3 := HBR7.out.set j true; rw [show j + 1 - k = (j - k) + 1 from by omega, setR, show k + (j - k) = j from by omega]; exact h3⟩, ⟨HB.out.setCell (p := ⟨g7, j, none⟩) hg7 _⟩⟩
                  · have hjI : ¬ (j : Int) ≤ (q.length : Int) := by omega
                    obtain rfl : j = q.length + 1 := by omega
                    go_wp2
                    go_roundg (q.length + 1 - (k + 1))
                    case measure => omega
                    case rel => exact ⟨k + 1, by go_num, by omega, by omega, ⟨HTAB.out ▸ HBR5.out⟩, ⟨by rw [← HTAB.out]; show BR _ _ (dpRow _ _ _ tab (k + 1)); rw [dpRow, if_pos HCAN.out, if_pos HSI.out]; exact HBR7.out⟩, HB⟩
              | false =>
                have hst2 : (li.toList == [42, 42]) = false := by have h3 := congrFun HST.out i; rw [hst] at h3; rw [HLI.out]; exact h3.symm
                have HSI := Aside0.mk hst
                clear hst
                by_cases hk2 : k < q.length
                · have hkI2 : (k : Int) < (q.length : Int) := by omega
                  obtain ⟨ad2, rfl, hcell2⟩ := Kd.at_string (Kd.C_below HQC.out HB.out) k (by omega) (by omega)
                  rw [Int.toNat_natCast, rdOf_nat] at hcell2
                  have hk7 := HBR7.out.cell (k + 1) (by rw [hrl.out]; omega)
                  have hf7 := HBR7.out.frozen (k + 1)
                  obtain ⟨b, hbp⟩ := Option.isSome_iff_exists.1 (HPT.out i hlt k hk2)
                  have HBP := Aside0.mk hbp
                  clear hbp
                  have hhk : Aside0 (hit i k = b) := ⟨by have h3 := congrFun (congrFun HHT.out i) k; rw [HBP.out] at h3; exact h3⟩
                  obtain ⟨qk, hqk⟩ : ∃ qk, qk = q.getD k ByteArray.empty := ⟨_, rfl⟩
                  rw [← HLI.out] at HBP
                  rw [← hqk] at hcell2 HBP
                  have HQK := Aside0.mk hqk
                  clear hqk
                  go_wp2
                  go_region_held3 (fun w' => w'.cell? (ad.add i) = some (.string li) ∧ w'.cell? (ad2.add k) = some (.string qk)) (first | exact ⟨hcell, hcell2⟩ | exact ⟨cell_kept HBP2.out hcell, cell_kept HBP2.out hcell2⟩)
                    (first | (go_at_call 12; refine (montageref37_Part.calls _ li qk b _ HBP.out).mono ?_; rintro e w2 ⟨rfl, hb2⟩; have HBP2 := Aside0.mk hb2; clear hb2))
                  have HBw : Aside0 (Below wr.heap.size wr w2) := ⟨⟨HBP2.out.os, HBP2.out.tape, HBP2.out.output, HBP2.out.size, HBP2.out.block⟩⟩
                  have HBR5 := Aside0.mk (HBR5.out.below HBw.out)
                  have HBR7 := Aside0.mk (HBR7.out.below HBw.out)
                  have HB := Aside0.mk (HB.out.trans (HBw.out.mono HB.out.size))
                  have hk7 := HBR7.out.cell (k + 1) (by rw [hrl.out]; omega)
                  have hf7 := HBR7.out.frozen (k + 1)
                  clear hcell hcell2 hk5
                  cases b with
                  | true =>
                    go_wp2
                    go_roundg (q.length + 1 - (k + 1))
                    case measure => omega
                    case rel => exact ⟨k + 1, by go_num, by omega, by omega, ⟨HTAB.out ▸ (HBR5.out.other ⟨g7, k + 1, none⟩ _ (by show g5 ≠ g7; omega))⟩, ⟨by rw [← HTAB.out]; show BR _ _ (dpRow _ _ _ tab (k + 1)); rw [dpRow, if_pos HCAN.out, if_neg (by rw [HSI.out]; decide), if_pos hk2, if_pos hhk.out]; exact HBR7.out.set (k + 1) true⟩, ⟨HB.out.setCell (p := ⟨g7, k + 1, none⟩) hg7 _⟩⟩
                  | false =>
                    go_wp2
                    go_roundg (q.length + 1 - (k + 1))
                    case measure => omega
                    case rel => exact ⟨k + 1, by go_num, by omega, by omega, ⟨HTAB.out ▸ HBR5.out⟩, ⟨by rw [← HTAB.out]; show BR _ _ (dpRow _ _ _ tab (k + 1)); rw [dpRow, if_pos HCAN.out, if_neg (by rw [HSI.out]; decide), if_pos hk2, if_neg (by rw [hhk.out]; decide)]; exact HBR7.out⟩, HB⟩
                · have hkI2 : decide ((k : Int) < (q.length : Int)) = false := decide_eq_false (by omega)
                  have hkI3 : decide (k < q.length) = false := decide_eq_false hk2
                  go_wp2
                  go_quiet (fail)
                  go_wp2
                  go_roundg (q.length + 1 - (k + 1))
                  case measure => omega
                  case rel => exact ⟨k + 1, by go_num, by omega, by omega, ⟨HTAB.out ▸ (HBR5.out.drewN _)⟩, ⟨by rw [← HTAB.out]; show BR _ _ (dpRow _ _ _ tab (k + 1)); rw [dpRow, if_pos HCAN.out, if_neg (by rw [HSI.out]; decide), if_neg hk2]; exact HBR7.out.drewN _⟩, ⟨pw_below_drewN HB.out _⟩⟩
          · have hkI : ¬ (k : Int) ≤ (q.length : Int) := by omega
            obtain rfl : k = q.length + 1 := by omega
            go_wp2
            go_roundg (l.length - (i + 1))
            case measure => omega
            case rel => exact ⟨i + 1, g7, by go_num, by go_num, by omega, by omega, hg7, ⟨by rw [HTAB.out] at HBR7; exact HBR7.out⟩, HB⟩
      · have hltI : ¬ (i : Int) < (l.length : Int) := by omega
        obtain rfl : i = l.length := by omega
        have hk5 := HBR5.out.cell q.length (by rw [HT.out]; omega)
        rw [HR.out] at hk5
        go_wp2
        go_ret
        exact ⟨rfl, HBc.out.trans (HB.out.mono HBc.out.size)⟩

end Go.Proofs.YtlbkfnofnlioaaaDoor.PGlob
