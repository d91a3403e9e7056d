-- Written by wip/xprint of this repo (not trusted: Lean checks it).
import Derived.Test.YtdnahkeiidbihaaDoorPArmorx0
import Derived.Test.YtdnahkeiidbihaaDoorPArmorx1
import Derived.Test.YtdnahkeiidbihaaDoorPArmorx2
import Derived.Test.YtdnahkeiidbihaaDoorPArmorx3
namespace Go.Proofs.YtdnahkeiidbihaaDoor.PArmor
open Go.RowKit Go.Proofs.YtdnahkeiidbihaaDoorW.PrintWords Go.Proofs.YtdnahkeiidbihaaDoorW.PrintLast Go.Proofs.YtdnahkeiidbihaaDoorW.PrintMore
attribute [local go_sem] max2_int min2_int max_two min_two max_three min_three max_four min_four   -- for this text's walks alone
set_option linter.unusedVariables false
set_option linter.unusedSimpArgs false

/-! ### armor_Decode: function 12 -/
mutual
def armor_Decode.j0 : Nat → List ByteArray → Bool → Option (ByteArray × ByteArray × Int)
  | 0, _, _ => none
  | k + 1, x7, x32 => if x32 = true then (some ((⟨#[]⟩ : ByteArray), (⟨#[]⟩ : ByteArray), 2)) else (if 0 < (x7.length : Int) then ((armor_cut.f (rdOf ByteArray.empty x7 0) (⟨#[45, 45, 45, 45, 45, 66, 69, 71, 73, 78, 32]⟩ : ByteArray) (⟨#[45, 45, 45, 45, 45]⟩ : ByteArray)).bind fun bt135 => (if 0 ≤ (wrap64 ((x7.length : Int) - 1)) then (if (wrap64 ((x7.length : Int) - 1)) < (x7.length : Int) then ((armor_cut.f (rdOf ByteArray.empty x7 (wrap64 ((x7.length : Int) - 1))) (⟨#[45, 45, 45, 45, 45, 69, 78, 68, 32]⟩ : ByteArray) (⟨#[45, 45, 45, 45, 45]⟩ : ByteArray)).bind fun bt138 => (if bt135.2 = true then (if bt138.2 = true then (if bt135.1.toList = bt138.1.toList then ((armor_right.f bt135.1).bind fun t140 => (if t140 = true then (if 1 ≤ (wrap64 ((wrap64 ((x7.length : Int) - 1)) - 1)) then (if (wrap64 ((wrap64 ((x7.length : Int) - 1)) - 1)) ≤ (x7.length : Int) then ((armor_even.f k ((x7.take ((wrap64 ((wrap64 ((x7.length : Int) - 1)) - 1)) : Int).toNat).drop 1)).bind fun t145 => (armor_Decode.j1 k x7 (wrap64 ((x7.length : Int) - 1)) bt135.1 (!t145))) else (none)) else (none)) else (armor_Decode.j1 k x7 (wrap64 ((x7.length : Int) - 1)) bt135.1 true))) else (armor_Decode.j1 k x7 (wrap64 ((x7.length : Int) - 1)) bt135.1 true)) else (armor_Decode.j1 k x7 (wrap64 ((x7.length : Int) - 1)) bt135.1 true)) else (armor_Decode.j1 k x7 (wrap64 ((x7.length : Int) - 1)) bt135.1 true))) else (none)) else (none))) else (none))
def armor_Decode.j1 : Nat → List ByteArray → Int → ByteArray → Bool → Option (ByteArray × ByteArray × Int)
  | 0, _, _, _, _ => none
  | k + 1, x7, x8, x9, x74 => if x74 = true then (some ((⟨#[]⟩ : ByteArray), (⟨#[]⟩ : ByteArray), 2)) else (if 1 ≤ (wrap64 (x8 - 1)) then (if (wrap64 (x8 - 1)) ≤ (x7.length : Int) then ((strings_Join.f ((x7.take ((wrap64 (x8 - 1)) : Int).toNat).drop 1) (⟨#[]⟩ : ByteArray)).bind fun t150 => ((armor_Bytes.f t150).bind fun bt151 => (if 0 ≤ (wrap64 (x8 - 1)) then (if (wrap64 (x8 - 1)) < (x7.length : Int) then ((strings_CutPrefix.f (rdOf ByteArray.empty x7 (wrap64 (x8 - 1))) (⟨#[61]⟩ : ByteArray)).bind fun bt154 => ((armor_Bytes.f bt154.1).bind fun bt156 => (if bt151.2 = 0 then (if bt154.2 = true then (if bt156.2 = 0 then (armor_Decode.j2 k x7 x8 x9 bt151.1 ((bt156.1.size : Int) != 3)) else (armor_Decode.j2 k x7 x8 x9 bt151.1 true)) else (armor_Decode.j2 k x7 x8 x9 bt151.1 true)) else (armor_Decode.j2 k x7 x8 x9 bt151.1 true)))) else (none)) else (none)))) else (none)) else (none))
def armor_Decode.j2 : Nat → List ByteArray → Int → ByteArray → ByteArray → Bool → Option (ByteArray × ByteArray × Int)
  | 0, _, _, _, _, _ => none
  | k + 1, x7, x8, x9, x13, x98 => if x98 = true then (some ((⟨#[]⟩ : ByteArray), (⟨#[]⟩ : ByteArray), 2)) else (if 0 ≤ (wrap64 (x8 - 1)) then (if (wrap64 (x8 - 1)) < (x7.length : Int) then ((armor_sum.f x13).bind fun t159 => (if (rdOf ByteArray.empty x7 (wrap64 (x8 - 1))).toList = t159.toList then (some (x13, x9, 0)) else (some ((⟨#[]⟩ : ByteArray), (⟨#[]⟩ : ByteArray), 4)))) else (none)) else (none))
end
def armor_Decode.f (k : Nat) (a0 : ByteArray) : Option (ByteArray × ByteArray × Int) := (strings_CutSuffix.f a0 (⟨#[10]⟩ : ByteArray)).bind fun bt129 => ((strings_Split.f bt129.1 (⟨#[10]⟩ : ByteArray)).bind fun t131 => (if bt129.2 = true then (armor_Decode.j0 k t131 (decide ((t131.length : Int) < 3))) else (armor_Decode.j0 k t131 true)))
theorem armor_Decode.mono_l : ∀ k, (∀ y0 y1, LeO (armor_Decode.j0 k y0 y1) (armor_Decode.j0 (k + 1) y0 y1)) ∧ (∀ y0 y1 y2 y3, LeO (armor_Decode.j1 k y0 y1 y2 y3) (armor_Decode.j1 (k + 1) y0 y1 y2 y3)) ∧ (∀ y0 y1 y2 y3 y4, LeO (armor_Decode.j2 k y0 y1 y2 y3 y4) (armor_Decode.j2 (k + 1) y0 y1 y2 y3 y4))
  | 0 => ⟨fun _ _ r h => by simp [armor_Decode.j0] at h, fun _ _ _ _ r h => by simp [armor_Decode.j1] at h, fun _ _ _ _ _ r h => by simp [armor_Decode.j2] at h⟩
  | k + 1 => by
    obtain ⟨ih0, ih1, ih2⟩ := armor_Decode.mono_l k
    refine ⟨?_, ?_, ?_⟩
    · intro y0 y1
      unfold armor_Decode.j0
      repeat' first
      | (with_reducible exact ih0 _ _)
      | (with_reducible exact ih1 _ _ _ _)
      | (with_reducible exact ih2 _ _ _ _ _)
      | (with_reducible exact armor_even.mono _ _)
      | (with_reducible exact LeO.refl _)
      | (with_reducible exact LeO.none _)
      | (with_reducible refine LeO.ite ?_ ?_)
      | (with_reducible refine LeO.bind ?_ (fun _ => ?_))
      | exact ih0 _ _
      | exact ih1 _ _ _ _
      | exact ih2 _ _ _ _ _
      | exact armor_even.mono _ _
      | exact LeO.none _
      | refine LeO.ite ?_ ?_
      | refine LeO.bind ?_ (fun _ => ?_)
    · intro y0 y1 y2 y3
      unfold armor_Decode.j1
      repeat' first
      | (with_reducible exact ih0 _ _)
      | (with_reducible exact ih1 _ _ _ _)
      | (with_reducible exact ih2 _ _ _ _ _)
      | (with_reducible exact armor_even.mono _ _)
      | (with_reducible exact LeO.refl _)
      | (with_reducible exact LeO.none _)
      | (with_reducible refine LeO.ite ?_ ?_)
      | (with_reducible refine LeO.bind ?_ (fun _ => ?_))
      | exact ih0 _ _
      | exact ih1 _ _ _ _
      | exact ih2 _ _ _ _ _
      | exact armor_even.mono _ _
      | exact LeO.none _
      | refine LeO.ite ?_ ?_
      | refine LeO.bind ?_ (fun _ => ?_)
    · intro y0 y1 y2 y3 y4
      unfold armor_Decode.j2
      repeat' first
      | (with_reducible exact ih0 _ _)
      | (with_reducible exact ih1 _ _ _ _)
      | (with_reducible exact ih2 _ _ _ _ _)
      | (with_reducible exact armor_even.mono _ _)
      | (with_reducible exact LeO.refl _)
      | (with_reducible exact LeO.none _)
      | (with_reducible refine LeO.ite ?_ ?_)
      | (with_reducible refine LeO.bind ?_ (fun _ => ?_))
      | exact ih0 _ _
      | exact ih1 _ _ _ _
      | exact ih2 _ _ _ _ _
      | exact armor_even.mono _ _
      | exact LeO.none _
      | refine LeO.ite ?_ ?_
      | refine LeO.bind ?_ (fun _ => ?_)
theorem armor_Decode.mono : ∀ a0 k, LeO (armor_Decode.f k a0) (armor_Decode.f (k + 1) a0) := by
  intro a0 k
  obtain ⟨ih0, ih1, ih2⟩ := armor_Decode.mono_l k
  unfold armor_Decode.f
  repeat' first
      | (with_reducible exact ih0 _ _)
      | (with_reducible exact ih1 _ _ _ _)
      | (with_reducible exact ih2 _ _ _ _ _)
      | (with_reducible exact armor_even.mono _ _)
      | (with_reducible exact LeO.refl _)
      | (with_reducible exact LeO.none _)
      | (with_reducible refine LeO.ite ?_ ?_)
      | (with_reducible refine LeO.bind ?_ (fun _ => ?_))
      | exact ih0 _ _
      | exact ih1 _ _ _ _
      | exact ih2 _ _ _ _ _
      | exact armor_even.mono _ _
      | exact LeO.none _
      | refine LeO.ite ?_ ?_
      | refine LeO.bind ?_ (fun _ => ?_)
def armor_Decode.T15 : Bool × List (List Nat × List Nat) := (true, [([], []), ([], []), ([1], [1]), ([0, 2], [0, 2]), ([3], [3]), ([], []), ([5], [5]), ([4, 6], [4, 6]), ([7, 6], [7])])
def armor_Decode.B15 : List Nat := [0, 0, 2, 7, 15, 0, 32, 127, 255]
theorem armor_Decode.tab15 : rtab .any (opsOf Tryd.f12 15) = armor_Decode.T15 := by kernel_rfl
theorem armor_Decode.bits15 : waitsOk armor_Decode.T15.2 armor_Decode.B15 = true := by kernel_rfl
set_option maxHeartbeats 8000000 in
set_option maxRecDepth 100000 in
theorem armor_Decode.calls (k : Nat) (a0 : ByteArray) (r1 : ByteArray) (r2 : ByteArray) (r3 : Int) (w : World) (h : armor_Decode.f k a0 = some (r1, r2, r3)) :
    Calls Tryd.prog 12 #[.string a0] w fun e w' => e = .returned (.tuple #[.string r1, .string r2, .int .i64 r3]) ∧ Below w.heap.size w w' := by
  have HB := Aside0.mk (Below.refl w.heap.size w)
  have H : ((strings_CutSuffix.f a0 (⟨#[10]⟩ : ByteArray)).bind fun bt129 => ((strings_Split.f bt129.1 (⟨#[10]⟩ : ByteArray)).bind fun t131 => (if bt129.2 = true then (armor_Decode.j0 k t131 (decide ((t131.length : Int) < 3))) else (armor_Decode.j0 k t131 true)))) = some (r1, r2, r3) := h
  clear h
  replace H := Option.bind_eq_some_iff.mp H
  obtain ⟨⟨t129, t130⟩, A20, H⟩ := H
  replace H : ((strings_Split.f t129 (⟨#[10]⟩ : ByteArray)).bind fun t131 => (if t130 = true then (armor_Decode.j0 k t131 (decide ((t131.length : Int) < 3))) else (armor_Decode.j0 k t131 true))) = some (r1, r2, r3) := H
  have A2 := Aside0.mk A20
  clear A20
  replace H := Option.bind_eq_some_iff.mp H
  obtain ⟨t131, A30, H⟩ := H
  replace H : (if t130 = true then (armor_Decode.j0 k t131 (decide ((t131.length : Int) < 3))) else (armor_Decode.j0 k t131 true)) = some (r1, r2, r3) := H
  have A3 := Aside0.mk A30
  clear A30
  have HC4 := Aside0.mk H
  clear H
  go_enter Tryd.func12, Tryd.ntmps12
  go_upto_region 3 with (first | ((with_reducible refine gate_callee (f := 24) rfl ?_); refine goesL_ (some 21) rfl rfl Tryd.func24 (by kernel_rfl) rfl #[.string a0, .string (⟨#[10]⟩ : ByteArray)] rfl (by (try simp only [List.map_toArray, List.map_cons, List.map_nil]); first | done | rfl | (simp only [List.length_drop, List.length_take]; rfl)) ?_; (with_reducible refine (strings_CutSuffix.calls a0 (⟨#[10]⟩ : ByteArray) t129 t130 _ A2.out).mono ?_); rintro e w' ⟨rfl, ⟨nd, rfl⟩⟩; refine ⟨_, rfl, ?_⟩) | ((with_reducible refine gate_callee (f := 25) rfl ?_); refine goesL_ (some 25) rfl rfl Tryd.func25 (by kernel_rfl) rfl #[.string t129, .string (⟨#[10]⟩ : ByteArray)] rfl (by (try simp only [List.map_toArray, List.map_cons, List.map_nil]); first | done | rfl | (simp only [List.length_drop, List.length_take]; rfl)) ?_; (with_reducible refine (strings_Split.calls t129 (⟨#[10]⟩ : ByteArray) t131 _ A3.out).mono ?_); rintro e w5 ⟨v132, rfl, ho0, hb⟩; refine ⟨_, rfl, ?_⟩; have n0_ := Aside0.mk (Kd.R_lower ho0 (below_size (by repeat (first | (with_reducible first | exact HB.out | apply below_alloc | apply pw_below_drewN | apply below_drew1) | exact HB.out)))); have n1_ := Aside0.mk (below_step (by repeat (first | (with_reducible first | exact HB.out | apply below_alloc | apply pw_below_drewN | apply below_drew1) | exact HB.out)) hb); clear HB; have HO133 := n0_; have HB := n1_; clear n0_ n1_; (try clear hb); (try clear hb2); (try clear hk); (try clear hi); (try clear ho0)))
  (try simp only [Act.put, List.setIfInBounds_toArray, List.set_cons_zero, List.set_cons_succ])
  go_cut [32] (fun v32 wc => ∃ (kq : Nat) (x32_3 : Bool), v32 = .bool x32_3 ∧ Aside0 (armor_Decode.j0 kq t131 x32_3 = some (r1, r2, r3)) ∧ Aside0 (kq ≤ k) ∧ Aside0 (Kd.R Kd.string 9 wc w.heap.size (fun _ => True) v132 t131) ∧ Aside0 (Below w.heap.size w wc))
  case first =>
    have H := HC4.out
    clear HC4
    by_cases c6 : t130 = true
    · subst c6
      have H1 : (armor_Decode.j0 k t131 (decide ((t131.length : Int) < 3))) = some (r1, r2, r3) := by rw [if_pos rfl] at H; exact H
      clear H
      have H := H1
      clear H1
      have H' := Aside0.mk H
      clear H
      obtain ⟨Ao7, co7, eo7⟩ := Kd.R_slice HO133.out
      subst eo7
      go_wp2
      go_meet
      case rel => exact ⟨_, (decide ((t131.length : Int) < 3)), (by first | rfl | (simp; done) | (simp [*]; done)), H', ⟨by first | omega | exact Nat.le_refl _⟩, ⟨by (with_reducible repeat (first | apply Kd.R_alloc | apply Kd.R_drewN | apply Kd.R_drew)); exact HO133.out⟩, ⟨by repeat (first | (with_reducible first | exact HB.out | apply below_alloc | apply pw_below_drewN | apply below_drew1) | exact HB.out)⟩⟩
    · replace c6 := Bool.eq_false_iff.mpr c6
      subst c6
      have H1 : (armor_Decode.j0 k t131 true) = some (r1, r2, r3) := by rw [if_neg (show ¬ (false = true) by decide)] at H; exact H
      clear H
      have H := H1
      clear H1
      have H' := Aside0.mk H
      clear H
      go_wp2
      go_meet
      case rel => exact ⟨_, (true), (by first | rfl | (simp; done) | (simp [*]; done)), H', ⟨by first | omega | exact Nat.le_refl _⟩, ⟨by (with_reducible repeat (first | apply Kd.R_alloc | apply Kd.R_drewN | apply Kd.R_drew)); exact HO133.out⟩, ⟨by repeat (first | (with_reducible first | exact HB.out | apply below_alloc | apply pw_below_drewN | apply below_drew1) | exact HB.out)⟩⟩
  case rest =>
    clear HC4
    try clear c1
    try clear c2
    try clear p2
    try clear c6
    obtain ⟨kq, x32_3, rfl, HA, HJ3, HO_7, HB⟩ := hcut
    cases kq with
    | zero => exact absurd HA.out (by simp [armor_Decode.j0])
    | succ kj3 =>
      have H := HA.out
      clear HA
      simp only [armor_Decode.j0] at H
      by_cases c8 : x32_3 = true
      · subst c8
        have H1 : (some ((⟨#[]⟩ : ByteArray), (⟨#[]⟩ : ByteArray), 2)) = some (r1, r2, r3) := by rw [if_pos rfl] at H; exact H
        clear H
        have H := H1
        clear H1
        simp only [Option.some.injEq, Prod.mk.injEq] at H
        obtain ⟨rfl, rfl, rfl⟩ := H
        go_wp2
        go_ret3
        exact ⟨by first | rfl | (simp [errW_none, errW_some] <;> rfl) | (simp [*, errW_none, errW_some] <;> rfl), by repeat (first | (with_reducible first | exact HB.out | apply below_alloc | apply pw_below_drewN | apply below_drew1) | exact HB.out)⟩
      · replace c8 := Bool.eq_false_iff.mpr c8
        subst c8
        have H1 : (if 0 < (t131.length : Int) then ((armor_cut.f (rdOf ByteArray.empty t131 0) (⟨#[45, 45, 45, 45, 45, 66, 69, 71, 73, 78, 32]⟩ : ByteArray) (⟨#[45, 45, 45, 45, 45]⟩ : ByteArray)).bind fun bt135 => (if 0 ≤ (wrap64 ((t131.length : Int) - 1)) then (if (wrap64 ((t131.length : Int) - 1)) < (t131.length : Int) then ((armor_cut.f (rdOf ByteArray.empty t131 (wrap64 ((t131.length : Int) - 1))) (⟨#[45, 45, 45, 45, 45, 69, 78, 68, 32]⟩ : ByteArray) (⟨#[45, 45, 45, 45, 45]⟩ : ByteArray)).bind fun bt138 => (if bt135.2 = true then (if bt138.2 = true then (if bt135.1.toList = bt138.1.toList then ((armor_right.f bt135.1).bind fun t140 => (if t140 = true then (if 1 ≤ (wrap64 ((wrap64 ((t131.length : Int) - 1)) - 1)) then (if (wrap64 ((wrap64 ((t131.length : Int) - 1)) - 1)) ≤ (t131.length : Int) then ((armor_even.f kj3 ((t131.take ((wrap64 ((wrap64 ((t131.length : Int) - 1)) - 1)) : Int).toNat).drop 1)).bind fun t145 => (armor_Decode.j1 kj3 t131 (wrap64 ((t131.length : Int) - 1)) bt135.1 (!t145))) else (none)) else (none)) else (armor_Decode.j1 kj3 t131 (wrap64 ((t131.length : Int) - 1)) bt135.1 true))) else (armor_Decode.j1 kj3 t131 (wrap64 ((t131.length : Int) - 1)) bt135.1 true)) else (armor_Decode.j1 kj3 t131 (wrap64 ((t131.length : Int) - 1)) bt135.1 true)) else (armor_Decode.j1 kj3 t131 (wrap64 ((t131.length : Int) - 1)) bt135.1 true))) else (none)) else (none))) else (none)) = some (r1, r2, r3) := by rw [if_neg (show ¬ (false = true) by decide)] at H; exact H
        clear H
        have H := H1
        clear H1
        by_cases c9 : 0 < (t131.length : Int)
        · rw [if_pos c9] at H
          have c9b0 : decide (0 < (t131.length : Int)) = true := decide_eq_true c9
          have c9b1 : decide (0 < t131.length) = true := decide_eq_true (by omega)
          clear c9
          replace H := Option.bind_eq_some_iff.mp H
          obtain ⟨⟨t135, t136⟩, A100, H⟩ := H
          replace H : (if 0 ≤ (wrap64 ((t131.length : Int) - 1)) then (if (wrap64 ((t131.length : Int) - 1)) < (t131.length : Int) then ((armor_cut.f (rdOf ByteArray.empty t131 (wrap64 ((t131.length : Int) - 1))) (⟨#[45, 45, 45, 45, 45, 69, 78, 68, 32]⟩ : ByteArray) (⟨#[45, 45, 45, 45, 45]⟩ : ByteArray)).bind fun bt138 => (if t136 = true then (if bt138.2 = true then (if t135.toList = bt138.1.toList then ((armor_right.f t135).bind fun t140 => (if t140 = true then (if 1 ≤ (wrap64 ((wrap64 ((t131.length : Int) - 1)) - 1)) then (if (wrap64 ((wrap64 ((t131.length : Int) - 1)) - 1)) ≤ (t131.length : Int) then ((armor_even.f kj3 ((t131.take ((wrap64 ((wrap64 ((t131.length : Int) - 1)) - 1)) : Int).toNat).drop 1)).bind fun t145 => (armor_Decode.j1 kj3 t131 (wrap64 ((t131.length : Int) - 1)) t135 (!t145))) else (none)) else (none)) else (armor_Decode.j1 kj3 t131 (wrap64 ((t131.length : Int) - 1)) t135 true))) else (armor_Decode.j1 kj3 t131 (wrap64 ((t131.length : Int) - 1)) t135 true)) else (armor_Decode.j1 kj3 t131 (wrap64 ((t131.length : Int) - 1)) t135 true)) else (armor_Decode.j1 kj3 t131 (wrap64 ((t131.length : Int) - 1)) t135 true))) else (none)) else (none)) = some (r1, r2, r3) := H
          have A10 := Aside0.mk A100
          clear A100
          obtain ⟨ji11, hji11⟩ : ∃ j_ : Int, (wrap64 ((t131.length : Int) - 1)) = j_ := ⟨_, rfl⟩
          replace H : (if 0 ≤ (ji11) then (if (ji11) < (t131.length : Int) then ((armor_cut.f (rdOf ByteArray.empty t131 (ji11)) (⟨#[45, 45, 45, 45, 45, 69, 78, 68, 32]⟩ : ByteArray) (⟨#[45, 45, 45, 45, 45]⟩ : ByteArray)).bind fun bt138 => (if t136 = true then (if bt138.2 = true then (if t135.toList = bt138.1.toList then ((armor_right.f t135).bind fun t140 => (if t140 = true then (if 1 ≤ (wrap64 ((ji11) - 1)) then (if (wrap64 ((ji11) - 1)) ≤ (t131.length : Int) then ((armor_even.f kj3 ((t131.take ((wrap64 ((ji11) - 1)) : Int).toNat).drop 1)).bind fun t145 => (armor_Decode.j1 kj3 t131 ji11 t135 (!t145))) else (none)) else (none)) else (armor_Decode.j1 kj3 t131 ji11 t135 true))) else (armor_Decode.j1 kj3 t131 ji11 t135 true)) else (armor_Decode.j1 kj3 t131 ji11 t135 true)) else (armor_Decode.j1 kj3 t131 ji11 t135 true))) else (none)) else (none)) = some (r1, r2, r3) := by first | (rw [hji11] at H; exact H) | (simp only [hji11] at H ⊢; exact H)
          (try rw [hji11] at A10)
          have hji11w : (IntKind.i64.wrap ((t131.length : Int) - 1)) = ji11 := (i64_w _).trans hji11
          by_cases c12 : 0 ≤ (ji11)
          · rw [if_pos c12] at H
            have c12b0 : decide (0 ≤ (ji11)) = true := decide_eq_true c12
            clear c12
            by_cases c13 : (ji11) < (t131.length : Int)
            · rw [if_pos c13] at H
              have c13b0 : decide ((ji11) < (t131.length : Int)) = true := decide_eq_true c13
              clear c13
              replace H := Option.bind_eq_some_iff.mp H
              obtain ⟨⟨t138, t139⟩, A140, H⟩ := H
              replace H : (if t136 = true then (if t139 = true then (if t135.toList = t138.toList then ((armor_right.f t135).bind fun t140 => (if t140 = true then (if 1 ≤ (wrap64 ((ji11) - 1)) then (if (wrap64 ((ji11) - 1)) ≤ (t131.length : Int) then ((armor_even.f kj3 ((t131.take ((wrap64 ((ji11) - 1)) : Int).toNat).drop 1)).bind fun t145 => (armor_Decode.j1 kj3 t131 ji11 t135 (!t145))) else (none)) else (none)) else (armor_Decode.j1 kj3 t131 ji11 t135 true))) else (armor_Decode.j1 kj3 t131 ji11 t135 true)) else (armor_Decode.j1 kj3 t131 ji11 t135 true)) else (armor_Decode.j1 kj3 t131 ji11 t135 true)) = some (r1, r2, r3) := H
              have A14 := Aside0.mk A140
              clear A140
              have HC15 := Aside0.mk H
              clear H
              obtain ⟨Ao16, co16, eo16⟩ := Kd.R_slice HO_7.out
              subst eo16
              have p134 : 0 ≤ (0 : Int) := (by omega)
              have q134 : 0 < (t131.length : Int) := of_decide_eq_true (by first | (with_reducible assumption) | assumption)
              obtain ⟨ad134, e134, hx134_0⟩ := Kd.at_string (Kd.R_reads' HO_7.out).2.2 0 p134 q134
              cases e134
              have qi134 : (0 < t131.length) = True := eq_true (by omega)
              (try rw [show ((0 : Int)).toNat = 0 from rfl] at hx134_0)
              (try rw [Addr.add_zero'] at hx134_0)
              replace p134 := eq_true p134
              replace q134 := eq_true q134
              go_upto_region 8 with (first | ((with_reducible refine gate_callee (f := 26) rfl ?_); refine goesL_ (some 40) rfl rfl Tryd.func26 (by kernel_rfl) rfl #[.string (rdOf ByteArray.empty t131 0), .string (⟨#[45, 45, 45, 45, 45, 66, 69, 71, 73, 78, 32]⟩ : ByteArray), .string (⟨#[45, 45, 45, 45, 45]⟩ : ByteArray)] rfl (by (try simp only [List.map_toArray, List.map_cons, List.map_nil]); first | done | rfl | (simp only [List.length_drop, List.length_take]; rfl)) ?_; (with_reducible refine (armor_cut.calls (rdOf ByteArray.empty t131 0) (⟨#[45, 45, 45, 45, 45, 66, 69, 71, 73, 78, 32]⟩ : ByteArray) (⟨#[45, 45, 45, 45, 45]⟩ : ByteArray) t135 t136 _ A10.out).mono ?_); rintro e w' ⟨rfl, ⟨nd, rfl⟩⟩; refine ⟨_, rfl, ?_⟩; have p137 : 0 ≤ ((ji11) : Int) := of_decide_eq_true (by first | (with_reducible assumption) | assumption); have q137 : (ji11) < (t131.length : Int) := of_decide_eq_true (by first | (with_reducible assumption) | assumption); obtain ⟨ad137, e137, hx137_0⟩ := Kd.at_string (Kd.R_reads' HO_7.out).2.2 (ji11) p137 q137; obtain rfl : ad134 = ad137 := (by injection e137); replace p137 := eq_true p137; replace q137 := eq_true q137) | ((with_reducible refine gate_callee (f := 26) rfl ?_); refine goesL_ (some 48) rfl rfl Tryd.func26 (by kernel_rfl) rfl #[.string (rdOf ByteArray.empty t131 (ji11)), .string (⟨#[45, 45, 45, 45, 45, 69, 78, 68, 32]⟩ : ByteArray), .string (⟨#[45, 45, 45, 45, 45]⟩ : ByteArray)] rfl (by (try simp only [List.map_toArray, List.map_cons, List.map_nil]); first | done | (simp only [hji11]; rfl) | rfl | (simp only [List.length_drop, List.length_take]; rfl)) ?_; (with_reducible refine (armor_cut.calls (rdOf ByteArray.empty t131 (ji11)) (⟨#[45, 45, 45, 45, 45, 69, 78, 68, 32]⟩ : ByteArray) (⟨#[45, 45, 45, 45, 45]⟩ : ByteArray) t138 t139 _ A14.out).mono ?_); rintro e w' ⟨rfl, ⟨nd, rfl⟩⟩; refine ⟨_, rfl, ?_⟩))
              (try simp only [Act.put, List.setIfInBounds_toArray, List.set_cons_zero, List.set_cons_succ])
              go_cut [74] (fun v74 wc => ∃ (kq : Nat) (x74_14 : Bool), v74 = .bool x74_14 ∧ Aside0 (armor_Decode.j1 kq t131 ji11 t135 x74_14 = some (r1, r2, r3)) ∧ Aside0 (kq ≤ kj3) ∧ Aside0 (Kd.R Kd.string 9 wc w.heap.size (fun _ => True) (.slice (some ad134) t131.length co16) t131) ∧ Aside0 (Below w.heap.size w wc))
              case first =>
                have H := HC15.out
                clear HC15
                by_cases c17 : t136 = true
                · subst c17
                  have H1 : (if t139 = true then (if t135.toList = t138.toList then ((armor_right.f t135).bind fun t140 => (if t140 = true then (if 1 ≤ (wrap64 ((ji11) - 1)) then (if (wrap64 ((ji11) - 1)) ≤ (t131.length : Int) then ((armor_even.f kj3 ((t131.take ((wrap64 ((ji11) - 1)) : Int).toNat).drop 1)).bind fun t145 => (armor_Decode.j1 kj3 t131 ji11 t135 (!t145))) else (none)) else (none)) else (armor_Decode.j1 kj3 t131 ji11 t135 true))) else (armor_Decode.j1 kj3 t131 ji11 t135 true)) else (armor_Decode.j1 kj3 t131 ji11 t135 true)) = some (r1, r2, r3) := by rw [if_pos rfl] at H; exact H
                  clear H
                  have H := H1
                  clear H1
                  by_cases c18 : t139 = true
                  · subst c18
                    have H1 : (if t135.toList = t138.toList then ((armor_right.f t135).bind fun t140 => (if t140 = true then (if 1 ≤ (wrap64 ((ji11) - 1)) then (if (wrap64 ((ji11) - 1)) ≤ (t131.length : Int) then ((armor_even.f kj3 ((t131.take ((wrap64 ((ji11) - 1)) : Int).toNat).drop 1)).bind fun t145 => (armor_Decode.j1 kj3 t131 ji11 t135 (!t145))) else (none)) else (none)) else (armor_Decode.j1 kj3 t131 ji11 t135 true))) else (armor_Decode.j1 kj3 t131 ji11 t135 true)) = some (r1, r2, r3) := by rw [if_pos rfl] at H; exact H
                    clear H
                    have H := H1
                    clear H1
                    by_cases c19 : t135.toList = t138.toList
                    · rw [if_pos c19] at H
                      have c19b0 : (t135.toList == t138.toList) = true := beq_iff_eq.mpr c19
                      have c19b1 : (t135.toList != t138.toList) = false := bne_eq_false_iff_eq.mpr c19
                      clear c19
                      (first | rw [c19b0] | (simp only [i64_w, i32_w]; rw [c19b0]) | skip)
                      replace H := Option.bind_eq_some_iff.mp H
                      obtain ⟨t140, A200, H⟩ := H
                      replace H : (if t140 = true then (if 1 ≤ (wrap64 ((ji11) - 1)) then (if (wrap64 ((ji11) - 1)) ≤ (t131.length : Int) then ((armor_even.f kj3 ((t131.take ((wrap64 ((ji11) - 1)) : Int).toNat).drop 1)).bind fun t145 => (armor_Decode.j1 kj3 t131 ji11 t135 (!t145))) else (none)) else (none)) else (armor_Decode.j1 kj3 t131 ji11 t135 true)) = some (r1, r2, r3) := H
                      have A20 := Aside0.mk A200
                      clear A200
                      by_cases c21 : t140 = true
                      · subst c21
                        have H1 : (if 1 ≤ (wrap64 ((ji11) - 1)) then (if (wrap64 ((ji11) - 1)) ≤ (t131.length : Int) then ((armor_even.f kj3 ((t131.take ((wrap64 ((ji11) - 1)) : Int).toNat).drop 1)).bind fun t145 => (armor_Decode.j1 kj3 t131 ji11 t135 (!t145))) else (none)) else (none)) = some (r1, r2, r3) := by rw [if_pos rfl] at H; exact H
                        clear H
                        have H := H1
                        clear H1
                        by_cases c22 : 1 ≤ (wrap64 ((ji11) - 1))
                        · rw [if_pos c22] at H
                          have c22b0 := eq_true c22
                          have c22b1 : decide (1 ≤ (wrap64 ((ji11) - 1))) = true := decide_eq_true c22
                          clear c22
                          by_cases c23 : (wrap64 ((ji11) - 1)) ≤ (t131.length : Int)
                          · rw [if_pos c23] at H
                            have c23b0 := eq_true c23
                            have c23b1 : decide ((wrap64 ((ji11) - 1)) ≤ (t131.length : Int)) = true := decide_eq_true c23
                            clear c23
                            obtain ⟨y141, hy141⟩ : ∃ y_ : List ByteArray, y_ = ((t131.take ((wrap64 ((ji11) - 1)) : Int).toNat).drop 1) := ⟨_, rfl⟩
                            replace H : ((armor_even.f kj3 y141).bind fun t145 => (armor_Decode.j1 kj3 t131 ji11 t135 (!t145))) = some (r1, r2, r3) := by first | (rw [hy141]; with_reducible exact H) | (have H2_ := (Option.bind_some _ _).symm.trans H; rw [hy141]; with_reducible exact H2_) | (have H2_ := (Option.bind_some _ _).symm.trans H; with_reducible exact H2_) | with_reducible exact H | (rw [hy141]; exact H) | exact H
                            have Ny141 := Aside0.mk hy141
                            clear hy141
                            replace H := Option.bind_eq_some_iff.mp H
                            obtain ⟨t145, A240, H⟩ := H
                            replace H : (armor_Decode.j1 kj3 t131 ji11 t135 (!t145)) = some (r1, r2, r3) := H
                            have A24 := Aside0.mk A240
                            clear A240
                            have H' := Aside0.mk H
                            clear H
                            go_wp2_with (first | (go_at_call 19; (with_reducible refine (armor_right.calls t135 true _ A20.out).mono ?_); rintro e w25 ⟨rfl, hb⟩; have n0_ := Aside0.mk (Kd.R_below (by (with_reducible repeat (first | apply Kd.R_alloc | apply Kd.R_drewN | apply Kd.R_drew)); exact HO_7.out) hb); have n1_ := Aside0.mk (below_step (by repeat (first | (with_reducible first | exact HB.out | apply below_alloc | apply pw_below_drewN | apply below_drew1) | exact HB.out)) hb); clear HO_7; clear HB; have HO_7 := n0_; have HB := n1_; clear n0_ n1_; (try clear hb); (try clear hb2); (try clear hk); (try clear hi); have q26 : ((wrap64 ((ji11) - 1)) : Int) ≤ ((t131.length : Int) : Int) := of_decide_eq_true (by first | (with_reducible assumption) | assumption); obtain ⟨i026, hi026, _, hsz26, _⟩ := info_parts info9; have hroom26 : t131.length ≤ co16 := (Kd.R_reads' HO_7.out).2.1; have hC26 : Kd.C Kd.string _ (some ad134) t131.length t131 := (Kd.R_reads' HO_7.out).2.2; have ql26 : (1 : Int) ≤ ((wrap64 ((ji11) - 1)) : Int) := of_decide_eq_true (by first | (with_reducible assumption) | assumption); have hcut26 := cut_mid (P := Tryd.prog) 53 9 .i64 .i64 Tryd.underlying53 hi026 1 hsz26 (some ad134) t131.length co16 1 (wrap64 ((ji11) - 1)) (by omega) ql26 q26 hroom26; have hr26 := Kd.C_mid (lo := (1 : Int).toNat) (hi := ((wrap64 ((ji11) - 1)) : Int).toNat) (c := co16) hC26 (by omega) (by omega) hroom26; obtain ⟨A26, hA26⟩ : ∃ A1, A1 = (if co16 = (1 : Int).toNat then (some ad134) else ((some ad134) : Option Addr).map (·.add ((1 : Int).toNat * 1))) := ⟨_, rfl⟩; obtain ⟨c26, hc26⟩ : ∃ c1, c1 = co16 - (1 : Int).toNat := ⟨_, rfl⟩; have hy26 : y141.length = ((wrap64 ((ji11) - 1)) : Int).toNat - (1 : Int).toNat := (by rw [Ny141.out, List.length_drop, List.length_take] <;> omega); rw [show ((t131).take ((wrap64 ((ji11) - 1)) : Int).toNat).drop (1 : Int).toNat = y141 from Ny141.out.symm] at hr26; replace hr26 : Kd.C Kd.string _ A26 y141.length y141 := (by rw [hA26]; exact hr26); rw [← hy26, ← hA26, ← hc26] at hcut26; have HR144 := Aside0.mk hr26; have HC144 := Aside0.mk (show y141.length ≤ c26 from by rw [hy26, hc26]; exact Nat.sub_le_sub_right (Nat.le_trans (by omega) hroom26) _); clear hr26 hC26 hroom26 hi026 hsz26 hc26; have KY26 := Aside0.mk hy26; have KA26 := Aside0.mk hA26; clear hy26 hA26; have KL26 := Aside0.mk (show ((wrap64 ((ji11) - 1)) : Int).toNat ≤ t131.length from by omega); have KM26 := Aside0.mk (show 1 ≤ ((wrap64 ((ji11) - 1)) : Int).toNat from by omega); replace q26 := eq_true q26) | (go_at_call 27; (with_reducible refine (armor_even.calls kj3 _ _ y141 t145 _ ?side1 ?side2 A24.out).mono ?_); (case side1 => repeat (first | exact (by repeat (first | (with_reducible exact HR144.out) | (with_reducible refine Kd.C_alloc ?_ _) | (with_reducible refine Kd.C_drewN ?_ _) | (with_reducible refine Kd.C_drew ?_) | exact HR144.out)) | (with_reducible refine Kd.C_alloc ?_ _) | (with_reducible refine Kd.C_drewN ?_ _) | (with_reducible refine Kd.C_drew ?_))); (case side2 => exact HC144.out); rintro e w' ⟨rfl, ⟨nd, rfl⟩⟩))
                            go_meet
                            case rel => exact ⟨_, (!t145), (by first | rfl | (simp; done) | (simp [*]; done)), H', ⟨by have := HJ3.out; first | omega | exact Nat.le_refl _⟩, ⟨by (with_reducible repeat (first | apply Kd.R_alloc | apply Kd.R_drewN | apply Kd.R_drew)); exact HO_7.out⟩, ⟨by repeat (first | (with_reducible first | exact HB.out | apply below_alloc | apply pw_below_drewN | apply below_drew1) | exact HB.out)⟩⟩
                          · rw [if_neg c23] at H
                            exact absurd H (by simp)
                        · rw [if_neg c22] at H
                          exact absurd H (by simp)
                      · replace c21 := Bool.eq_false_iff.mpr c21
                        subst c21
                        have H1 : (armor_Decode.j1 kj3 t131 ji11 t135 true) = some (r1, r2, r3) := by rw [if_neg (show ¬ (false = true) by decide)] at H; exact H
                        clear H
                        have H := H1
                        clear H1
                        have H' := Aside0.mk H
                        clear H
                        go_wp2_with (first | (go_at_call 19; (with_reducible refine (armor_right.calls t135 false _ A20.out).mono ?_); rintro e w27 ⟨rfl, hb⟩; have n0_ := Aside0.mk (Kd.R_below (by (with_reducible repeat (first | apply Kd.R_alloc | apply Kd.R_drewN | apply Kd.R_drew)); exact HO_7.out) hb); have n1_ := Aside0.mk (below_step (by repeat (first | (with_reducible first | exact HB.out | apply below_alloc | apply pw_below_drewN | apply below_drew1) | exact HB.out)) hb); clear HO_7; clear HB; have HO_7 := n0_; have HB := n1_; clear n0_ n1_; (try clear hb); (try clear hb2); (try clear hk); (try clear hi)))
                        go_meet
                        case rel => exact ⟨_, (true), (by first | rfl | (simp; done) | (simp [*]; done)), H', ⟨by have := HJ3.out; first | omega | exact Nat.le_refl _⟩, ⟨by (with_reducible repeat (first | apply Kd.R_alloc | apply Kd.R_drewN | apply Kd.R_drew)); exact HO_7.out⟩, ⟨by repeat (first | (with_reducible first | exact HB.out | apply below_alloc | apply pw_below_drewN | apply below_drew1) | exact HB.out)⟩⟩
                    · rw [if_neg c19] at H
                      have c19b0 : (t135.toList == t138.toList) = false := beq_eq_false_iff_ne.mpr c19
                      have c19b1 : (t135.toList != t138.toList) = true := bne_iff_ne.mpr c19
                      (first | rw [c19b0] | (simp only [i64_w, i32_w]; rw [c19b0]) | skip)
                      have H' := Aside0.mk H
                      clear H
                      go_wp2
                      go_meet
                      case rel => exact ⟨_, (true), (by first | rfl | (simp; done) | (simp [*]; done)), H', ⟨by have := HJ3.out; first | omega | exact Nat.le_refl _⟩, ⟨by (with_reducible repeat (first | apply Kd.R_alloc | apply Kd.R_drewN | apply Kd.R_drew)); exact HO_7.out⟩, ⟨by repeat (first | (with_reducible first | exact HB.out | apply below_alloc | apply pw_below_drewN | apply below_drew1) | exact HB.out)⟩⟩
                  · replace c18 := Bool.eq_false_iff.mpr c18
                    subst c18
                    have H1 : (armor_Decode.j1 kj3 t131 ji11 t135 true) = some (r1, r2, r3) := by rw [if_neg (show ¬ (false = true) by decide)] at H; exact H
                    clear H
                    have H := H1
                    clear H1
                    have H' := Aside0.mk H
                    clear H
                    go_wp2
                    go_meet
                    case rel => exact ⟨_, (true), (by first | rfl | (simp; done) | (simp [*]; done)), H', ⟨by have := HJ3.out; first | omega | exact Nat.le_refl _⟩, ⟨by (with_reducible repeat (first | apply Kd.R_alloc | apply Kd.R_drewN | apply Kd.R_drew)); exact HO_7.out⟩, ⟨by repeat (first | (with_reducible first | exact HB.out | apply below_alloc | apply pw_below_drewN | apply below_drew1) | exact HB.out)⟩⟩
                · replace c17 := Bool.eq_false_iff.mpr c17
                  subst c17
                  have H1 : (armor_Decode.j1 kj3 t131 ji11 t135 true) = some (r1, r2, r3) := by rw [if_neg (show ¬ (false = true) by decide)] at H; exact H
                  clear H
                  have H := H1
                  clear H1
                  have H' := Aside0.mk H
                  clear H
                  go_wp2
                  go_meet
                  case rel => exact ⟨_, (true), (by first | rfl | (simp; done) | (simp [*]; done)), H', ⟨by have := HJ3.out; first | omega | exact Nat.le_refl _⟩, ⟨by (with_reducible repeat (first | apply Kd.R_alloc | apply Kd.R_drewN | apply Kd.R_drew)); exact HO_7.out⟩, ⟨by repeat (first | (with_reducible first | exact HB.out | apply below_alloc | apply pw_below_drewN | apply below_drew1) | exact HB.out)⟩⟩
              case rest =>
                clear HC15
                try clear c1
                try clear p1
                try clear q1
                try clear hx1
                try clear qi1
                try clear c2
                try clear p2
                try clear q2
                try clear c6
                try clear p6
                try clear c8
                try clear c9
                try clear c9b0
                try clear c9b1
                try clear c12
                try clear c12b0
                try clear c13
                try clear c13b0
                try clear p13
                try clear q13
                try clear hx13
                try clear qi13
                try clear c17
                try clear c18
                try clear c19
                try clear c19b0
                try clear c19b1
                try clear c21
                try clear c22
                try clear c22b0
                try clear c22b1
                try clear c23
                try clear c23b0
                try clear c23b1
                try clear c24
                try clear c25
                try clear c26
                try clear q26
                try clear hx134_0
                try clear hx137_0
                try clear p134
                try clear p137
                try clear p2
                try clear q134
                try clear q137
                try clear q26
                obtain ⟨kq, x74_14, rfl, HA, HJ14, HO_7, HB⟩ := hcut
                cases kq with
                | zero => exact absurd HA.out (by simp [armor_Decode.j1])
                | succ kj14 =>
                  have H := HA.out
                  clear HA
                  simp only [armor_Decode.j1] at H
                  by_cases c28 : x74_14 = true
                  · subst c28
                    have H1 : (some ((⟨#[]⟩ : ByteArray), (⟨#[]⟩ : ByteArray), 2)) = some (r1, r2, r3) := by rw [if_pos rfl] at H; exact H
                    clear H
                    have H := H1
                    clear H1
                    simp only [Option.some.injEq, Prod.mk.injEq] at H
                    obtain ⟨rfl, rfl, rfl⟩ := H
                    go_wp2
                    go_ret3
                    exact ⟨by first | rfl | (simp [errW_none, errW_some] <;> rfl) | (simp only [← hji11]; first | rfl | (simp [errW_none, errW_some] <;> rfl)) | (simp [*, errW_none, errW_some] <;> rfl), by repeat (first | (with_reducible first | exact HB.out | apply below_alloc | apply pw_below_drewN | apply below_drew1) | exact HB.out)⟩
                  · replace c28 := Bool.eq_false_iff.mpr c28
                    subst c28
                    have H1 : (if 1 ≤ (wrap64 (ji11 - 1)) then (if (wrap64 (ji11 - 1)) ≤ (t131.length : Int) then ((strings_Join.f ((t131.take ((wrap64 (ji11 - 1)) : Int).toNat).drop 1) (⟨#[]⟩ : ByteArray)).bind fun t150 => ((armor_Bytes.f t150).bind fun bt151 => (if 0 ≤ (wrap64 (ji11 - 1)) then (if (wrap64 (ji11 - 1)) < (t131.length : Int) then ((strings_CutPrefix.f (rdOf ByteArray.empty t131 (wrap64 (ji11 - 1))) (⟨#[61]⟩ : ByteArray)).bind fun bt154 => ((armor_Bytes.f bt154.1).bind fun bt156 => (if bt151.2 = 0 then (if bt154.2 = true then (if bt156.2 = 0 then (armor_Decode.j2 kj14 t131 ji11 t135 bt151.1 ((bt156.1.size : Int) != 3)) else (armor_Decode.j2 kj14 t131 ji11 t135 bt151.1 true)) else (armor_Decode.j2 kj14 t131 ji11 t135 bt151.1 true)) else (armor_Decode.j2 kj14 t131 ji11 t135 bt151.1 true)))) else (none)) else (none)))) else (none)) else (none)) = some (r1, r2, r3) := by rw [if_neg (show ¬ (false = true) by decide)] at H; exact H
                    clear H
                    have H := H1
                    clear H1
                    by_cases c29 : 1 ≤ (wrap64 (ji11 - 1))
                    · rw [if_pos c29] at H
                      have c29b0 := eq_true c29
                      have c29b1 : decide (1 ≤ (wrap64 (ji11 - 1))) = true := decide_eq_true c29
                      clear c29
                      by_cases c30 : (wrap64 (ji11 - 1)) ≤ (t131.length : Int)
                      · rw [if_pos c30] at H
                        have c30b0 := eq_true c30
                        have c30b1 : decide ((wrap64 (ji11 - 1)) ≤ (t131.length : Int)) = true := decide_eq_true c30
                        clear c30
                        obtain ⟨y146, hy146⟩ : ∃ y_ : List ByteArray, y_ = ((t131.take ((wrap64 (ji11 - 1)) : Int).toNat).drop 1) := ⟨_, rfl⟩
                        replace H : ((strings_Join.f y146 (⟨#[]⟩ : ByteArray)).bind fun t150 => ((armor_Bytes.f t150).bind fun bt151 => (if 0 ≤ (wrap64 (ji11 - 1)) then (if (wrap64 (ji11 - 1)) < (t131.length : Int) then ((strings_CutPrefix.f (rdOf ByteArray.empty t131 (wrap64 (ji11 - 1))) (⟨#[61]⟩ : ByteArray)).bind fun bt154 => ((armor_Bytes.f bt154.1).bind fun bt156 => (if bt151.2 = 0 then (if bt154.2 = true then (if bt156.2 = 0 then (armor_Decode.j2 kj14 t131 ji11 t135 bt151.1 ((bt156.1.size : Int) != 3)) else (armor_Decode.j2 kj14 t131 ji11 t135 bt151.1 true)) else (armor_Decode.j2 kj14 t131 ji11 t135 bt151.1 true)) else (armor_Decode.j2 kj14 t131 ji11 t135 bt151.1 true)))) else (none)) else (none)))) = some (r1, r2, r3) := by first | (rw [hy146]; with_reducible exact H) | (have H2_ := (Option.bind_some _ _).symm.trans H; rw [hy146]; with_reducible exact H2_) | (have H2_ := (Option.bind_some _ _).symm.trans H; with_reducible exact H2_) | with_reducible exact H | (rw [hy146]; exact H) | exact H
                        have Ny146 := Aside0.mk hy146
                        clear hy146
                        replace H := Option.bind_eq_some_iff.mp H
                        obtain ⟨t150, A310, H⟩ := H
                        replace H : ((armor_Bytes.f t150).bind fun bt151 => (if 0 ≤ (wrap64 (ji11 - 1)) then (if (wrap64 (ji11 - 1)) < (t131.length : Int) then ((strings_CutPrefix.f (rdOf ByteArray.empty t131 (wrap64 (ji11 - 1))) (⟨#[61]⟩ : ByteArray)).bind fun bt154 => ((armor_Bytes.f bt154.1).bind fun bt156 => (if bt151.2 = 0 then (if bt154.2 = true then (if bt156.2 = 0 then (armor_Decode.j2 kj14 t131 ji11 t135 bt151.1 ((bt156.1.size : Int) != 3)) else (armor_Decode.j2 kj14 t131 ji11 t135 bt151.1 true)) else (armor_Decode.j2 kj14 t131 ji11 t135 bt151.1 true)) else (armor_Decode.j2 kj14 t131 ji11 t135 bt151.1 true)))) else (none)) else (none))) = some (r1, r2, r3) := H
                        have A31 := Aside0.mk A310
                        clear A310
                        replace H := Option.bind_eq_some_iff.mp H
                        obtain ⟨⟨t151, t152⟩, A320, H⟩ := H
                        replace H : (if 0 ≤ (wrap64 (ji11 - 1)) then (if (wrap64 (ji11 - 1)) < (t131.length : Int) then ((strings_CutPrefix.f (rdOf ByteArray.empty t131 (wrap64 (ji11 - 1))) (⟨#[61]⟩ : ByteArray)).bind fun bt154 => ((armor_Bytes.f bt154.1).bind fun bt156 => (if t152 = 0 then (if bt154.2 = true then (if bt156.2 = 0 then (armor_Decode.j2 kj14 t131 ji11 t135 t151 ((bt156.1.size : Int) != 3)) else (armor_Decode.j2 kj14 t131 ji11 t135 t151 true)) else (armor_Decode.j2 kj14 t131 ji11 t135 t151 true)) else (armor_Decode.j2 kj14 t131 ji11 t135 t151 true)))) else (none)) else (none)) = some (r1, r2, r3) := H
                        have A32 := Aside0.mk A320
                        clear A320
                        obtain ⟨ji33, hji33⟩ : ∃ j_ : Int, (wrap64 (ji11 - 1)) = j_ := ⟨_, rfl⟩
                        replace H : (if 0 ≤ (ji33) then (if (ji33) < (t131.length : Int) then ((strings_CutPrefix.f (rdOf ByteArray.empty t131 (ji33)) (⟨#[61]⟩ : ByteArray)).bind fun bt154 => ((armor_Bytes.f bt154.1).bind fun bt156 => (if t152 = 0 then (if bt154.2 = true then (if bt156.2 = 0 then (armor_Decode.j2 kj14 t131 ji11 t135 t151 ((bt156.1.size : Int) != 3)) else (armor_Decode.j2 kj14 t131 ji11 t135 t151 true)) else (armor_Decode.j2 kj14 t131 ji11 t135 t151 true)) else (armor_Decode.j2 kj14 t131 ji11 t135 t151 true)))) else (none)) else (none)) = some (r1, r2, r3) := by first | (rw [hji33] at H; exact H) | (simp only [hji33] at H ⊢; exact H)
                        (try rw [hji33] at c29b0)
                        (try rw [hji33] at c29b1)
                        (try rw [hji33] at c30b0)
                        (try rw [hji33] at c30b1)
                        (try rw [hji33] at Ny146)
                        (try rw [hji33] at A31)
                        (try rw [hji33] at A32)
                        have hji33w : (IntKind.i64.wrap (ji11 - 1)) = ji33 := (i64_w _).trans hji33
                        by_cases c34 : 0 ≤ (ji33)
                        · rw [if_pos c34] at H
                          have c34b0 : decide (0 ≤ (ji33)) = true := decide_eq_true c34
                          clear c34
                          by_cases c35 : (ji33) < (t131.length : Int)
                          · rw [if_pos c35] at H
                            have c35b0 : decide ((ji33) < (t131.length : Int)) = true := decide_eq_true c35
                            clear c35
                            replace H := Option.bind_eq_some_iff.mp H
                            obtain ⟨⟨t154, t155⟩, A360, H⟩ := H
                            replace H : ((armor_Bytes.f t154).bind fun bt156 => (if t152 = 0 then (if t155 = true then (if bt156.2 = 0 then (armor_Decode.j2 kj14 t131 ji11 t135 t151 ((bt156.1.size : Int) != 3)) else (armor_Decode.j2 kj14 t131 ji11 t135 t151 true)) else (armor_Decode.j2 kj14 t131 ji11 t135 t151 true)) else (armor_Decode.j2 kj14 t131 ji11 t135 t151 true))) = some (r1, r2, r3) := H
                            have A36 := Aside0.mk A360
                            clear A360
                            replace H := Option.bind_eq_some_iff.mp H
                            obtain ⟨⟨t156, t157⟩, A370, H⟩ := H
                            replace H : (if t152 = 0 then (if t155 = true then (if t157 = 0 then (armor_Decode.j2 kj14 t131 ji11 t135 t151 ((t156.size : Int) != 3)) else (armor_Decode.j2 kj14 t131 ji11 t135 t151 true)) else (armor_Decode.j2 kj14 t131 ji11 t135 t151 true)) else (armor_Decode.j2 kj14 t131 ji11 t135 t151 true)) = some (r1, r2, r3) := H
                            have A37 := Aside0.mk A370
                            clear A370
                            have HC38 := Aside0.mk H
                            clear H
                            have q39 : ((ji33) : Int) ≤ ((t131.length : Int) : Int) := of_decide_eq_true (by first | (with_reducible assumption) | assumption)
                            obtain ⟨i039, hi039, _, hsz39, _⟩ := info_parts info9
                            have hroom39 : t131.length ≤ co16 := (Kd.R_reads' HO_7.out).2.1
                            have hC39 : Kd.C Kd.string _ (some ad134) t131.length t131 := (Kd.R_reads' HO_7.out).2.2
                            have ql39 : (1 : Int) ≤ ((ji33) : Int) := of_decide_eq_true (by first | (with_reducible assumption) | assumption)
                            have hcut39 := cut_mid (P := Tryd.prog) 53 9 .i64 .i64 Tryd.underlying53 hi039 1 hsz39 (some ad134) t131.length co16 1 (ji33) (by omega) ql39 q39 hroom39
                            have hr39 := Kd.C_mid (lo := (1 : Int).toNat) (hi := ((ji33) : Int).toNat) (c := co16) hC39 (by omega) (by omega) hroom39
                            obtain ⟨A39, hA39⟩ : ∃ A1, A1 = (if co16 = (1 : Int).toNat then (some ad134) else ((some ad134) : Option Addr).map (·.add ((1 : Int).toNat * 1))) := ⟨_, rfl⟩
                            obtain ⟨c39, hc39⟩ : ∃ c1, c1 = co16 - (1 : Int).toNat := ⟨_, rfl⟩
                            have hy39 : y146.length = ((ji33) : Int).toNat - (1 : Int).toNat := (by rw [Ny146.out, List.length_drop, List.length_take] <;> omega)
                            rw [show ((t131).take ((ji33) : Int).toNat).drop (1 : Int).toNat = y146 from Ny146.out.symm] at hr39
                            replace hr39 : Kd.C Kd.string _ A39 y146.length y146 := (by rw [hA39]; exact hr39)
                            rw [← hy39, ← hA39, ← hc39] at hcut39
                            have HR149 := Aside0.mk hr39
                            have HC149 := Aside0.mk (show y146.length ≤ c39 from by rw [hy39, hc39]; exact Nat.sub_le_sub_right (Nat.le_trans (by omega) hroom39) _)
                            clear hr39 hC39 hroom39 hi039 hsz39 hc39
                            have KY39 := Aside0.mk hy39
                            have KA39 := Aside0.mk hA39
                            clear hy39 hA39
                            have KL39 := Aside0.mk (show ((ji33) : Int).toNat ≤ t131.length from by omega)
                            have KM39 := Aside0.mk (show 1 ≤ ((ji33) : Int).toNat from by omega)
                            replace q39 := eq_true q39
                            go_upto_region 13 with (first | ((with_reducible refine gate_callee (f := 28) rfl ?_); refine goesL_ (some 80) rfl rfl Tryd.func28 (by kernel_rfl) rfl #[.slice A39 y146.length c39, .string (⟨#[]⟩ : ByteArray)] rfl (by (try simp only [List.map_toArray, List.map_cons, List.map_nil]); first | done | rfl | (simp only [List.length_drop, List.length_take]; rfl)) ?_; (with_reducible refine (strings_Join.calls _ _ y146 (⟨#[]⟩ : ByteArray) t150 _ ?side1 ?side2 A31.out).mono ?_); (case side1 => repeat (first | exact (by repeat (first | (with_reducible exact HR149.out) | (with_reducible refine Kd.C_alloc ?_ _) | (with_reducible refine Kd.C_drewN ?_ _) | (with_reducible refine Kd.C_drew ?_) | exact HR149.out)) | (with_reducible refine Kd.C_alloc ?_ _) | (with_reducible refine Kd.C_drewN ?_ _) | (with_reducible refine Kd.C_drew ?_))); (case side2 => exact HC149.out); rintro e w40 ⟨rfl, hb⟩; refine ⟨_, rfl, ?_⟩; have n0_ := Aside0.mk (Kd.R_below (by (with_reducible repeat (first | apply Kd.R_alloc | apply Kd.R_drewN | apply Kd.R_drew)); exact HO_7.out) hb); have n1_ := Aside0.mk (Kd.C_below (by repeat (first | (with_reducible exact HR149.out) | (with_reducible refine Kd.C_alloc ?_ _) | (with_reducible refine Kd.C_drewN ?_ _) | (with_reducible refine Kd.C_drew ?_) | exact HR149.out)) hb); have n2_ := Aside0.mk (below_step (by repeat (first | (with_reducible first | exact HB.out | apply below_alloc | apply pw_below_drewN | apply below_drew1) | exact HB.out)) hb); clear HO_7; clear HR149; clear HB; have HO_7 := n0_; have HR149 := n1_; have HB := n2_; clear n0_ n1_ n2_; (try clear hb); (try clear hb2); (try clear hk); (try clear hi)) | ((with_reducible refine gate_callee (f := 7) rfl ?_); refine goesL_ (some 81) rfl rfl Tryd.func7 (by kernel_rfl) rfl #[.string t150] rfl (by (try simp only [List.map_toArray, List.map_cons, List.map_nil]); first | done | rfl | (simp only [List.length_drop, List.length_take]; rfl)) ?_; (with_reducible refine (armor_Bytes.calls t150 t151 t152 _ A32.out).mono ?_); rintro e w41 ⟨rfl, hb⟩; refine ⟨_, rfl, ?_⟩; have n0_ := Aside0.mk (Kd.R_below (by (with_reducible repeat (first | apply Kd.R_alloc | apply Kd.R_drewN | apply Kd.R_drew)); exact HO_7.out) hb); have n1_ := Aside0.mk (Kd.C_below (by repeat (first | (with_reducible exact HR149.out) | (with_reducible refine Kd.C_alloc ?_ _) | (with_reducible refine Kd.C_drewN ?_ _) | (with_reducible refine Kd.C_drew ?_) | exact HR149.out)) hb); have n2_ := Aside0.mk (below_step (by repeat (first | (with_reducible first | exact HB.out | apply below_alloc | apply pw_below_drewN | apply below_drew1) | exact HB.out)) hb); clear HO_7; clear HR149; clear HB; have HO_7 := n0_; have HR149 := n1_; have HB := n2_; clear n0_ n1_ n2_; (try clear hb); (try clear hb2); (try clear hk); (try clear hi); have p153 : 0 ≤ ((ji33) : Int) := of_decide_eq_true (by first | (with_reducible assumption) | assumption); have q153 : (ji33) < (t131.length : Int) := of_decide_eq_true (by first | (with_reducible assumption) | assumption); obtain ⟨ad153, e153, hx153_0⟩ := Kd.at_string (Kd.R_reads' HO_7.out).2.2 (ji33) p153 q153; obtain rfl : ad134 = ad153 := (by injection e153); replace p153 := eq_true p153; replace q153 := eq_true q153) | ((with_reducible refine gate_callee (f := 29) rfl ?_); refine goesL_ (some 90) rfl rfl Tryd.func29 (by kernel_rfl) rfl #[.string (rdOf ByteArray.empty t131 (ji33)), .string (⟨#[61]⟩ : ByteArray)] rfl (by (try simp only [List.map_toArray, List.map_cons, List.map_nil]); first | done | (simp only [hji33]; rfl) | rfl | (simp only [List.length_drop, List.length_take]; rfl)) ?_; (with_reducible refine (strings_CutPrefix.calls (rdOf ByteArray.empty t131 (ji33)) (⟨#[61]⟩ : ByteArray) t154 t155 _ A36.out).mono ?_); rintro e w' ⟨rfl, ⟨nd, rfl⟩⟩; refine ⟨_, rfl, ?_⟩) | ((with_reducible refine gate_callee (f := 7) rfl ?_); refine goesL_ (some 95) rfl rfl Tryd.func7 (by kernel_rfl) rfl #[.string t154] rfl (by (try simp only [List.map_toArray, List.map_cons, List.map_nil]); first | done | rfl | (simp only [List.length_drop, List.length_take]; rfl)) ?_; (with_reducible refine (armor_Bytes.calls t154 t156 t157 _ A37.out).mono ?_); rintro e w42 ⟨rfl, hb⟩; refine ⟨_, rfl, ?_⟩; have n0_ := Aside0.mk (Kd.R_below (by (with_reducible repeat (first | apply Kd.R_alloc | apply Kd.R_drewN | apply Kd.R_drew)); exact HO_7.out) hb); have n1_ := Aside0.mk (Kd.C_below (by repeat (first | (with_reducible exact HR149.out) | (with_reducible refine Kd.C_alloc ?_ _) | (with_reducible refine Kd.C_drewN ?_ _) | (with_reducible refine Kd.C_drew ?_) | exact HR149.out)) hb); have n2_ := Aside0.mk (below_step (by repeat (first | (with_reducible first | exact HB.out | apply below_alloc | apply pw_below_drewN | apply below_drew1) | exact HB.out)) hb); clear HO_7; clear HR149; clear HB; have HO_7 := n0_; have HR149 := n1_; have HB := n2_; clear n0_ n1_ n2_; (try clear hb); (try clear hb2); (try clear hk); (try clear hi)))
                            (try simp only [Act.put, List.setIfInBounds_toArray, List.set_cons_zero, List.set_cons_succ])
                            go_cut [98] (fun v98 wc => ∃ (kq : Nat) (x98_37 : Bool), v98 = .bool x98_37 ∧ Aside0 (armor_Decode.j2 kq t131 ji11 t135 t151 x98_37 = some (r1, r2, r3)) ∧ Aside0 (kq ≤ kj14) ∧ Aside0 (Kd.R Kd.string 9 wc w.heap.size (fun _ => True) (.slice (some ad134) t131.length co16) t131) ∧ Aside0 (Kd.C Kd.string wc A39 y146.length y146) ∧ Aside0 (Below w.heap.size w wc))
                            case first =>
                              have H := HC38.out
                              clear HC38
                              by_cases c43 : t152 = 0
                              · rw [if_pos c43] at H
                                have c43b0 : (t152 == 0) = true := beq_iff_eq.mpr c43
                                have c43b1 : (t152 != 0) = false := bne_eq_false_iff_eq.mpr c43
                                clear c43
                                (first | rw [c43b0] | (simp only [i64_w, i32_w]; rw [c43b0]) | skip)
                                by_cases c44 : t155 = true
                                · subst c44
                                  have H1 : (if t157 = 0 then (armor_Decode.j2 kj14 t131 ji11 t135 t151 ((t156.size : Int) != 3)) else (armor_Decode.j2 kj14 t131 ji11 t135 t151 true)) = some (r1, r2, r3) := by rw [if_pos rfl] at H; exact H
                                  clear H
                                  have H := H1
                                  clear H1
                                  by_cases c45 : t157 = 0
                                  · rw [if_pos c45] at H
                                    have c45b0 : (t157 == 0) = true := beq_iff_eq.mpr c45
                                    have c45b1 : (t157 != 0) = false := bne_eq_false_iff_eq.mpr c45
                                    clear c45
                                    have H' := Aside0.mk H
                                    clear H
                                    go_wp2
                                    go_meet
                                    case rel => exact ⟨_, (((t156.size : Int) != 3)), (by first | rfl | (simp; done) | (simp [*]; done)), H', ⟨by have := HJ3.out; have := HJ14.out; first | omega | exact Nat.le_refl _⟩, ⟨by (with_reducible repeat (first | apply Kd.R_alloc | apply Kd.R_drewN | apply Kd.R_drew)); exact HO_7.out⟩, ⟨by repeat (first | (with_reducible exact HR149.out) | (with_reducible refine Kd.C_alloc ?_ _) | (with_reducible refine Kd.C_drewN ?_ _) | (with_reducible refine Kd.C_drew ?_) | exact HR149.out)⟩, ⟨by repeat (first | (with_reducible first | exact HB.out | apply below_alloc | apply pw_below_drewN | apply below_drew1) | exact HB.out)⟩⟩
                                  · rw [if_neg c45] at H
                                    have c45b0 : (t157 == 0) = false := beq_eq_false_iff_ne.mpr c45
                                    have c45b1 : (t157 != 0) = true := bne_iff_ne.mpr c45
                                    have H' := Aside0.mk H
                                    clear H
                                    go_wp2
                                    go_meet
                                    case rel => exact ⟨_, (true), (by first | rfl | (simp; done) | (simp [*]; done)), H', ⟨by have := HJ3.out; have := HJ14.out; first | omega | exact Nat.le_refl _⟩, ⟨by (with_reducible repeat (first | apply Kd.R_alloc | apply Kd.R_drewN | apply Kd.R_drew)); exact HO_7.out⟩, ⟨by repeat (first | (with_reducible exact HR149.out) | (with_reducible refine Kd.C_alloc ?_ _) | (with_reducible refine Kd.C_drewN ?_ _) | (with_reducible refine Kd.C_drew ?_) | exact HR149.out)⟩, ⟨by repeat (first | (with_reducible first | exact HB.out | apply below_alloc | apply pw_below_drewN | apply below_drew1) | exact HB.out)⟩⟩
                                · replace c44 := Bool.eq_false_iff.mpr c44
                                  subst c44
                                  have H1 : (armor_Decode.j2 kj14 t131 ji11 t135 t151 true) = some (r1, r2, r3) := by rw [if_neg (show ¬ (false = true) by decide)] at H; exact H
                                  clear H
                                  have H := H1
                                  clear H1
                                  have H' := Aside0.mk H
                                  clear H
                                  go_wp2
                                  go_meet
                                  case rel => exact ⟨_, (true), (by first | rfl | (simp; done) | (simp [*]; done)), H', ⟨by have := HJ3.out; have := HJ14.out; first | omega | exact Nat.le_refl _⟩, ⟨by (with_reducible repeat (first | apply Kd.R_alloc | apply Kd.R_drewN | apply Kd.R_drew)); exact HO_7.out⟩, ⟨by repeat (first | (with_reducible exact HR149.out) | (with_reducible refine Kd.C_alloc ?_ _) | (with_reducible refine Kd.C_drewN ?_ _) | (with_reducible refine Kd.C_drew ?_) | exact HR149.out)⟩, ⟨by repeat (first | (with_reducible first | exact HB.out | apply below_alloc | apply pw_below_drewN | apply below_drew1) | exact HB.out)⟩⟩
                              · rw [if_neg c43] at H
                                have c43b0 : (t152 == 0) = false := beq_eq_false_iff_ne.mpr c43
                                have c43b1 : (t152 != 0) = true := bne_iff_ne.mpr c43
                                (first | rw [c43b0] | (simp only [i64_w, i32_w]; rw [c43b0]) | skip)
                                have H' := Aside0.mk H
                                clear H
                                go_wp2
                                go_meet
                                case rel => exact ⟨_, (true), (by first | rfl | (simp; done) | (simp [*]; done)), H', ⟨by have := HJ3.out; have := HJ14.out; first | omega | exact Nat.le_refl _⟩, ⟨by (with_reducible repeat (first | apply Kd.R_alloc | apply Kd.R_drewN | apply Kd.R_drew)); exact HO_7.out⟩, ⟨by repeat (first | (with_reducible exact HR149.out) | (with_reducible refine Kd.C_alloc ?_ _) | (with_reducible refine Kd.C_drewN ?_ _) | (with_reducible refine Kd.C_drew ?_) | exact HR149.out)⟩, ⟨by repeat (first | (with_reducible first | exact HB.out | apply below_alloc | apply pw_below_drewN | apply below_drew1) | exact HB.out)⟩⟩
                            case rest =>
                              clear HC38
                              try clear c1
                              try clear p1
                              try clear q1
                              try clear hx1
                              try clear qi1
                              try clear c2
                              try clear p2
                              try clear q2
                              try clear c3
                              try clear q3
                              try clear c4
                              try clear c6
                              try clear p6
                              try clear c7
                              try clear c8
                              try clear c9
                              try clear c9b0
                              try clear c9b1
                              try clear c12
                              try clear c12b0
                              try clear c13
                              try clear c13b0
                              try clear p13
                              try clear q13
                              try clear hx13
                              try clear qi13
                              try clear p15
                              try clear q15
                              try clear hx15
                              try clear c17
                              try clear c18
                              try clear c19
                              try clear c19b0
                              try clear c19b1
                              try clear c21
                              try clear c22
                              try clear c22b0
                              try clear c22b1
                              try clear c23
                              try clear c23b0
                              try clear c23b1
                              try clear c24
                              try clear c25
                              try clear c26
                              try clear q26
                              try clear c28
                              try clear c29
                              try clear c29b0
                              try clear c29b1
                              try clear c30
                              try clear c30b0
                              try clear c30b1
                              try clear c34
                              try clear c34b0
                              try clear c35
                              try clear c35b0
                              try clear c39
                              try clear q39
                              try clear c43
                              try clear c43b0
                              try clear c43b1
                              try clear c44
                              try clear c45
                              try clear c45b0
                              try clear c45b1
                              try clear hx134_0
                              try clear hx137_0
                              try clear hx153_0
                              try clear p1
                              try clear p13
                              try clear p134
                              try clear p137
                              try clear p153
                              try clear p2
                              try clear p6
                              try clear q1
                              try clear q13
                              try clear q134
                              try clear q137
                              try clear q153
                              try clear q2
                              try clear q26
                              try clear q39
                              obtain ⟨kq, x98_37, rfl, HA, HJ37, HO_7, HR149, HB⟩ := hcut
                              cases kq with
                              | zero => exact absurd HA.out (by simp [armor_Decode.j2])
                              | succ kj37 =>
                                have H := HA.out
                                clear HA
                                simp only [armor_Decode.j2] at H
                                by_cases c46 : x98_37 = true
                                · subst c46
                                  have H1 : (some ((⟨#[]⟩ : ByteArray), (⟨#[]⟩ : ByteArray), 2)) = some (r1, r2, r3) := by rw [if_pos rfl] at H; exact H
                                  clear H
                                  have H := H1
                                  clear H1
                                  simp only [Option.some.injEq, Prod.mk.injEq] at H
                                  obtain ⟨rfl, rfl, rfl⟩ := H
                                  go_wp2
                                  go_ret3
                                  exact ⟨by first | rfl | (simp [errW_none, errW_some] <;> rfl) | (simp only [← hji11, ← hji33]; first | rfl | (simp [errW_none, errW_some] <;> rfl)) | (simp [*, errW_none, errW_some] <;> rfl), by repeat (first | (with_reducible first | exact HB.out | apply below_alloc | apply pw_below_drewN | apply below_drew1) | exact HB.out)⟩
                                · replace c46 := Bool.eq_false_iff.mpr c46
                                  subst c46
                                  have H1 : (if 0 ≤ (wrap64 (ji11 - 1)) then (if (wrap64 (ji11 - 1)) < (t131.length : Int) then ((armor_sum.f t151).bind fun t159 => (if (rdOf ByteArray.empty t131 (wrap64 (ji11 - 1))).toList = t159.toList then (some (t151, t135, 0)) else (some ((⟨#[]⟩ : ByteArray), (⟨#[]⟩ : ByteArray), 4)))) else (none)) else (none)) = some (r1, r2, r3) := by rw [if_neg (show ¬ (false = true) by decide)] at H; exact H
                                  clear H
                                  have H := H1
                                  clear H1
                                  obtain ⟨ji47, hji47⟩ : ∃ j_ : Int, (wrap64 (ji11 - 1)) = j_ := ⟨_, rfl⟩
                                  try (obtain rfl : ji47 = ji33 := hji47.symm.trans hji33)
                                  replace H : (if 0 ≤ (ji47) then (if (ji47) < (t131.length : Int) then ((armor_sum.f t151).bind fun t159 => (if (rdOf ByteArray.empty t131 (ji47)).toList = t159.toList then (some (t151, t135, 0)) else (some ((⟨#[]⟩ : ByteArray), (⟨#[]⟩ : ByteArray), 4)))) else (none)) else (none)) = some (r1, r2, r3) := by first | (rw [hji47] at H; exact H) | (simp only [hji47] at H ⊢; exact H)
                                  (try rw [hji47] at c29b0)
                                  (try rw [hji47] at c29b1)
                                  (try rw [hji47] at c30b0)
                                  (try rw [hji47] at c30b1)
                                  have hji47w : (IntKind.i64.wrap (ji11 - 1)) = ji47 := (i64_w _).trans hji47
                                  by_cases c48 : 0 ≤ (ji47)
                                  · rw [if_pos c48] at H
                                    have c48b0 : decide (0 ≤ (ji47)) = true := decide_eq_true c48
                                    clear c48
                                    by_cases c49 : (ji47) < (t131.length : Int)
                                    · rw [if_pos c49] at H
                                      have c49b0 : decide ((ji47) < (t131.length : Int)) = true := decide_eq_true c49
                                      clear c49
                                      replace H := Option.bind_eq_some_iff.mp H
                                      obtain ⟨t159, A500, H⟩ := H
                                      replace H : (if (rdOf ByteArray.empty t131 (ji47)).toList = t159.toList then (some (t151, t135, 0)) else (some ((⟨#[]⟩ : ByteArray), (⟨#[]⟩ : ByteArray), 4))) = some (r1, r2, r3) := H
                                      have A50 := Aside0.mk A500
                                      clear A500
                                      by_cases c51 : (rdOf ByteArray.empty t131 (ji47)).toList = t159.toList
                                      · rw [if_pos c51] at H
                                        have c51b0 : ((rdOf ByteArray.empty t131 (ji47)).toList == t159.toList) = true := beq_iff_eq.mpr c51
                                        have c51b1 : ((rdOf ByteArray.empty t131 (ji47)).toList != t159.toList) = false := bne_eq_false_iff_eq.mpr c51
                                        clear c51
                                        simp only [Option.some.injEq, Prod.mk.injEq] at H
                                        obtain ⟨rfl, rfl, rfl⟩ := H
                                        try go_wp2
                                        have n0_ := Aside0.mk (Kd.R_drew HO_7.out)
                                        have n1_ := Aside0.mk (Kd.C_drew HR149.out)
                                        have n2_ := Aside0.mk (below_drew1 HB.out)
                                        clear HO_7
                                        clear HR149
                                        clear HB
                                        have HO_7 := n0_
                                        have HR149 := n1_
                                        have HB := n2_
                                        clear n0_ n1_ n2_
                                        have p158 : 0 ≤ ((ji47) : Int) := of_decide_eq_true (by first | (with_reducible assumption) | assumption)
                                        have q158 : (ji47) < (t131.length : Int) := of_decide_eq_true (by first | (with_reducible assumption) | assumption)
                                        obtain ⟨ad158, e158, hx158_0⟩ := Kd.at_string (Kd.R_reads' HO_7.out).2.2 (ji47) p158 q158
                                        obtain rfl : ad134 = ad158 := (by injection e158)
                                        replace p158 := eq_true p158
                                        replace q158 := eq_true q158
                                        refine start_ (n := 9) (S := fun w' => w'.cell? (ad134.add ((ji47)).toNat) = some (.string (rdOf ByteArray.empty t131 (ji47)))) (ds := []) #[false, false, false, false, false, false, false, false, false] (by kernel_rfl) rfl rfl (hx158_0) (fun hHeld => ?_); refine with_tabW armor_Decode.tab15 armor_Decode.bits15 (fun HT_ HW_ => ?_)
                                        generalize wc.drew = w52 at HO_7 HR149 HB hx158_0 hHeld ⊢
                                        refine pure_ (i := 0) (N := some 115) (v := ?_) (a' := ?_) #[true, false, false, false, false, false, false, false, false] rfl rfl (any_of HT_.out (by kernel_rfl)) (fun _ _ _ h => h) (Or.inl ⟨by rfl, ?_⟩) ?_ ?_
                                        rotate_left
                                        · intro w'
                                          go_simp
                                          with_reducible rfl
                                        rotate_left
                                        · simp only [Act.put, List.setIfInBounds_toArray, List.set_cons_zero, List.set_cons_succ, i64_w, i32_w]
                                          rfl
                                        refine pure_ (i := 1) (N := some 116) (v := ?_) (a' := ?_) #[true, true, false, false, false, false, false, false, false] rfl rfl (any_of HT_.out (by kernel_rfl)) (fun _ _ _ h => h) (Or.inl ⟨by rfl, ?_⟩) ?_ ?_
                                        rotate_left
                                        · intro w'
                                          go_simp
                                          with_reducible rfl
                                        rotate_left
                                        · simp only [Act.put, List.setIfInBounds_toArray, List.set_cons_zero, List.set_cons_succ, i64_w, i32_w]
                                          rfl
                                        refine pure_ (i := 2) (N := some 117) (v := ?_) (a' := ?_) #[true, true, true, false, false, false, false, false, false] rfl rfl (any_of HT_.out (by kernel_rfl)) (fun _ _ _ h => h) (Or.inl ⟨by rfl, ?_⟩) ?_ ?_
                                        rotate_left
                                        · intro w'
                                          go_simp
                                          with_reducible rfl
                                        rotate_left
                                        · simp only [Act.put, List.setIfInBounds_toArray, List.set_cons_zero, List.set_cons_succ, i64_w, i32_w]
                                          rfl
                                        refine pure_ (i := 3) (N := some 118) (v := ?_) (a' := ?_) #[true, true, true, true, false, false, false, false, false] rfl rfl (any_of HT_.out (by kernel_rfl)) (fun _ _ _ h => h) (Or.inl ⟨by rfl, ?_⟩) ?_ ?_
                                        rotate_left
                                        · intro w'
                                          go_simp
                                          with_reducible rfl
                                        rotate_left
                                        · simp only [Act.put, List.setIfInBounds_toArray, List.set_cons_zero, List.set_cons_succ, i64_w, i32_w]
                                          rfl
                                        refine pure_ (i := 5) (N := some 120) (v := ?_) (a' := ?_) #[true, true, true, true, false, true, false, false, false] rfl rfl (any_of HT_.out (by kernel_rfl)) (fun _ _ _ h => h) (Or.inl ⟨by rfl, ?_⟩) ?_ ?_
                                        rotate_left
                                        · intro w'
                                          go_simp
                                          with_reducible rfl
                                        rotate_left
                                        · simp only [Act.put, List.setIfInBounds_toArray, List.set_cons_zero, List.set_cons_succ, i64_w, i32_w]
                                          rfl
                                        refine take_ (i := 4) (N := some 119) (v := ?_) (a' := ?_) #[true, true, true, true, true, true, false, false, false] rfl rfl (take_ofW HT_.out HW_.out (by kernel_rfl)) (fun _ _ _ h => h) (Or.inl ⟨by rfl, ?_⟩) hHeld ?_ ?_
                                        rotate_left
                                        · intro w' s0
                                          go_simp
                                          with_reducible rfl
                                        rotate_left
                                        · simp only [Act.put, List.setIfInBounds_toArray, List.set_cons_zero, List.set_cons_succ, i64_w, i32_w]
                                          rfl
                                        refine one_ (i := 6) (N := some 121) #[true, true, true, true, true, true, true, false, false] rfl rfl (one_of HT_.out (by kernel_rfl)) (by decide) (fun K hK => ?_)
                                        refine goes_ Tryd.func21 (by kernel_rfl) rfl #[.string t151] (by rfl) rfl rfl (by (try simp only [List.map_toArray, List.map_cons, List.map_nil]); first | done | rfl | (simp only [List.length_drop, List.length_take]; rfl)) ?_
                                        with_reducible refine (armor_sum.calls t151 t159 _ A50.out).mono ?_
                                        rintro e w53 ⟨rfl, hb⟩
                                        have HS0_ := (hb.cell (World.block_lt_of_cell? _ _ (hHeld))).trans (hHeld)
                                        refine ⟨_, rfl, ?_⟩
                                        have n0_ := Aside0.mk (Kd.R_below (by (with_reducible repeat (first | apply Kd.R_alloc | apply Kd.R_drewN | apply Kd.R_drew)); exact HO_7.out) hb)
                                        have n1_ := Aside0.mk (Kd.C_below (by repeat (first | (with_reducible exact HR149.out) | (with_reducible refine Kd.C_alloc ?_ _) | (with_reducible refine Kd.C_drewN ?_ _) | (with_reducible refine Kd.C_drew ?_) | exact HR149.out)) hb)
                                        have n2_ := Aside0.mk (below_step (by repeat (first | (with_reducible first | exact HB.out | apply below_alloc | apply pw_below_drewN | apply below_drew1) | exact HB.out)) hb)
                                        clear HO_7
                                        clear HR149
                                        clear HB
                                        have HO_7 := n0_
                                        have HR149 := n1_
                                        have HB := n2_
                                        clear n0_ n1_ n2_
                                        (try clear hb)
                                        (try clear hb2)
                                        (try clear hk)
                                        (try clear hi)
                                        refine hK.out _ _ (HS0_) (fun hHeld => ?_)
                                        clear hK K
                                        refine norm_ (a' := ?_) ?_ ?_
                                        rotate_left
                                        · show Act.put _ (some 121) _ = _
                                          simp only [Act.put, List.setIfInBounds_toArray, List.set_cons_zero, List.set_cons_succ, i64_w, i32_w]
                                          rfl
                                        refine pure_ (i := 7) (N := some 122) (v := ?_) (a' := ?_) #[true, true, true, true, true, true, true, true, false] rfl rfl (any_of HT_.out (by kernel_rfl)) (fun _ _ _ h => h) (Or.inl ⟨by rfl, ?_⟩) ?_ ?_
                                        rotate_left
                                        · intro w'
                                          go_simp
                                          with_reducible rfl
                                        rotate_left
                                        · simp only [Act.put, List.setIfInBounds_toArray, List.set_cons_zero, List.set_cons_succ, i64_w, i32_w]
                                          rfl
                                        refine pure_ (i := 8) (N := some 114) (v := ?_) (a' := ?_) #[true, true, true, true, true, true, true, true, true] rfl rfl (any_of HT_.out (by kernel_rfl)) (fun _ _ _ h => h) (Or.inl ⟨by rfl, ?_⟩) ?_ ?_
                                        rotate_left
                                        · intro w'
                                          go_simp
                                          with_reducible rfl
                                        rotate_left
                                        · simp only [Act.put, List.setIfInBounds_toArray, List.set_cons_zero, List.set_cons_succ, i64_w, i32_w]
                                          rfl
                                        refine done_ (done_of HT_.out (by kernel_rfl)) ?_
                                        try go_wp2
                                        go_ret3
                                        exact ⟨by first | rfl | (simp [errW_none, errW_some] <;> rfl) | (simp only [← hji11, ← hji33, ← hji47]; first | rfl | (simp [errW_none, errW_some] <;> rfl)) | (simp [*, errW_none, errW_some] <;> rfl), by repeat (first | (with_reducible first | exact HB.out | apply below_alloc | apply pw_below_drewN | apply below_drew1) | exact HB.out)⟩
                                      · rw [if_neg c51] at H
                                        have c51b0 : ((rdOf ByteArray.empty t131 (ji47)).toList == t159.toList) = false := beq_eq_false_iff_ne.mpr c51
                                        have c51b1 : ((rdOf ByteArray.empty t131 (ji47)).toList != t159.toList) = true := bne_iff_ne.mpr c51
                                        simp only [Option.some.injEq, Prod.mk.injEq] at H
                                        obtain ⟨rfl, rfl, rfl⟩ := H
                                        try go_wp2
                                        have n0_ := Aside0.mk (Kd.R_drew HO_7.out)
                                        have n1_ := Aside0.mk (Kd.C_drew HR149.out)
                                        have n2_ := Aside0.mk (below_drew1 HB.out)
                                        clear HO_7
                                        clear HR149
                                        clear HB
                                        have HO_7 := n0_
                                        have HR149 := n1_
                                        have HB := n2_
                                        clear n0_ n1_ n2_
                                        have p158 : 0 ≤ ((ji47) : Int) := of_decide_eq_true (by first | (with_reducible assumption) | assumption)
                                        have q158 : (ji47) < (t131.length : Int) := of_decide_eq_true (by first | (with_reducible assumption) | assumption)
                                        obtain ⟨ad158, e158, hx158_0⟩ := Kd.at_string (Kd.R_reads' HO_7.out).2.2 (ji47) p158 q158
                                        obtain rfl : ad134 = ad158 := (by injection e158)
                                        replace p158 := eq_true p158
                                        replace q158 := eq_true q158
                                        refine start_ (n := 9) (S := fun w' => w'.cell? (ad134.add ((ji47)).toNat) = some (.string (rdOf ByteArray.empty t131 (ji47)))) (ds := []) #[false, false, false, false, false, false, false, false, false] (by kernel_rfl) rfl rfl (hx158_0) (fun hHeld => ?_); refine with_tabW armor_Decode.tab15 armor_Decode.bits15 (fun HT_ HW_ => ?_)
                                        generalize wc.drew = w54 at HO_7 HR149 HB hx158_0 hHeld ⊢
                                        refine pure_ (i := 0) (N := some 115) (v := ?_) (a' := ?_) #[true, false, false, false, false, false, false, false, false] rfl rfl (any_of HT_.out (by kernel_rfl)) (fun _ _ _ h => h) (Or.inl ⟨by rfl, ?_⟩) ?_ ?_
                                        rotate_left
                                        · intro w'
                                          go_simp
                                          with_reducible rfl
                                        rotate_left
                                        · simp only [Act.put, List.setIfInBounds_toArray, List.set_cons_zero, List.set_cons_succ, i64_w, i32_w]
                                          rfl
                                        refine pure_ (i := 1) (N := some 116) (v := ?_) (a' := ?_) #[true, true, false, false, false, false, false, false, false] rfl rfl (any_of HT_.out (by kernel_rfl)) (fun _ _ _ h => h) (Or.inl ⟨by rfl, ?_⟩) ?_ ?_
                                        rotate_left
                                        · intro w'
                                          go_simp
                                          with_reducible rfl
                                        rotate_left
                                        · simp only [Act.put, List.setIfInBounds_toArray, List.set_cons_zero, List.set_cons_succ, i64_w, i32_w]
                                          rfl
                                        refine pure_ (i := 2) (N := some 117) (v := ?_) (a' := ?_) #[true, true, true, false, false, false, false, false, false] rfl rfl (any_of HT_.out (by kernel_rfl)) (fun _ _ _ h => h) (Or.inl ⟨by rfl, ?_⟩) ?_ ?_
                                        rotate_left
                                        · intro w'
                                          go_simp
                                          with_reducible rfl
                                        rotate_left
                                        · simp only [Act.put, List.setIfInBounds_toArray, List.set_cons_zero, List.set_cons_succ, i64_w, i32_w]
                                          rfl
                                        refine pure_ (i := 3) (N := some 118) (v := ?_) (a' := ?_) #[true, true, true, true, false, false, false, false, false] rfl rfl (any_of HT_.out (by kernel_rfl)) (fun _ _ _ h => h) (Or.inl ⟨by rfl, ?_⟩) ?_ ?_
                                        rotate_left
                                        · intro w'
                                          go_simp
                                          with_reducible rfl
                                        rotate_left
                                        · simp only [Act.put, List.setIfInBounds_toArray, List.set_cons_zero, List.set_cons_succ, i64_w, i32_w]
                                          rfl
                                        refine pure_ (i := 5) (N := some 120) (v := ?_) (a' := ?_) #[true, true, true, true, false, true, false, false, false] rfl rfl (any_of HT_.out (by kernel_rfl)) (fun _ _ _ h => h) (Or.inl ⟨by rfl, ?_⟩) ?_ ?_
                                        rotate_left
                                        · intro w'
                                          go_simp
                                          with_reducible rfl
                                        rotate_left
                                        · simp only [Act.put, List.setIfInBounds_toArray, List.set_cons_zero, List.set_cons_succ, i64_w, i32_w]
                                          rfl
                                        refine take_ (i := 4) (N := some 119) (v := ?_) (a' := ?_) #[true, true, true, true, true, true, false, false, false] rfl rfl (take_ofW HT_.out HW_.out (by kernel_rfl)) (fun _ _ _ h => h) (Or.inl ⟨by rfl, ?_⟩) hHeld ?_ ?_
                                        rotate_left
                                        · intro w' s0
                                          go_simp
                                          with_reducible rfl
                                        rotate_left
                                        · simp only [Act.put, List.setIfInBounds_toArray, List.set_cons_zero, List.set_cons_succ, i64_w, i32_w]
                                          rfl
                                        refine one_ (i := 6) (N := some 121) #[true, true, true, true, true, true, true, false, false] rfl rfl (one_of HT_.out (by kernel_rfl)) (by decide) (fun K hK => ?_)
                                        refine goes_ Tryd.func21 (by kernel_rfl) rfl #[.string t151] (by rfl) rfl rfl (by (try simp only [List.map_toArray, List.map_cons, List.map_nil]); first | done | rfl | (simp only [List.length_drop, List.length_take]; rfl)) ?_
                                        with_reducible refine (armor_sum.calls t151 t159 _ A50.out).mono ?_
                                        rintro e w55 ⟨rfl, hb⟩
                                        have HS0_ := (hb.cell (World.block_lt_of_cell? _ _ (hHeld))).trans (hHeld)
                                        refine ⟨_, rfl, ?_⟩
                                        have n0_ := Aside0.mk (Kd.R_below (by (with_reducible repeat (first | apply Kd.R_alloc | apply Kd.R_drewN | apply Kd.R_drew)); exact HO_7.out) hb)
                                        have n1_ := Aside0.mk (Kd.C_below (by repeat (first | (with_reducible exact HR149.out) | (with_reducible refine Kd.C_alloc ?_ _) | (with_reducible refine Kd.C_drewN ?_ _) | (with_reducible refine Kd.C_drew ?_) | exact HR149.out)) hb)
                                        have n2_ := Aside0.mk (below_step (by repeat (first | (with_reducible first | exact HB.out | apply below_alloc | apply pw_below_drewN | apply below_drew1) | exact HB.out)) hb)
                                        clear HO_7
                                        clear HR149
                                        clear HB
                                        have HO_7 := n0_
                                        have HR149 := n1_
                                        have HB := n2_
                                        clear n0_ n1_ n2_
                                        (try clear hb)
                                        (try clear hb2)
                                        (try clear hk)
                                        (try clear hi)
                                        refine hK.out _ _ (HS0_) (fun hHeld => ?_)
                                        clear hK K
                                        refine norm_ (a' := ?_) ?_ ?_
                                        rotate_left
                                        · show Act.put _ (some 121) _ = _
                                          simp only [Act.put, List.setIfInBounds_toArray, List.set_cons_zero, List.set_cons_succ, i64_w, i32_w]
                                          rfl
                                        refine pure_ (i := 7) (N := some 122) (v := ?_) (a' := ?_) #[true, true, true, true, true, true, true, true, false] rfl rfl (any_of HT_.out (by kernel_rfl)) (fun _ _ _ h => h) (Or.inl ⟨by rfl, ?_⟩) ?_ ?_
                                        rotate_left
                                        · intro w'
                                          go_simp
                                          with_reducible rfl
                                        rotate_left
                                        · simp only [Act.put, List.setIfInBounds_toArray, List.set_cons_zero, List.set_cons_succ, i64_w, i32_w]
                                          rfl
                                        refine pure_ (i := 8) (N := some 114) (v := ?_) (a' := ?_) #[true, true, true, true, true, true, true, true, true] rfl rfl (any_of HT_.out (by kernel_rfl)) (fun _ _ _ h => h) (Or.inl ⟨by rfl, ?_⟩) ?_ ?_
                                        rotate_left
                                        · intro w'
                                          go_simp
                                          with_reducible rfl
                                        rotate_left
                                        · simp only [Act.put, List.setIfInBounds_toArray, List.set_cons_zero, List.set_cons_succ, i64_w, i32_w]
                                          rfl
                                        refine done_ (done_of HT_.out (by kernel_rfl)) ?_
                                        try go_wp2
                                        go_ret3
                                        exact ⟨by first | rfl | (simp [errW_none, errW_some] <;> rfl) | (simp only [← hji11, ← hji33, ← hji47]; first | rfl | (simp [errW_none, errW_some] <;> rfl)) | (simp [*, errW_none, errW_some] <;> rfl), by repeat (first | (with_reducible first | exact HB.out | apply below_alloc | apply pw_below_drewN | apply below_drew1) | exact HB.out)⟩
                                    · rw [if_neg c49] at H
                                      exact absurd H (by simp)
                                  · rw [if_neg c48] at H
                                    exact absurd H (by simp)
                          · rw [if_neg c35] at H
                            exact absurd H (by simp)
                        · rw [if_neg c34] at H
                          exact absurd H (by simp)
                      · rw [if_neg c30] at H
                        exact absurd H (by simp)
                    · rw [if_neg c29] at H
                      exact absurd H (by simp)
            · rw [if_neg c13] at H
              exact absurd H (by simp)
          · rw [if_neg c12] at H
            exact absurd H (by simp)
        · rw [if_neg c9] at H
          exact absurd H (by simp)

end Go.Proofs.YtdnahkeiidbihaaDoor.PArmor
