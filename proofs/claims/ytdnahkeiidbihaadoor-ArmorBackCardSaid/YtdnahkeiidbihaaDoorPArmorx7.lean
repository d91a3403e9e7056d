-- Written by wip/xprint of this repo (not trusted: Lean checks it).
import Derived.Test.YtdnahkeiidbihaaDoorPArmorx0
import Derived.Test.YtdnahkeiidbihaaDoorPArmorx5
import Derived.Test.YtdnahkeiidbihaaDoorPArmorx6
namespace Go.Proofs.YtdnahkeiidbihaaDoor.PArmor
open Go.RowKit Go.Proofs.YtdnahkeiidbihaaDoorW.PrintWords Go.Proofs.YtdnahkeiidbihaaDoorW.PrintLast Go.Proofs.YtdnahkeiidbihaaDoorW.PrintMore
attribute [local go_sem] max2_int min2_int max_two min_two max_three min_three max_four min_four   -- for this text's walks alone
set_option linter.unusedVariables false
set_option linter.unusedSimpArgs false

/-! ### montageref03_xor: function 65 -/
def montageref03_xor.l0 : Nat → Int → Int → Int → Int → Option (Int)
  | 0, _, _, _, _ => none
  | k + 1, x0, x1, x5, x6 => if x6 < 32 then (if 0 ≤ x6 then (if (Int.tmod (shr .u32 x0 x6) 2) = (Int.tmod (shr .u32 x1 x6) 2) then (montageref03_xor.l0 k x0 x1 x5 (wrap64 (x6 + 1))) else (montageref03_xor.l0 k x0 x1 ((x5 + (shl .u32 1 x6)) % 4294967296) (wrap64 (x6 + 1)))) else (none)) else (some x5)
def montageref03_xor.f (k : Nat) (a0 : Int) (a1 : Int) : Option (Int) := montageref03_xor.l0 k a0 a1 0 0
theorem montageref03_xor.mono_l : ∀ k, (∀ y0 y1 y2 y3, LeO (montageref03_xor.l0 k y0 y1 y2 y3) (montageref03_xor.l0 (k + 1) y0 y1 y2 y3))
  | 0 => fun _ _ _ _ r h => by simp [montageref03_xor.l0] at h
  | k + 1 => by
    have ih0 := montageref03_xor.mono_l k
    · intro y0 y1 y2 y3
      unfold montageref03_xor.l0
      repeat' first
      | (with_reducible exact ih0 _ _ _ _)
      | (with_reducible exact LeO.refl _)
      | (with_reducible exact LeO.none _)
      | (with_reducible refine LeO.ite ?_ ?_)
      | (with_reducible refine LeO.bind ?_ (fun _ => ?_))
      | exact ih0 _ _ _ _
      | exact LeO.none _
      | refine LeO.ite ?_ ?_
      | refine LeO.bind ?_ (fun _ => ?_)
theorem montageref03_xor.mono : ∀ a0 a1 k, LeO (montageref03_xor.f k a0 a1) (montageref03_xor.f (k + 1) a0 a1) := by
  intro a0 a1 k
  have ih0 := montageref03_xor.mono_l k
  unfold montageref03_xor.f
  repeat' first
      | (with_reducible exact ih0 _ _ _ _)
      | (with_reducible exact LeO.refl _)
      | (with_reducible exact LeO.none _)
      | (with_reducible refine LeO.ite ?_ ?_)
      | (with_reducible refine LeO.bind ?_ (fun _ => ?_))
      | exact ih0 _ _ _ _
      | exact LeO.none _
      | refine LeO.ite ?_ ?_
      | refine LeO.bind ?_ (fun _ => ?_)
set_option maxHeartbeats 8000000 in
set_option maxRecDepth 100000 in
theorem montageref03_xor.calls (k : Nat) (a0 : Int) (a1 : Int) (r : Int) (w : World) (h : montageref03_xor.f k a0 a1 = some r) :
    Calls Tryd.prog 65 #[.int .u32 a0, .int .u32 a1] w fun e w' => e = .returned (.int .u32 r) ∧ Drawn0 w w' := by
  have H : (montageref03_xor.l0 k a0 a1 0 0) = some r := h
  clear h
  have H' := Aside0.mk H
  clear H
  go_enter Tryd.func65, Tryd.ntmps65
  go_wp2
  repeat (go_quiet (fail); try go_wp2)
  go_loopg [5, 6] k (fun kq v5 v6 w' => ∃ (x5_1 : Int) (x6_1 : Int), v5 = .int .u32 x5_1 ∧ v6 = .int .i64 x6_1 ∧ Aside0 (montageref03_xor.l0 kq a0 a1 x5_1 x6_1 = some r) ∧ Aside0 (kq ≤ k) ∧ Drawn0 w w')
  case atStart => exact ⟨(0), (0), (by first | rfl | (simp; done) | (simp [*]; done)), (by first | rfl | (simp; done) | (simp [*]; done)), H', ⟨Nat.le_refl _⟩, by repeat (first | exact Drawn0.refl _ | apply Drawn0.step)⟩
  case round =>
    clear H'
    try clear p2
    obtain ⟨x5_1, x6_1, rfl, rfl, HA, HK1, ⟨m1, rfl⟩⟩ := hrel
    cases gk with
    | zero => exact absurd HA.out (by simp [montageref03_xor.l0])
    | succ k1 =>
      have H := HA.out
      clear HA
      simp only [montageref03_xor.l0] at H
      by_cases c3 : x6_1 < 32
      · rw [if_pos c3] at H
        have c3b0 : decide (x6_1 < 32) = true := decide_eq_true c3
        clear c3
        by_cases c4 : 0 ≤ x6_1
        · rw [if_pos c4] at H
          have c4b0 := eq_true c4
          have c4b1 : decide (0 ≤ x6_1) = true := decide_eq_true c4
          clear c4
          obtain ⟨ji5, hji5⟩ : ∃ j_ : Int, (shr .u32 a0 x6_1) = j_ := ⟨_, rfl⟩
          replace H : (if (Int.tmod (ji5) 2) = (Int.tmod (shr .u32 a1 x6_1) 2) then (montageref03_xor.l0 k1 a0 a1 x5_1 (wrap64 (x6_1 + 1))) else (montageref03_xor.l0 k1 a0 a1 ((x5_1 + (shl .u32 1 x6_1)) % 4294967296) (wrap64 (x6_1 + 1)))) = some r := by first | (rw [hji5] at H; exact H) | (simp only [hji5] at H ⊢; exact H)
          have hji5_ : (a0 / 2 ^ min x6_1.toNat 32) = ji5 := hji5
          have hji5z : x6_1 ≤ 32 → (a0 / 2 ^ x6_1.toNat) = ji5 := shr_small hji5
          have c6b0 := eq_true (of_decide_eq_true (by first | (with_reducible assumption) | assumption) : 0 ≤ x6_1)
          obtain ⟨ji7, hji7⟩ : ∃ j_ : Int, (shr .u32 a1 x6_1) = j_ := ⟨_, rfl⟩
          replace H : (if (Int.tmod (ji5) 2) = (Int.tmod (ji7) 2) then (montageref03_xor.l0 k1 a0 a1 x5_1 (wrap64 (x6_1 + 1))) else (montageref03_xor.l0 k1 a0 a1 ((x5_1 + (shl .u32 1 x6_1)) % 4294967296) (wrap64 (x6_1 + 1)))) = some r := by first | (rw [hji7] at H; exact H) | (simp only [hji7] at H ⊢; exact H)
          have hji7_ : (a1 / 2 ^ min x6_1.toNat 32) = ji7 := hji7
          have hji7z : x6_1 ≤ 32 → (a1 / 2 ^ x6_1.toNat) = ji7 := shr_small hji7
          by_cases c8 : (Int.tmod (ji5) 2) = (Int.tmod (ji7) 2)
          · rw [if_pos c8] at H
            have c8b0 : ((Int.tmod (ji5) 2) == (Int.tmod (ji7) 2)) = true := beq_iff_eq.mpr c8
            have c8b1 : ((Int.tmod (ji5) 2) != (Int.tmod (ji7) 2)) = false := bne_eq_false_iff_eq.mpr c8
            clear c8
            have H' := Aside0.mk H
            clear H
            go_wp2
            repeat (go_quiet (fail); try go_wp2)
            go_roundg k1
            case measure => have := HK1.out; omega
            case rel => exact ⟨(x5_1), (wrap64 (x6_1 + 1)), (by first | rfl | (simp; done) | (simp [*]; done)), (by first | rfl | (simp; done) | (simp [*]; done)), H', ⟨by have := HK1.out; omega⟩, by repeat (first | exact Drawn0.refl _ | apply Drawn0.step)⟩
          · rw [if_neg c8] at H
            have c8b0 : ((Int.tmod (ji5) 2) == (Int.tmod (ji7) 2)) = false := beq_eq_false_iff_ne.mpr c8
            have c8b1 : ((Int.tmod (ji5) 2) != (Int.tmod (ji7) 2)) = true := bne_iff_ne.mpr c8
            have c9b0 := eq_true (of_decide_eq_true (by first | (with_reducible assumption) | assumption) : 0 ≤ x6_1)
            obtain ⟨ji10, hji10⟩ : ∃ j_ : Int, (shl .u32 1 x6_1) = j_ := ⟨_, rfl⟩
            replace H : (montageref03_xor.l0 k1 a0 a1 ((x5_1 + (ji10)) % 4294967296) (wrap64 (x6_1 + 1))) = some r := by first | (rw [hji10] at H; exact H) | (simp only [hji10] at H ⊢; exact H)
            have hji10_ : (IntKind.u32.wrap (1 * 2 ^ min x6_1.toNat 32)) = ji10 := hji10
            have hji10z : x6_1 ≤ 32 → (IntKind.u32.wrap (1 * 2 ^ x6_1.toNat)) = ji10 := shl_small hji10
            have hji10u : (IntKind.u32.wrap (2 ^ min x6_1.toNat 32)) = ji10 := by have h_ := hji10_; rw [Int.one_mul] at h_; exact h_
            have hji10v : x6_1 ≤ 32 → (IntKind.u32.wrap (2 ^ x6_1.toNat)) = ji10 := fun hle_ => by have h_ := hji10z hle_; rw [Int.one_mul] at h_; exact h_
            have H' := Aside0.mk H
            clear H
            go_wp2
            repeat (go_quiet (fail); try go_wp2)
            go_roundg k1
            case measure => have := HK1.out; omega
            case rel => exact ⟨((x5_1 + (ji10)) % 4294967296), (wrap64 (x6_1 + 1)), (by first | rfl | (simp; done) | (simp only [← hji10] <;> (first | rfl | simp)) | (simp [*]; done)), (by first | rfl | (simp; done) | (simp [*]; done)), H', ⟨by have := HK1.out; omega⟩, by repeat (first | exact Drawn0.refl _ | apply Drawn0.step)⟩
        · rw [if_neg c4] at H
          exact absurd H (by simp)
      · rw [if_neg c3] at H
        have c3b0 : decide (x6_1 < 32) = false := decide_eq_false c3
        clear c3
        obtain rfl := Option.some.inj H
        simp only [Option.some.injEq, Prod.mk.injEq] at H
        obtain ⟨rfl⟩ := H
        go_wp2
        repeat (go_quiet (fail); try go_wp2)
        go_ret
        exact ⟨by first | rfl | (simp; done) | (simp [*]; done), by repeat (first | exact Drawn0.refl _ | apply Drawn0.step)⟩

/-! ### montageref03_table: function 52 -/
mutual
def montageref03_table.l0 : Nat → List Int → Int → Option (List Int)
  | 0, _, _ => none
  | k + 1, x1, x2 => if x2 < 256 then (montageref03_table.l1 k x1 x2 ((x2) % 4294967296) 0) else (some x1)
def montageref03_table.l1 : Nat → List Int → Int → Int → Int → Option (List Int)
  | 0, _, _, _, _ => none
  | k + 1, x1, x2, x3, x4 => if x4 < 8 then (if (Int.tmod x3 2) = 1 then ((montageref03_xor.f k ((Int.tdiv x3 2) % 4294967296) 3988292384).bind fun t193 => (montageref03_table.l1 k x1 x2 t193 (wrap64 (x4 + 1)))) else (montageref03_table.l1 k x1 x2 ((Int.tdiv x3 2) % 4294967296) (wrap64 (x4 + 1)))) else (if x1.length < 35184372088832 then (montageref03_table.l0 k (x1 ++ [x3]) (wrap64 (x2 + 1))) else (none))
end
def montageref03_table.f (k : Nat)  : Option (List Int) := montageref03_table.l0 k ([] : List Int) 0
theorem montageref03_table.mono_l : ∀ k, (∀ y0 y1, LeO (montageref03_table.l0 k y0 y1) (montageref03_table.l0 (k + 1) y0 y1)) ∧ (∀ y0 y1 y2 y3, LeO (montageref03_table.l1 k y0 y1 y2 y3) (montageref03_table.l1 (k + 1) y0 y1 y2 y3))
  | 0 => ⟨fun _ _ r h => by simp [montageref03_table.l0] at h, fun _ _ _ _ r h => by simp [montageref03_table.l1] at h⟩
  | k + 1 => by
    obtain ⟨ih0, ih1⟩ := montageref03_table.mono_l k
    refine ⟨?_, ?_⟩
    · intro y0 y1
      unfold montageref03_table.l0
      repeat' first
      | (with_reducible exact ih0 _ _)
      | (with_reducible exact ih1 _ _ _ _)
      | (with_reducible exact montageref03_xor.mono _ _ _)
      | (with_reducible exact LeO.refl _)
      | (with_reducible exact LeO.none _)
      | (with_reducible refine LeO.ite ?_ ?_)
      | (with_reducible refine LeO.bind ?_ (fun _ => ?_))
      | exact ih0 _ _
      | exact ih1 _ _ _ _
      | exact montageref03_xor.mono _ _ _
      | exact LeO.none _
      | refine LeO.ite ?_ ?_
      | refine LeO.bind ?_ (fun _ => ?_)
    · intro y0 y1 y2 y3
      unfold montageref03_table.l1
      repeat' first
      | (with_reducible exact ih0 _ _)
      | (with_reducible exact ih1 _ _ _ _)
      | (with_reducible exact montageref03_xor.mono _ _ _)
      | (with_reducible exact LeO.refl _)
      | (with_reducible exact LeO.none _)
      | (with_reducible refine LeO.ite ?_ ?_)
      | (with_reducible refine LeO.bind ?_ (fun _ => ?_))
      | exact ih0 _ _
      | exact ih1 _ _ _ _
      | exact montageref03_xor.mono _ _ _
      | exact LeO.none _
      | refine LeO.ite ?_ ?_
      | refine LeO.bind ?_ (fun _ => ?_)
theorem montageref03_table.mono : ∀ k, LeO (montageref03_table.f k ) (montageref03_table.f (k + 1) ) := by
  intro  k
  obtain ⟨ih0, ih1⟩ := montageref03_table.mono_l k
  unfold montageref03_table.f
  repeat' first
      | (with_reducible exact ih0 _ _)
      | (with_reducible exact ih1 _ _ _ _)
      | (with_reducible exact montageref03_xor.mono _ _ _)
      | (with_reducible exact LeO.refl _)
      | (with_reducible exact LeO.none _)
      | (with_reducible refine LeO.ite ?_ ?_)
      | (with_reducible refine LeO.bind ?_ (fun _ => ?_))
      | exact ih0 _ _
      | exact ih1 _ _ _ _
      | exact montageref03_xor.mono _ _ _
      | exact LeO.none _
      | refine LeO.ite ?_ ?_
      | refine LeO.bind ?_ (fun _ => ?_)
set_option maxHeartbeats 8000000 in
set_option maxRecDepth 100000 in
theorem montageref03_table.calls (k : Nat)  (r : List Int) (w : World) (h : montageref03_table.f k  = some r) :
    Calls Tryd.prog 52 #[] w fun e w' => ∃ v0_ : Value, e = .returned (v0_) ∧ Kd.R (Kd.int .u32) 39 w' w.heap.size (fun _ => True) v0_ r ∧ Below w.heap.size w w' := by
  have HB := Aside0.mk (Below.refl w.heap.size w)
  have H : (montageref03_table.l0 k ([] : List Int) 0) = some r := h
  clear h
  have H' := Aside0.mk H
  clear H
  go_enter Tryd.func52, Tryd.ntmps52
  go_wp2
  go_loopg [1, 2] k (fun kq v1 v2 w' => ∃ (x1_1 : List Int) (x2_1 : Int), v2 = .int .i64 x2_1 ∧ Aside0 (montageref03_table.l0 kq x1_1 x2_1 = some r) ∧ Aside0 (kq ≤ k) ∧ Aside0 (Kd.R (Kd.int .u32) 39 w' w.heap.size (fun _ => True) v1 x1_1) ∧ Aside0 (Below w.heap.size w w'))
  case atStart => exact ⟨(([] : List Int)), (0), (by first | rfl | (simp; done) | (simp [*]; done)), H', ⟨Nat.le_refl _⟩, ⟨by first | exact Kd.R_nil _ _ _ _ _ | exact Kd.N_nil _ _ _ _ _ | exact Kd.V_nil _ _ _ _ _ | exact Kd.Q_nil _ _ _ _ _ | exact Kd.S_nil _ _ _ _ _⟩, ⟨by repeat (first | (with_reducible first | exact HB.out | apply below_alloc | apply pw_below_drewN | apply below_drew1) | exact HB.out)⟩⟩
  case round =>
    clear H'
    obtain ⟨x1_1, x2_1, rfl, HA, HK1, HO_1, HB⟩ := hrel
    cases gk with
    | zero => exact absurd HA.out (by simp [montageref03_table.l0])
    | succ k1 =>
      have H := HA.out
      clear HA
      simp only [montageref03_table.l0] at H
      by_cases c1 : x2_1 < 256
      · rw [if_pos c1] at H
        have c1b0 : decide (x2_1 < 256) = true := decide_eq_true c1
        clear c1
        have H' := Aside0.mk H
        clear H
        go_wp2
        go_loopg [3, 4] k1 (fun kq v3 v4 w' => ∃ (x3_2 : Int) (x4_2 : Int), v3 = .int .u32 x3_2 ∧ v4 = .int .i64 x4_2 ∧ Aside0 (montageref03_table.l1 kq x1_1 x2_1 x3_2 x4_2 = some r) ∧ Aside0 (kq ≤ k1) ∧ Aside0 (Kd.R (Kd.int .u32) 39 w' w.heap.size (fun _ => True) u1 x1_1) ∧ Aside0 (Below w.heap.size w w'))
        case atStart => exact ⟨((x2_1) % 4294967296), (0), (by first | rfl | (simp; done) | (simp [*]; done)), (by first | rfl | (simp; done) | (simp [*]; done)), H', ⟨Nat.le_refl _⟩, ⟨by (with_reducible repeat (first | apply Kd.R_alloc | apply Kd.R_drewN | apply Kd.R_drew)); exact HO_1.out⟩, ⟨by repeat (first | (with_reducible first | exact HB.out | apply below_alloc | apply pw_below_drewN | apply below_drew1) | exact HB.out)⟩⟩
        case round =>
          clear H'
          try clear c1
          try clear c1b0
          obtain ⟨x3_2, x4_2, rfl, rfl, HA, HK2, HO_1, HB⟩ := hrel
          cases gk with
          | zero => exact absurd HA.out (by simp [montageref03_table.l1])
          | succ k2 =>
            have H := HA.out
            clear HA
            simp only [montageref03_table.l1] at H
            by_cases c2 : x4_2 < 8
            · rw [if_pos c2] at H
              have c2b0 : decide (x4_2 < 8) = true := decide_eq_true c2
              clear c2
              by_cases c3 : (Int.tmod x3_2 2) = 1
              · rw [if_pos c3] at H
                have c3b0 : ((Int.tmod x3_2 2) == 1) = true := beq_iff_eq.mpr c3
                have c3b1 : ((Int.tmod x3_2 2) != 1) = false := bne_eq_false_iff_eq.mpr c3
                clear c3
                replace H := Option.bind_eq_some_iff.mp H
                obtain ⟨t193, A40, H⟩ := H
                replace H : (montageref03_table.l1 k2 x1_1 x2_1 t193 (wrap64 (x4_2 + 1))) = some r := H
                have A4 := Aside0.mk A40
                clear A40
                have H' := Aside0.mk H
                clear H
                go_wp2_with (first | ((with_reducible refine gate_callee (f := 65) rfl ?_); refine goesL_ (some 23) rfl rfl Tryd.func65 (by kernel_rfl) rfl #[.int .u32 ((Int.tdiv x3_2 2) % 4294967296), .int .u32 3988292384] rfl (by (try simp only [List.map_toArray, List.map_cons, List.map_nil]); first | done | rfl | (simp only [List.length_drop, List.length_take]; rfl)) ?_; (with_reducible refine (montageref03_xor.calls k2 ((Int.tdiv x3_2 2) % 4294967296) 3988292384 t193 _ A4.out).mono ?_); rintro e w' ⟨rfl, ⟨nd, rfl⟩⟩; refine ⟨_, rfl, ?_⟩))
                go_roundg k2
                case measure => have := HK1.out; have := HK2.out; omega
                case rel => exact ⟨(t193), (wrap64 (x4_2 + 1)), (by first | rfl | (simp; done) | (simp [*]; done)), (by first | rfl | (simp; done) | (simp [*]; done)), H', ⟨by have := HK1.out; have := HK2.out; omega⟩, ⟨by (with_reducible repeat (first | apply Kd.R_alloc | apply Kd.R_drewN | apply Kd.R_drew)); exact HO_1.out⟩, ⟨by repeat (first | (with_reducible first | exact HB.out | apply below_alloc | apply pw_below_drewN | apply below_drew1) | exact HB.out)⟩⟩
              · rw [if_neg c3] at H
                have c3b0 : ((Int.tmod x3_2 2) == 1) = false := beq_eq_false_iff_ne.mpr c3
                have c3b1 : ((Int.tmod x3_2 2) != 1) = true := bne_iff_ne.mpr c3
                have H' := Aside0.mk H
                clear H
                go_wp2
                go_roundg k2
                case measure => have := HK1.out; have := HK2.out; omega
                case rel => exact ⟨((Int.tdiv x3_2 2) % 4294967296), (wrap64 (x4_2 + 1)), (by first | rfl | (simp; done) | (simp [*]; done)), (by first | rfl | (simp; done) | (simp [*]; done)), H', ⟨by have := HK1.out; have := HK2.out; omega⟩, ⟨by (with_reducible repeat (first | apply Kd.R_alloc | apply Kd.R_drewN | apply Kd.R_drew)); exact HO_1.out⟩, ⟨by repeat (first | (with_reducible first | exact HB.out | apply below_alloc | apply pw_below_drewN | apply below_drew1) | exact HB.out)⟩⟩
            · rw [if_neg c2] at H
              have c2b0 : decide (x4_2 < 8) = false := decide_eq_false c2
              clear c2
              by_cases c5 : x1_1.length < 35184372088832
              · rw [if_pos c5] at H
                have LMc5 := Aside0.mk c5
                clear c5
                obtain ⟨y194, hy194⟩ : ∃ y_ : List Int, y_ = (x1_1 ++ [x3_2]) := ⟨_, rfl⟩
                replace H : (montageref03_table.l0 k2 y194 (wrap64 (x2_1 + 1))) = some r := by first | (rw [hy194]; with_reducible exact H) | (have H2_ := (Option.bind_some _ _).symm.trans H; rw [hy194]; with_reducible exact H2_) | (have H2_ := (Option.bind_some _ _).symm.trans H; with_reducible exact H2_) | with_reducible exact H | (rw [hy194]; exact H) | exact H
                have Ny194 := Aside0.mk hy194
                clear hy194
                have H' := Aside0.mk H
                clear H
                go_wp2_with (first | ((with_reducible refine gate_builtin (b := .append) (xs := #[.tmp 24, .tmp 26]) rfl ?_); at_builtin; refine Kd.R_append (Kd.int .u32) (w0 := w) w.heap.size rfl (.tmp 24) (.tmp 26) 77 39 (.int .u32 0) 4 rfl Tryd.underlying77 info39 rfl (by decide) (by omega) u1 x1_1 x3_2 [.int .u32 x3_2] (fun _ => True) (fun _ => False) rfl rfl ?aP (fun _ hk => hk.elim) ?aF ?aO ?aB ?aS ?aL ?_; (case aP => exact rfl); (case aB => exact (by repeat (first | (with_reducible first | exact HB.out | apply below_alloc | apply pw_below_drewN | apply below_drew1) | exact HB.out))); (case aF => exact (fun _ _ => trivial)); (case aO => exact (by (with_reducible repeat (first | apply Kd.R_alloc | apply Kd.R_drewN | apply Kd.R_drew)); exact HO_1.out)); (case aS => exact (below_size (by repeat (first | (with_reducible first | exact HB.out | apply below_alloc | apply pw_below_drewN | apply below_drew1) | exact HB.out)))); (case aL => have := LMc5.out; omega); intro v195 w6 ho hb hg hat; rw [← Ny194.out] at ho; have n0_ := Aside0.mk (hb); have n1_ := Aside0.mk (ho); clear HB; clear HO_1; have HB := n0_; have HO196 := n1_; clear n0_ n1_; clear ho hb hg hat))
                go_roundg k2
                case measure => have := HK1.out; have := HK2.out; omega
                case rel => exact ⟨(y194), (wrap64 (x2_1 + 1)), (by first | rfl | (simp; done) | (simp [*]; done)), H', ⟨by have := HK1.out; have := HK2.out; omega⟩, ⟨by (with_reducible repeat (first | apply Kd.R_alloc | apply Kd.R_drewN | apply Kd.R_drew)); exact HO196.out⟩, ⟨by repeat (first | (with_reducible first | exact HB.out | apply below_alloc | apply pw_below_drewN | apply below_drew1) | exact HB.out)⟩⟩
              · rw [if_neg c5] at H
                exact absurd H (by simp)
      · rw [if_neg c1] at H
        have c1b0 : decide (x2_1 < 256) = false := decide_eq_false c1
        clear c1
        obtain rfl := Option.some.inj H
        simp only [Option.some.injEq, Prod.mk.injEq] at H
        obtain ⟨rfl⟩ := H
        go_wp2
        go_ret
        exact ⟨_, by first | rfl | (simp [errW_none, errW_some] <;> rfl) | (simp [*, errW_none, errW_some] <;> rfl), by (with_reducible repeat (first | apply Kd.R_alloc | apply Kd.R_drewN | apply Kd.R_drew)); exact HO_1.out, by repeat (first | (with_reducible first | exact HB.out | apply below_alloc | apply pw_below_drewN | apply below_drew1) | exact HB.out)⟩

/-! ### montageref03_Of: function 35 -/
def montageref03_Of.l0 : Nat → ByteArray → List Int → Int → Int → Option (Int)
  | 0, _, _, _, _ => none
  | k + 1, x0, x3, x4, x5 => if x5 < (x0.size : Int) then (if 0 ≤ x5 then (if 0 ≤ (Go.bits .xor .u32 (Int.tmod x4 256) ((bt x0 x5) % 4294967296)) then (if (Go.bits .xor .u32 (Int.tmod x4 256) ((bt x0 x5) % 4294967296)) < (x3.length : Int) then (montageref03_Of.l0 k x0 x3 (Go.bits .xor .u32 ((Int.tdiv x4 256) % 4294967296) (rd x3 (Go.bits .xor .u32 (Int.tmod x4 256) ((bt x0 x5) % 4294967296)))) (wrap64 (x5 + 1))) else (none)) else (none)) else (none)) else (some (Go.bits .xor .u32 x4 4294967295))
def montageref03_Of.f (k : Nat) (a0 : ByteArray) : Option (Int) := (montageref03_table.f k).bind fun t197 => (montageref03_Of.l0 k a0 t197 4294967295 0)
theorem montageref03_Of.mono_l : ∀ k, (∀ y0 y1 y2 y3, LeO (montageref03_Of.l0 k y0 y1 y2 y3) (montageref03_Of.l0 (k + 1) y0 y1 y2 y3))
  | 0 => fun _ _ _ _ r h => by simp [montageref03_Of.l0] at h
  | k + 1 => by
    have ih0 := montageref03_Of.mono_l k
    · intro y0 y1 y2 y3
      unfold montageref03_Of.l0
      repeat' first
      | (with_reducible exact ih0 _ _ _ _)
      | (with_reducible exact montageref03_table.mono _)
      | (with_reducible exact LeO.refl _)
      | (with_reducible exact LeO.none _)
      | (with_reducible refine LeO.ite ?_ ?_)
      | (with_reducible refine LeO.bind ?_ (fun _ => ?_))
      | exact ih0 _ _ _ _
      | exact montageref03_table.mono _
      | exact LeO.none _
      | refine LeO.ite ?_ ?_
      | refine LeO.bind ?_ (fun _ => ?_)
theorem montageref03_Of.mono : ∀ a0 k, LeO (montageref03_Of.f k a0) (montageref03_Of.f (k + 1) a0) := by
  intro a0 k
  have ih0 := montageref03_Of.mono_l k
  unfold montageref03_Of.f
  repeat' first
      | (with_reducible exact ih0 _ _ _ _)
      | (with_reducible exact montageref03_table.mono _)
      | (with_reducible exact LeO.refl _)
      | (with_reducible exact LeO.none _)
      | (with_reducible refine LeO.ite ?_ ?_)
      | (with_reducible refine LeO.bind ?_ (fun _ => ?_))
      | exact ih0 _ _ _ _
      | exact montageref03_table.mono _
      | exact LeO.none _
      | refine LeO.ite ?_ ?_
      | refine LeO.bind ?_ (fun _ => ?_)
set_option maxHeartbeats 8000000 in
set_option maxRecDepth 100000 in
theorem montageref03_Of.calls (k : Nat) (a0 : ByteArray) (r : Int) (w : World) (h : montageref03_Of.f k a0 = some r) :
    Calls Tryd.prog 35 #[.string a0] w fun e w' => e = .returned (.int .u32 r) ∧ Below w.heap.size w w' := by
  have HB := Aside0.mk (Below.refl w.heap.size w)
  have H : ((montageref03_table.f k).bind fun t197 => (montageref03_Of.l0 k a0 t197 4294967295 0)) = some r := h
  clear h
  replace H := Option.bind_eq_some_iff.mp H
  obtain ⟨t197, A20, H⟩ := H
  replace H : (montageref03_Of.l0 k a0 t197 4294967295 0) = some r := H
  have A2 := Aside0.mk A20
  clear A20
  have H' := Aside0.mk H
  clear H
  go_enter Tryd.func35, Tryd.ntmps35
  go_wp2_with (first | ((with_reducible refine gate_callee (f := 52) rfl ?_); refine goesL_ (some 6) rfl rfl Tryd.func52 (by kernel_rfl) rfl #[] rfl (by (try simp only [List.map_toArray, List.map_cons, List.map_nil]); first | done | rfl | (simp only [List.length_drop, List.length_take]; rfl)) ?_; (with_reducible refine (montageref03_table.calls k  t197 _ A2.out).mono ?_); rintro e w3 ⟨v198, rfl, ho0, hb⟩; refine ⟨_, rfl, ?_⟩; have n0_ := Aside0.mk (Kd.R_lower ho0 (below_size (by repeat (first | (with_reducible first | exact HB.out | apply below_alloc | apply pw_below_drewN | apply below_drew1) | exact HB.out)))); have n1_ := Aside0.mk (below_step (by repeat (first | (with_reducible first | exact HB.out | apply below_alloc | apply pw_below_drewN | apply below_drew1) | exact HB.out)) hb); clear HB; have HO199 := n0_; have HB := n1_; clear n0_ n1_; (try clear hb); (try clear hb2); (try clear hk); (try clear hi); (try clear ho0)))
  go_loopg [4, 5] k (fun kq v4 v5 w' => ∃ (x4_1 : Int) (x5_1 : Int), v4 = .int .u32 x4_1 ∧ v5 = .int .i64 x5_1 ∧ Aside0 (montageref03_Of.l0 kq a0 t197 x4_1 x5_1 = some r) ∧ Aside0 (kq ≤ k) ∧ Aside0 (Kd.R (Kd.int .u32) 39 w' w.heap.size (fun _ => True) v198 t197) ∧ Aside0 (Below w.heap.size w w'))
  case atStart => exact ⟨(4294967295), (0), (by first | rfl | (simp; done) | (simp [*]; done)), (by first | rfl | (simp; done) | (simp [*]; done)), H', ⟨Nat.le_refl _⟩, ⟨by (with_reducible repeat (first | apply Kd.R_alloc | apply Kd.R_drewN | apply Kd.R_drew)); exact HO199.out⟩, ⟨by repeat (first | (with_reducible first | exact HB.out | apply below_alloc | apply pw_below_drewN | apply below_drew1) | exact HB.out)⟩⟩
  case round =>
    clear H'
    try clear p2
    try clear c3
    obtain ⟨x4_1, x5_1, rfl, rfl, HA, HK1, HO_3, HB⟩ := hrel
    cases gk with
    | zero => exact absurd HA.out (by simp [montageref03_Of.l0])
    | succ k1 =>
      have H := HA.out
      clear HA
      simp only [montageref03_Of.l0] at H
      by_cases c4 : x5_1 < (a0.size : Int)
      · rw [if_pos c4] at H
        have c4b0 : decide (x5_1 < (a0.size : Int)) = true := decide_eq_true c4
        clear c4
        by_cases c5 : 0 ≤ x5_1
        · rw [if_pos c5] at H
          have c5b0 : decide (0 ≤ x5_1) = true := decide_eq_true c5
          clear c5
          obtain ⟨ji7, hji7⟩ : ∃ j_ : Int, (Go.bits .xor .u32 (Int.tmod x4_1 256) ((bt a0 x5_1) % 4294967296)) = j_ := ⟨_, rfl⟩
          replace H : (if 0 ≤ (ji7) then (if (ji7) < (t197.length : Int) then (montageref03_Of.l0 k1 a0 t197 (Go.bits .xor .u32 ((Int.tdiv x4_1 256) % 4294967296) (rd t197 (ji7))) (wrap64 (x5_1 + 1))) else (none)) else (none)) = some r := by first | (rw [hji7] at H; exact H) | (simp only [hji7] at H ⊢; exact H)
          by_cases c8 : 0 ≤ (ji7)
          · rw [if_pos c8] at H
            have c8b0 : decide (0 ≤ (ji7)) = true := decide_eq_true c8
            clear c8
            by_cases c9 : (ji7) < (t197.length : Int)
            · rw [if_pos c9] at H
              have c9b0 : decide ((ji7) < (t197.length : Int)) = true := decide_eq_true c9
              clear c9
              have H' := Aside0.mk H
              clear H
              have p6 : 0 ≤ (x5_1 : Int) := of_decide_eq_true (by first | (with_reducible assumption) | assumption)
              have q6 : x5_1 < (a0.size : Int) := of_decide_eq_true (by first | (with_reducible assumption) | assumption)
              have hx6 := bt_at a0 x5_1
              replace p6 := eq_true p6
              replace q6 := eq_true q6
              obtain ⟨Ao10, co10, eo10⟩ := Kd.R_slice HO_3.out
              subst eo10
              have p200 : 0 ≤ ((ji7) : Int) := of_decide_eq_true (by first | (with_reducible assumption) | assumption)
              have q200 : (ji7) < (t197.length : Int) := of_decide_eq_true (by first | (with_reducible assumption) | assumption)
              obtain ⟨ad200, e200, hx200_0⟩ := Kd.at_int (Kd.R_reads' HO_3.out).2.2 (ji7) p200 q200
              cases e200
              replace p200 := eq_true p200
              replace q200 := eq_true q200
              go_wp2
              go_roundg k1
              case measure => have := HK1.out; omega
              case rel => exact ⟨(Go.bits .xor .u32 ((Int.tdiv x4_1 256) % 4294967296) (rd t197 (ji7))), (wrap64 (x5_1 + 1)), (by first | rfl | (simp; done) | (simp only [← hji7] <;> (first | rfl | simp)) | (simp [*]; done)), (by first | rfl | (simp; done) | (simp [*]; done)), H', ⟨by have := HK1.out; omega⟩, ⟨by (with_reducible repeat (first | apply Kd.R_alloc | apply Kd.R_drewN | apply Kd.R_drew)); exact HO_3.out⟩, ⟨by repeat (first | (with_reducible first | exact HB.out | apply below_alloc | apply pw_below_drewN | apply below_drew1) | exact HB.out)⟩⟩
            · rw [if_neg c9] at H
              exact absurd H (by simp)
          · rw [if_neg c8] at H
            exact absurd H (by simp)
        · rw [if_neg c5] at H
          exact absurd H (by simp)
      · rw [if_neg c4] at H
        have c4b0 : decide (x5_1 < (a0.size : Int)) = false := decide_eq_false c4
        clear c4
        obtain rfl := Option.some.inj H
        simp only [Option.some.injEq, Prod.mk.injEq] at H
        obtain ⟨rfl⟩ := H
        go_wp2
        go_ret
        exact ⟨by first | rfl | (simp [errW_none, errW_some] <;> rfl) | (simp [*, errW_none, errW_some] <;> rfl), by repeat (first | (with_reducible first | exact HB.out | apply below_alloc | apply pw_below_drewN | apply below_drew1) | exact HB.out)⟩

/-! ### montageref42_sum: function 23 -/
def montageref42_sum.f (k : Nat) (a0 : ByteArray) : Option (ByteArray) := (montageref03_Of.f k a0).bind fun t201 => ((montageref42_Signs.f k (strOfNums (([(t201 / 65536) % 256, (t201 / 256) % 256, (t201) % 256] : List Int)))).bind fun t205 => (if 1 + t205.size ≤ 9223372036854775807 then (some ((⟨#[61]⟩ : ByteArray) ++ t205)) else (none)))
theorem montageref42_sum.mono : ∀ a0 k, LeO (montageref42_sum.f k a0) (montageref42_sum.f (k + 1) a0) := by
  intro a0 k
  unfold montageref42_sum.f
  repeat' first
      | (with_reducible exact montageref03_Of.mono _ _)
      | (with_reducible exact montageref42_Signs.mono _ _)
      | (with_reducible exact LeO.refl _)
      | (with_reducible exact LeO.none _)
      | (with_reducible refine LeO.ite ?_ ?_)
      | (with_reducible refine LeO.bind ?_ (fun _ => ?_))
      | exact montageref03_Of.mono _ _
      | exact montageref42_Signs.mono _ _
      | exact LeO.none _
      | refine LeO.ite ?_ ?_
      | refine LeO.bind ?_ (fun _ => ?_)
set_option maxHeartbeats 8000000 in
set_option maxRecDepth 100000 in
theorem montageref42_sum.calls (k : Nat) (a0 : ByteArray) (r : ByteArray) (w : World) (h : montageref42_sum.f k a0 = some r) :
    Calls Tryd.prog 23 #[.string a0] w fun e w' => e = .returned (.string r) ∧ Below w.heap.size w w' := by
  have HB := Aside0.mk (Below.refl w.heap.size w)
  have H : ((montageref03_Of.f k a0).bind fun t201 => ((montageref42_Signs.f k (strOfNums (([(t201 / 65536) % 256, (t201 / 256) % 256, (t201) % 256] : List Int)))).bind fun t205 => (if 1 + t205.size ≤ 9223372036854775807 then (some ((⟨#[61]⟩ : ByteArray) ++ t205)) else (none)))) = some r := h
  clear h
  replace H := Option.bind_eq_some_iff.mp H
  obtain ⟨t201, A20, H⟩ := H
  replace H : ((montageref42_Signs.f k (strOfNums (([(t201 / 65536) % 256, (t201 / 256) % 256, (t201) % 256] : List Int)))).bind fun t205 => (if 1 + t205.size ≤ 9223372036854775807 then (some ((⟨#[61]⟩ : ByteArray) ++ t205)) else (none))) = some r := H
  have A2 := Aside0.mk A20
  clear A20
  obtain ⟨y202, hy202⟩ : ∃ y_ : List Int, y_ = (([(t201 / 65536) % 256, (t201 / 256) % 256, (t201) % 256] : List Int)) := ⟨_, rfl⟩
  replace H : ((montageref42_Signs.f k (strOfNums y202)).bind fun t205 => (if 1 + t205.size ≤ 9223372036854775807 then (some ((⟨#[61]⟩ : ByteArray) ++ t205)) else (none))) = some r := by first | (rw [hy202]; with_reducible exact H) | (have H2_ := (Option.bind_some _ _).symm.trans H; rw [hy202]; with_reducible exact H2_) | (have H2_ := (Option.bind_some _ _).symm.trans H; with_reducible exact H2_) | with_reducible exact H | (rw [hy202]; exact H) | exact H
  have Ny202 := Aside0.mk hy202
  clear hy202
  replace H := Option.bind_eq_some_iff.mp H
  obtain ⟨t205, A30, H⟩ := H
  replace H : (if 1 + t205.size ≤ 9223372036854775807 then (some ((⟨#[61]⟩ : ByteArray) ++ t205)) else (none)) = some r := H
  have A3 := Aside0.mk A30
  clear A30
  by_cases c4 : 1 + t205.size ≤ 9223372036854775807
  · rw [if_pos c4] at H
    have c4b0 := eq_true c4
    have c4b1 : decide (1 + t205.size ≤ 9223372036854775807) = true := decide_eq_true c4
    try have c4b2 : (9223372036854775807 < 1 + t205.size) = False := eq_false (Nat.not_lt.2 c4)
    obtain rfl := Option.some.inj H
    simp only [Option.some.injEq, Prod.mk.injEq] at H
    obtain ⟨rfl⟩ := H
    go_enter Tryd.func23, Tryd.ntmps23
    go_wp2_with (first | ((with_reducible refine gate_callee (f := 35) rfl ?_); refine goesL_ (some 5) rfl rfl Tryd.func35 (by kernel_rfl) rfl #[.string a0] rfl (by (try simp only [List.map_toArray, List.map_cons, List.map_nil]); first | done | rfl | (simp only [List.length_drop, List.length_take]; rfl)) ?_; (with_reducible refine (montageref03_Of.calls k a0 t201 _ A2.out).mono ?_); rintro e w5 ⟨rfl, hb⟩; refine ⟨_, rfl, ?_⟩; have n0_ := Aside0.mk (below_step (by repeat (first | (with_reducible first | exact HB.out | apply below_alloc | apply pw_below_drewN | apply below_drew1) | exact HB.out)) hb); clear HB; have HB := n0_; clear n0_; (try clear hb); (try clear hb2); (try clear hk); (try clear hi)) | ((with_reducible refine gate_dst (N := 14) rfl ?_); refine Kd.R_lit (Kd.int .u8) _ 5 ?hg (N := 14) ?hd (xs := ([(t201 / 65536) % 256, (t201 / 256) % 256, (t201) % 256] : List Int)) (inner := [.int .u8 ((t201 / 65536) % 256), .int .u8 ((t201 / 256) % 256), .int .u8 ((t201) % 256)]) (ok := fun _ => True) (okp := fun _ => True) ?hr ?hp (fun _ hk => hk) trivial (Below.refl _ _) (Nat.le_refl _) (by simp) ?_; (case hd => rfl); (case hg => rfl); (case hr => first | (go_simp; done) | (go_simp; rfl)); (case hp => exact (Reps.one (show Kd.M (Kd.int .u8) _ _ _ ((t201 / 65536) % 256) [.int .u8 ((t201 / 65536) % 256)] from rfl) (Reps.one (show Kd.M (Kd.int .u8) _ _ _ ((t201 / 256) % 256) [.int .u8 ((t201 / 256) % 256)] from rfl) (Reps.one (show Kd.M (Kd.int .u8) _ _ _ ((t201) % 256) [.int .u8 ((t201) % 256)] from rfl) (Reps.none _ _))))); intro v203 w6 ho7 hb hg_ hnew_; clear hg_ hnew_; (first | rw [← Ny202.out] at ho7 | (simp only [Int.reduceToNat] at ho7; rw [← Ny202.out] at ho7)); have n0_ := Aside0.mk (Kd.R_lower ho7 (below_size (by repeat (first | (with_reducible first | exact HB.out | apply below_alloc | apply pw_below_drewN | apply below_drew1) | exact HB.out)))); have n1_ := Aside0.mk (below_step (by repeat (first | (with_reducible first | exact HB.out | apply below_alloc | apply pw_below_drewN | apply below_drew1) | exact HB.out)) hb); clear HB; have HO204 := n0_; have HB := n1_; clear n0_ n1_; clear hb ho7; have hcv8 := own_string (P := Tryd.prog) Tryd.underlying36 Tryd.underlying5 Tryd.underlying9 (Kd.own_of_R HO204.out)) | ((with_reducible refine gate_callee (f := 9) rfl ?_); refine goesL_ (some 16) rfl rfl Tryd.func9 (by kernel_rfl) rfl #[.string (strOfNums y202)] rfl (by (try simp only [List.map_toArray, List.map_cons, List.map_nil]); first | done | rfl | (simp only [List.length_drop, List.length_take]; rfl)) ?_; (with_reducible refine (montageref42_Signs.calls k (strOfNums y202) t205 _ A3.out).mono ?_); rintro e w9 ⟨rfl, hb⟩; refine ⟨_, rfl, ?_⟩; have n0_ := Aside0.mk (Kd.R_below (by (with_reducible repeat (first | apply Kd.R_alloc | apply Kd.R_drewN | apply Kd.R_drew)); exact HO204.out) hb); have n1_ := Aside0.mk (below_step (by repeat (first | (with_reducible first | exact HB.out | apply below_alloc | apply pw_below_drewN | apply below_drew1) | exact HB.out)) hb); clear HO204; clear HB; have HO204 := n0_; have HB := n1_; clear n0_ n1_; (try clear hb); (try clear hb2); (try clear hk); (try clear hi)))
    go_ret
    exact ⟨by first | rfl | (simp [errW_none, errW_some] <;> rfl) | (simp [*, errW_none, errW_some] <;> rfl), by repeat (first | (with_reducible first | exact HB.out | apply below_alloc | apply pw_below_drewN | apply below_drew1) | exact HB.out)⟩
  · rw [if_neg c4] at H
    exact absurd H (by simp)

/-! ### montageref42_Encode: function 11 -/
mutual
def montageref42_Encode.j0 : Nat → ByteArray → ByteArray → Int → Bool → Option (ByteArray × Int)
  | 0, _, _, _, _ => none
  | k + 1, x0, x1, x2, x26 => if x26 = true then (some ((⟨#[]⟩ : ByteArray), 1)) else (if (x0.size : Int) > 4194304 then (some ((⟨#[]⟩ : ByteArray), 7)) else (if 11 + x1.size ≤ 9223372036854775807 then (if ((⟨#[45, 45, 45, 45, 45, 66, 69, 71, 73, 78, 32]⟩ : ByteArray) ++ x1).size + 6 ≤ 9223372036854775807 then ((montageref42_Signs.f k x0).bind fun t207 => (montageref42_Encode.l0 k x0 x1 x2 (((⟨#[45, 45, 45, 45, 45, 66, 69, 71, 73, 78, 32]⟩ : ByteArray) ++ x1) ++ (⟨#[45, 45, 45, 45, 45, 10]⟩ : ByteArray)) t207)) else (none)) else (none)))
def montageref42_Encode.l0 : Nat → ByteArray → ByteArray → Int → ByteArray → ByteArray → Option (ByteArray × Int)
  | 0, _, _, _, _, _ => none
  | k + 1, x0, x1, x2, x8, x9 => if x9.toList = ([] : List UInt8) then ((montageref42_sum.f k x0).bind fun t208 => (if x8.size + t208.size ≤ 9223372036854775807 then (if (x8 ++ t208).size + 10 ≤ 9223372036854775807 then (if ((x8 ++ t208) ++ (⟨#[10, 45, 45, 45, 45, 45, 69, 78, 68, 32]⟩ : ByteArray)).size + x1.size ≤ 9223372036854775807 then (if (((x8 ++ t208) ++ (⟨#[10, 45, 45, 45, 45, 45, 69, 78, 68, 32]⟩ : ByteArray)) ++ x1).size + 6 ≤ 9223372036854775807 then (some ((((x8 ++ t208) ++ (⟨#[10, 45, 45, 45, 45, 45, 69, 78, 68, 32]⟩ : ByteArray)) ++ x1) ++ (⟨#[45, 45, 45, 45, 45, 10]⟩ : ByteArray), 0)) else (none)) else (none)) else (none)) else (none))) else (if 0 ≤ (mn x2 (x9.size : Int)) then (if (mn x2 (x9.size : Int)) ≤ (x9.size : Int) then (if x8.size + (x9.extract 0 ((mn x2 (x9.size : Int)) : Int).toNat).size ≤ 9223372036854775807 then (if (x8 ++ (x9.extract 0 ((mn x2 (x9.size : Int)) : Int).toNat)).size + 1 ≤ 9223372036854775807 then (montageref42_Encode.l0 k x0 x1 x2 ((x8 ++ (x9.extract 0 ((mn x2 (x9.size : Int)) : Int).toNat)) ++ (⟨#[10]⟩ : ByteArray)) (x9.extract ((mn x2 (x9.size : Int)) : Int).toNat x9.size)) else (none)) else (none)) else (none)) else (none))
end
def montageref42_Encode.f (k : Nat) (a0 : ByteArray) (a1 : ByteArray) (a2 : Int) : Option (ByteArray × Int) := (montageref42_name.f k a1).bind fun t206 => (if t206 = true then (if a2 < 4 then (montageref42_Encode.j0 k a0 a1 a2 true) else (if a2 > 76 then (montageref42_Encode.j0 k a0 a1 a2 true) else (montageref42_Encode.j0 k a0 a1 a2 ((Int.tmod a2 4) != 0)))) else (montageref42_Encode.j0 k a0 a1 a2 true))
theorem montageref42_Encode.mono_l : ∀ k, (∀ y0 y1 y2 y3, LeO (montageref42_Encode.j0 k y0 y1 y2 y3) (montageref42_Encode.j0 (k + 1) y0 y1 y2 y3)) ∧ (∀ y0 y1 y2 y3 y4, LeO (montageref42_Encode.l0 k y0 y1 y2 y3 y4) (montageref42_Encode.l0 (k + 1) y0 y1 y2 y3 y4))
  | 0 => ⟨fun _ _ _ _ r h => by simp [montageref42_Encode.j0] at h, fun _ _ _ _ _ r h => by simp [montageref42_Encode.l0] at h⟩
  | k + 1 => by
    obtain ⟨ih0, ih1⟩ := montageref42_Encode.mono_l k
    refine ⟨?_, ?_⟩
    · intro y0 y1 y2 y3
      unfold montageref42_Encode.j0
      repeat' first
      | (with_reducible exact ih0 _ _ _ _)
      | (with_reducible exact ih1 _ _ _ _ _)
      | (with_reducible exact montageref42_Signs.mono _ _)
      | (with_reducible exact montageref42_name.mono _ _)
      | (with_reducible exact montageref42_sum.mono _ _)
      | (with_reducible exact LeO.refl _)
      | (with_reducible exact LeO.none _)
      | (with_reducible refine LeO.ite ?_ ?_)
      | (with_reducible refine LeO.bind ?_ (fun _ => ?_))
      | exact ih0 _ _ _ _
      | exact ih1 _ _ _ _ _
      | exact montageref42_Signs.mono _ _
      | exact montageref42_name.mono _ _
      | exact montageref42_sum.mono _ _
      | exact LeO.none _
      | refine LeO.ite ?_ ?_
      | refine LeO.bind ?_ (fun _ => ?_)
    · intro y0 y1 y2 y3 y4
      unfold montageref42_Encode.l0
      repeat' first
      | (with_reducible exact ih0 _ _ _ _)
      | (with_reducible exact ih1 _ _ _ _ _)
      | (with_reducible exact montageref42_Signs.mono _ _)
      | (with_reducible exact montageref42_name.mono _ _)
      | (with_reducible exact montageref42_sum.mono _ _)
      | (with_reducible exact LeO.refl _)
      | (with_reducible exact LeO.none _)
      | (with_reducible refine LeO.ite ?_ ?_)
      | (with_reducible refine LeO.bind ?_ (fun _ => ?_))
      | exact ih0 _ _ _ _
      | exact ih1 _ _ _ _ _
      | exact montageref42_Signs.mono _ _
      | exact montageref42_name.mono _ _
      | exact montageref42_sum.mono _ _
      | exact LeO.none _
      | refine LeO.ite ?_ ?_
      | refine LeO.bind ?_ (fun _ => ?_)
theorem montageref42_Encode.mono : ∀ a0 a1 a2 k, LeO (montageref42_Encode.f k a0 a1 a2) (montageref42_Encode.f (k + 1) a0 a1 a2) := by
  intro a0 a1 a2 k
  obtain ⟨ih0, ih1⟩ := montageref42_Encode.mono_l k
  unfold montageref42_Encode.f
  repeat' first
      | (with_reducible exact ih0 _ _ _ _)
      | (with_reducible exact ih1 _ _ _ _ _)
      | (with_reducible exact montageref42_Signs.mono _ _)
      | (with_reducible exact montageref42_name.mono _ _)
      | (with_reducible exact montageref42_sum.mono _ _)
      | (with_reducible exact LeO.refl _)
      | (with_reducible exact LeO.none _)
      | (with_reducible refine LeO.ite ?_ ?_)
      | (with_reducible refine LeO.bind ?_ (fun _ => ?_))
      | exact ih0 _ _ _ _
      | exact ih1 _ _ _ _ _
      | exact montageref42_Signs.mono _ _
      | exact montageref42_name.mono _ _
      | exact montageref42_sum.mono _ _
      | exact LeO.none _
      | refine LeO.ite ?_ ?_
      | refine LeO.bind ?_ (fun _ => ?_)
set_option maxHeartbeats 8000000 in
set_option maxRecDepth 100000 in
theorem montageref42_Encode.calls (k : Nat) (a0 : ByteArray) (a1 : ByteArray) (a2 : Int) (r1 : ByteArray) (r2 : Int) (w : World) (h : montageref42_Encode.f k a0 a1 a2 = some (r1, r2)) :
    Calls Tryd.prog 11 #[.string a0, .string a1, .int .i64 a2] w fun e w' => e = .returned (.tuple #[.string r1, .int .i64 r2]) ∧ Below w.heap.size w w' := by
  have HB := Aside0.mk (Below.refl w.heap.size w)
  have H : ((montageref42_name.f k a1).bind fun t206 => (if t206 = true then (if a2 < 4 then (montageref42_Encode.j0 k a0 a1 a2 true) else (if a2 > 76 then (montageref42_Encode.j0 k a0 a1 a2 true) else (montageref42_Encode.j0 k a0 a1 a2 ((Int.tmod a2 4) != 0)))) else (montageref42_Encode.j0 k a0 a1 a2 true))) = some (r1, r2) := h
  clear h
  have HC4 := Aside0.mk H
  clear H
  go_enter Tryd.func11, Tryd.ntmps11
  go_upto_region 1 with (fail)
  go_cut [26] (fun v26 wc => ∃ (kq : Nat) (x26_3 : Bool), v26 = .bool x26_3 ∧ Aside0 (montageref42_Encode.j0 kq a0 a1 a2 x26_3 = some (r1, r2)) ∧ Aside0 (kq ≤ k) ∧ Aside0 (Below w.heap.size w wc))
  case first =>
    have H := HC4.out
    clear HC4
    replace H := Option.bind_eq_some_iff.mp H
    obtain ⟨t206, A50, H⟩ := H
    replace H : (if t206 = true then (if a2 < 4 then (montageref42_Encode.j0 k a0 a1 a2 true) else (if a2 > 76 then (montageref42_Encode.j0 k a0 a1 a2 true) else (montageref42_Encode.j0 k a0 a1 a2 ((Int.tmod a2 4) != 0)))) else (montageref42_Encode.j0 k a0 a1 a2 true)) = some (r1, r2) := H
    have A5 := Aside0.mk A50
    clear A50
    by_cases c6 : t206 = true
    · subst c6
      have H1 : (if a2 < 4 then (montageref42_Encode.j0 k a0 a1 a2 true) else (if a2 > 76 then (montageref42_Encode.j0 k a0 a1 a2 true) else (montageref42_Encode.j0 k a0 a1 a2 ((Int.tmod a2 4) != 0)))) = some (r1, r2) := by rw [if_pos rfl] at H; exact H
      clear H
      have H := H1
      clear H1
      by_cases c7 : a2 < 4
      · rw [if_pos c7] at H
        have c7b0 : decide (a2 < 4) = true := decide_eq_true c7
        clear c7
        (first | rw [c7b0] | (simp only [i64_w, i32_w]; rw [c7b0]) | skip)
        have H' := Aside0.mk H
        clear H
        go_wp2_with (first | ((with_reducible refine gate_callee (f := 22) rfl ?_); refine goesL_ (some 12) rfl rfl Tryd.func22 (by kernel_rfl) rfl #[.string a1] rfl (by (try simp only [List.map_toArray, List.map_cons, List.map_nil]); first | done | rfl | (simp only [List.length_drop, List.length_take]; rfl)) ?_; (with_reducible refine (montageref42_name.calls k a1 true _ A5.out).mono ?_); rintro e w' ⟨rfl, ⟨nd, rfl⟩⟩; refine ⟨_, rfl, ?_⟩))
        go_meet
        case rel => exact ⟨_, (true), (by first | rfl | (simp; done) | (simp [*]; done)), H', ⟨by first | omega | exact Nat.le_refl _⟩, ⟨by repeat (first | (with_reducible first | exact HB.out | apply below_alloc | apply pw_below_drewN | apply below_drew1) | exact HB.out)⟩⟩
      · rw [if_neg c7] at H
        have c7b0 : decide (a2 < 4) = false := decide_eq_false c7
        clear c7
        (first | rw [c7b0] | (simp only [i64_w, i32_w]; rw [c7b0]) | skip)
        by_cases c8 : a2 > 76
        · rw [if_pos c8] at H
          have c8b0 : decide (76 < a2) = true := decide_eq_true c8
          clear c8
          have H' := Aside0.mk H
          clear H
          go_wp2_with (first | ((with_reducible refine gate_callee (f := 22) rfl ?_); refine goesL_ (some 12) rfl rfl Tryd.func22 (by kernel_rfl) rfl #[.string a1] rfl (by (try simp only [List.map_toArray, List.map_cons, List.map_nil]); first | done | rfl | (simp only [List.length_drop, List.length_take]; rfl)) ?_; (with_reducible refine (montageref42_name.calls k a1 true _ A5.out).mono ?_); rintro e w' ⟨rfl, ⟨nd, rfl⟩⟩; refine ⟨_, rfl, ?_⟩))
          go_meet
          case rel => exact ⟨_, (true), (by first | rfl | (simp; done) | (simp [*]; done)), H', ⟨by first | omega | exact Nat.le_refl _⟩, ⟨by repeat (first | (with_reducible first | exact HB.out | apply below_alloc | apply pw_below_drewN | apply below_drew1) | exact HB.out)⟩⟩
        · rw [if_neg c8] at H
          have c8b0 : decide (76 < a2) = false := decide_eq_false c8
          clear c8
          have H' := Aside0.mk H
          clear H
          go_wp2_with (first | ((with_reducible refine gate_callee (f := 22) rfl ?_); refine goesL_ (some 12) rfl rfl Tryd.func22 (by kernel_rfl) rfl #[.string a1] rfl (by (try simp only [List.map_toArray, List.map_cons, List.map_nil]); first | done | rfl | (simp only [List.length_drop, List.length_take]; rfl)) ?_; (with_reducible refine (montageref42_name.calls k a1 true _ A5.out).mono ?_); rintro e w' ⟨rfl, ⟨nd, rfl⟩⟩; refine ⟨_, rfl, ?_⟩))
          go_meet
          case rel => exact ⟨_, (((Int.tmod a2 4) != 0)), (by first | rfl | (simp; done) | (simp [*]; done)), H', ⟨by first | omega | exact Nat.le_refl _⟩, ⟨by repeat (first | (with_reducible first | exact HB.out | apply below_alloc | apply pw_below_drewN | apply below_drew1) | exact HB.out)⟩⟩
    · replace c6 := Bool.eq_false_iff.mpr c6
      subst c6
      have H1 : (montageref42_Encode.j0 k a0 a1 a2 true) = some (r1, r2) := by rw [if_neg (show ¬ (false = true) by decide)] at H; exact H
      clear H
      have H := H1
      clear H1
      have H' := Aside0.mk H
      clear H
      go_wp2_with (first | ((with_reducible refine gate_callee (f := 22) rfl ?_); refine goesL_ (some 12) rfl rfl Tryd.func22 (by kernel_rfl) rfl #[.string a1] rfl (by (try simp only [List.map_toArray, List.map_cons, List.map_nil]); first | done | rfl | (simp only [List.length_drop, List.length_take]; rfl)) ?_; (with_reducible refine (montageref42_name.calls k a1 false _ A5.out).mono ?_); rintro e w' ⟨rfl, ⟨nd, rfl⟩⟩; refine ⟨_, rfl, ?_⟩))
      go_meet
      case rel => exact ⟨_, (true), (by first | rfl | (simp; done) | (simp [*]; done)), H', ⟨by first | omega | exact Nat.le_refl _⟩, ⟨by repeat (first | (with_reducible first | exact HB.out | apply below_alloc | apply pw_below_drewN | apply below_drew1) | exact HB.out)⟩⟩
  case rest =>
    clear HC4
    try clear c1
    try clear c2
    try clear p2
    try clear c6
    try clear c7
    try clear c7b0
    try clear c8
    try clear c8b0
    obtain ⟨kq, x26_3, rfl, HA, HJ3, HB⟩ := hcut
    cases kq with
    | zero => exact absurd HA.out (by simp [montageref42_Encode.j0])
    | succ kj3 =>
      have H := HA.out
      clear HA
      simp only [montageref42_Encode.j0] at H
      by_cases c9 : x26_3 = true
      · subst c9
        have H1 : (some ((⟨#[]⟩ : ByteArray), 1)) = some (r1, r2) := by rw [if_pos rfl] at H; exact H
        clear H
        have H := H1
        clear H1
        simp only [Option.some.injEq, Prod.mk.injEq] at H
        obtain ⟨rfl, rfl⟩ := H
        go_wp2
        go_ret2
        exact ⟨by first | rfl | (simp [errW_none, errW_some] <;> rfl) | (simp [*, errW_none, errW_some] <;> rfl), by repeat (first | (with_reducible first | exact HB.out | apply below_alloc | apply pw_below_drewN | apply below_drew1) | exact HB.out)⟩
      · replace c9 := Bool.eq_false_iff.mpr c9
        subst c9
        have H1 : (if (a0.size : Int) > 4194304 then (some ((⟨#[]⟩ : ByteArray), 7)) else (if 11 + a1.size ≤ 9223372036854775807 then (if ((⟨#[45, 45, 45, 45, 45, 66, 69, 71, 73, 78, 32]⟩ : ByteArray) ++ a1).size + 6 ≤ 9223372036854775807 then ((montageref42_Signs.f kj3 a0).bind fun t207 => (montageref42_Encode.l0 kj3 a0 a1 a2 (((⟨#[45, 45, 45, 45, 45, 66, 69, 71, 73, 78, 32]⟩ : ByteArray) ++ a1) ++ (⟨#[45, 45, 45, 45, 45, 10]⟩ : ByteArray)) t207)) else (none)) else (none))) = some (r1, r2) := by rw [if_neg (show ¬ (false = true) by decide)] at H; exact H
        clear H
        have H := H1
        clear H1
        by_cases c10 : (a0.size : Int) > 4194304
        · rw [if_pos c10] at H
          have c10b0 : decide (4194304 < (a0.size : Int)) = true := decide_eq_true c10
          have c10b1 : decide (4194304 < a0.size) = true := decide_eq_true (by omega)
          clear c10
          simp only [Option.some.injEq, Prod.mk.injEq] at H
          obtain ⟨rfl, rfl⟩ := H
          go_wp2
          go_ret2
          exact ⟨by first | rfl | (simp [errW_none, errW_some] <;> rfl) | (simp [*, errW_none, errW_some] <;> rfl), by repeat (first | (with_reducible first | exact HB.out | apply below_alloc | apply pw_below_drewN | apply below_drew1) | exact HB.out)⟩
        · rw [if_neg c10] at H
          have c10b0 : decide (4194304 < (a0.size : Int)) = false := decide_eq_false c10
          have c10b1 : decide (4194304 < a0.size) = false := decide_eq_false (by omega)
          clear c10
          by_cases c11 : 11 + a1.size ≤ 9223372036854775807
          · rw [if_pos c11] at H
            have c11b0 := eq_true c11
            have c11b1 : decide (11 + a1.size ≤ 9223372036854775807) = true := decide_eq_true c11
            try have c11b2 : (9223372036854775807 < 11 + a1.size) = False := eq_false (Nat.not_lt.2 c11)
            by_cases c12 : ((⟨#[45, 45, 45, 45, 45, 66, 69, 71, 73, 78, 32]⟩ : ByteArray) ++ a1).size + 6 ≤ 9223372036854775807
            · rw [if_pos c12] at H
              have c12b0 := eq_true c12
              have c12b1 : decide (((⟨#[45, 45, 45, 45, 45, 66, 69, 71, 73, 78, 32]⟩ : ByteArray) ++ a1).size + 6 ≤ 9223372036854775807) = true := decide_eq_true c12
              try have c12b2 : (9223372036854775807 < ((⟨#[45, 45, 45, 45, 45, 66, 69, 71, 73, 78, 32]⟩ : ByteArray) ++ a1).size + 6) = False := eq_false (Nat.not_lt.2 c12)
              try (have c12b3 := c12; simp only [ByteArray.size_append, xfix_mk, List.size_toArray, List.length_cons, List.length_nil, Nat.reduceAdd, Nat.zero_add] at c12b3; replace c12b3 := eq_false (Nat.not_lt.2 c12b3))
              replace H := Option.bind_eq_some_iff.mp H
              obtain ⟨t207, A130, H⟩ := H
              replace H : (montageref42_Encode.l0 kj3 a0 a1 a2 (((⟨#[45, 45, 45, 45, 45, 66, 69, 71, 73, 78, 32]⟩ : ByteArray) ++ a1) ++ (⟨#[45, 45, 45, 45, 45, 10]⟩ : ByteArray)) t207) = some (r1, r2) := H
              have A13 := Aside0.mk A130
              clear A130
              have H' := Aside0.mk H
              clear H
              go_wp2_with (first | ((with_reducible refine gate_callee (f := 9) rfl ?_); refine goesL_ (some 34) rfl rfl Tryd.func9 (by kernel_rfl) rfl #[.string a0] rfl (by (try simp only [List.map_toArray, List.map_cons, List.map_nil]); first | done | rfl | (simp only [List.length_drop, List.length_take]; rfl)) ?_; (with_reducible refine (montageref42_Signs.calls kj3 a0 t207 _ A13.out).mono ?_); rintro e w14 ⟨rfl, hb⟩; refine ⟨_, rfl, ?_⟩; have n0_ := Aside0.mk (below_step (by repeat (first | (with_reducible first | exact HB.out | apply below_alloc | apply pw_below_drewN | apply below_drew1) | exact HB.out)) hb); clear HB; have HB := n0_; clear n0_; (try clear hb); (try clear hb2); (try clear hk); (try clear hi)))
              go_loopg [8, 9] kj3 (fun kq v8 v9 w' => ∃ (x8_2 : ByteArray) (x9_2 : ByteArray), v8 = .string x8_2 ∧ v9 = .string x9_2 ∧ Aside0 (montageref42_Encode.l0 kq a0 a1 a2 x8_2 x9_2 = some (r1, r2)) ∧ Aside0 (kq ≤ kj3) ∧ Aside0 (Below w.heap.size w w'))
              case atStart => exact ⟨(((⟨#[45, 45, 45, 45, 45, 66, 69, 71, 73, 78, 32]⟩ : ByteArray) ++ a1) ++ (⟨#[45, 45, 45, 45, 45, 10]⟩ : ByteArray)), (t207), (by first | rfl | (simp; done) | (simp [*]; done)), (by first | rfl | (simp; done) | (simp [*]; done)), H', ⟨Nat.le_refl _⟩, ⟨by repeat (first | (with_reducible first | exact HB.out | apply below_alloc | apply pw_below_drewN | apply below_drew1) | exact HB.out)⟩⟩
              case round =>
                clear H'
                try clear c1
                try clear c2
                try clear p2
                try clear c6
                try clear c7
                try clear c7b0
                try clear c8
                try clear c8b0
                try clear c9
                try clear c10
                try clear c10b0
                try clear c10b1
                try clear c11
                try clear c11b0
                try clear c11b1
                try clear c11b2
                try clear c12
                try clear c12b0
                try clear c12b1
                try clear c12b2
                try clear p2
                obtain ⟨x8_2, x9_2, rfl, rfl, HA, HK2, HB⟩ := hrel
                cases gk with
                | zero => exact absurd HA.out (by simp [montageref42_Encode.l0])
                | succ k2 =>
                  have H := HA.out
                  clear HA
                  simp only [montageref42_Encode.l0] at H
                  by_cases c15 : x9_2.toList = ([] : List UInt8)
                  · rw [if_pos c15] at H
                    have c15b0 : (x9_2.toList == ([] : List UInt8)) = true := beq_iff_eq.mpr c15
                    have c15b1 : (x9_2.toList != ([] : List UInt8)) = false := bne_eq_false_iff_eq.mpr c15
                    clear c15
                    replace H := Option.bind_eq_some_iff.mp H
                    obtain ⟨t208, A160, H⟩ := H
                    replace H : (if x8_2.size + t208.size ≤ 9223372036854775807 then (if (x8_2 ++ t208).size + 10 ≤ 9223372036854775807 then (if ((x8_2 ++ t208) ++ (⟨#[10, 45, 45, 45, 45, 45, 69, 78, 68, 32]⟩ : ByteArray)).size + a1.size ≤ 9223372036854775807 then (if (((x8_2 ++ t208) ++ (⟨#[10, 45, 45, 45, 45, 45, 69, 78, 68, 32]⟩ : ByteArray)) ++ a1).size + 6 ≤ 9223372036854775807 then (some ((((x8_2 ++ t208) ++ (⟨#[10, 45, 45, 45, 45, 45, 69, 78, 68, 32]⟩ : ByteArray)) ++ a1) ++ (⟨#[45, 45, 45, 45, 45, 10]⟩ : ByteArray), 0)) else (none)) else (none)) else (none)) else (none)) = some (r1, r2) := H
                    have A16 := Aside0.mk A160
                    clear A160
                    by_cases c17 : x8_2.size + t208.size ≤ 9223372036854775807
                    · rw [if_pos c17] at H
                      have c17b0 := eq_true c17
                      have c17b1 : decide (x8_2.size + t208.size ≤ 9223372036854775807) = true := decide_eq_true c17
                      try have c17b2 : (9223372036854775807 < x8_2.size + t208.size) = False := eq_false (Nat.not_lt.2 c17)
                      by_cases c18 : (x8_2 ++ t208).size + 10 ≤ 9223372036854775807
                      · rw [if_pos c18] at H
                        have c18b0 := eq_true c18
                        have c18b1 : decide ((x8_2 ++ t208).size + 10 ≤ 9223372036854775807) = true := decide_eq_true c18
                        try have c18b2 : (9223372036854775807 < (x8_2 ++ t208).size + 10) = False := eq_false (Nat.not_lt.2 c18)
                        try (have c18b3 := c18; simp only [ByteArray.size_append, xfix_mk, List.size_toArray, List.length_cons, List.length_nil, Nat.reduceAdd, Nat.zero_add] at c18b3; replace c18b3 := eq_false (Nat.not_lt.2 c18b3))
                        by_cases c19 : ((x8_2 ++ t208) ++ (⟨#[10, 45, 45, 45, 45, 45, 69, 78, 68, 32]⟩ : ByteArray)).size + a1.size ≤ 9223372036854775807
                        · rw [if_pos c19] at H
                          have c19b0 := eq_true c19
                          have c19b1 : decide (((x8_2 ++ t208) ++ (⟨#[10, 45, 45, 45, 45, 45, 69, 78, 68, 32]⟩ : ByteArray)).size + a1.size ≤ 9223372036854775807) = true := decide_eq_true c19
                          try have c19b2 : (9223372036854775807 < ((x8_2 ++ t208) ++ (⟨#[10, 45, 45, 45, 45, 45, 69, 78, 68, 32]⟩ : ByteArray)).size + a1.size) = False := eq_false (Nat.not_lt.2 c19)
                          try (have c19b3 := c19; simp only [ByteArray.size_append, xfix_mk, List.size_toArray, List.length_cons, List.length_nil, Nat.reduceAdd, Nat.zero_add] at c19b3; replace c19b3 := eq_false (Nat.not_lt.2 c19b3))
                          by_cases c20 : (((x8_2 ++ t208) ++ (⟨#[10, 45, 45, 45, 45, 45, 69, 78, 68, 32]⟩ : ByteArray)) ++ a1).size + 6 ≤ 9223372036854775807
                          · rw [if_pos c20] at H
                            have c20b0 := eq_true c20
                            have c20b1 : decide ((((x8_2 ++ t208) ++ (⟨#[10, 45, 45, 45, 45, 45, 69, 78, 68, 32]⟩ : ByteArray)) ++ a1).size + 6 ≤ 9223372036854775807) = true := decide_eq_true c20
                            try have c20b2 : (9223372036854775807 < (((x8_2 ++ t208) ++ (⟨#[10, 45, 45, 45, 45, 45, 69, 78, 68, 32]⟩ : ByteArray)) ++ a1).size + 6) = False := eq_false (Nat.not_lt.2 c20)
                            try (have c20b3 := c20; simp only [ByteArray.size_append, xfix_mk, List.size_toArray, List.length_cons, List.length_nil, Nat.reduceAdd, Nat.zero_add] at c20b3; replace c20b3 := eq_false (Nat.not_lt.2 c20b3))
                            simp only [Option.some.injEq, Prod.mk.injEq] at H
                            obtain ⟨rfl, rfl⟩ := H
                            go_wp2_with (first | ((with_reducible refine gate_callee (f := 23) rfl ?_); refine goesL_ (some 52) rfl rfl Tryd.func23 (by kernel_rfl) rfl #[.string a0] rfl (by (try simp only [List.map_toArray, List.map_cons, List.map_nil]); first | done | rfl | (simp only [List.length_drop, List.length_take]; rfl)) ?_; (with_reducible refine (montageref42_sum.calls k2 a0 t208 _ A16.out).mono ?_); rintro e w21 ⟨rfl, hb⟩; refine ⟨_, rfl, ?_⟩; have n0_ := Aside0.mk (below_step (by repeat (first | (with_reducible first | exact HB.out | apply below_alloc | apply pw_below_drewN | apply below_drew1) | exact HB.out)) hb); clear HB; have HB := n0_; clear n0_; (try clear hb); (try clear hb2); (try clear hk); (try clear hi)))
                            go_ret2
                            exact ⟨by first | rfl | (simp [errW_none, errW_some] <;> rfl) | (simp [*, errW_none, errW_some] <;> rfl), by repeat (first | (with_reducible first | exact HB.out | apply below_alloc | apply pw_below_drewN | apply below_drew1) | exact HB.out)⟩
                          · rw [if_neg c20] at H
                            exact absurd H (by simp)
                        · rw [if_neg c19] at H
                          exact absurd H (by simp)
                      · rw [if_neg c18] at H
                        exact absurd H (by simp)
                    · rw [if_neg c17] at H
                      exact absurd H (by simp)
                  · rw [if_neg c15] at H
                    have c15b0 : (x9_2.toList == ([] : List UInt8)) = false := beq_eq_false_iff_ne.mpr c15
                    have c15b1 : (x9_2.toList != ([] : List UInt8)) = true := bne_iff_ne.mpr c15
                    obtain ⟨ji22, hji22⟩ : ∃ j_ : Int, (mn a2 (x9_2.size : Int)) = j_ := ⟨_, rfl⟩
                    replace H : (if 0 ≤ (ji22) then (if (ji22) ≤ (x9_2.size : Int) then (if x8_2.size + (x9_2.extract 0 ((ji22) : Int).toNat).size ≤ 9223372036854775807 then (if (x8_2 ++ (x9_2.extract 0 ((ji22) : Int).toNat)).size + 1 ≤ 9223372036854775807 then (montageref42_Encode.l0 k2 a0 a1 a2 ((x8_2 ++ (x9_2.extract 0 ((ji22) : Int).toNat)) ++ (⟨#[10]⟩ : ByteArray)) (x9_2.extract ((ji22) : Int).toNat x9_2.size)) else (none)) else (none)) else (none)) else (none)) = some (r1, r2) := by first | (rw [hji22] at H; exact H) | (simp only [hji22] at H ⊢; exact H)
                    have hji22_ : (if (x9_2.size : Int) < a2 then (x9_2.size : Int) else a2) = ji22 := hji22
                    by_cases c23 : 0 ≤ (ji22)
                    · rw [if_pos c23] at H
                      have c23b0 := eq_true c23
                      have c23b1 : decide (0 ≤ (ji22)) = true := decide_eq_true c23
                      clear c23
                      by_cases c24 : (ji22) ≤ (x9_2.size : Int)
                      · rw [if_pos c24] at H
                        have c24b0 := eq_true c24
                        have c24b1 : decide ((ji22) ≤ (x9_2.size : Int)) = true := decide_eq_true c24
                        clear c24
                        by_cases c25 : x8_2.size + (x9_2.extract 0 ((ji22) : Int).toNat).size ≤ 9223372036854775807
                        · rw [if_pos c25] at H
                          have c25b0 := eq_true c25
                          have c25b1 : decide (x8_2.size + (x9_2.extract 0 ((ji22) : Int).toNat).size ≤ 9223372036854775807) = true := decide_eq_true c25
                          try have c25b2 : (9223372036854775807 < x8_2.size + (x9_2.extract 0 ((ji22) : Int).toNat).size) = False := eq_false (Nat.not_lt.2 c25)
                          by_cases c26 : (x8_2 ++ (x9_2.extract 0 ((ji22) : Int).toNat)).size + 1 ≤ 9223372036854775807
                          · rw [if_pos c26] at H
                            have c26b0 := eq_true c26
                            have c26b1 : decide ((x8_2 ++ (x9_2.extract 0 ((ji22) : Int).toNat)).size + 1 ≤ 9223372036854775807) = true := decide_eq_true c26
                            try have c26b2 : (9223372036854775807 < (x8_2 ++ (x9_2.extract 0 ((ji22) : Int).toNat)).size + 1) = False := eq_false (Nat.not_lt.2 c26)
                            try (have c26b3 := c26; simp only [ByteArray.size_append, xfix_mk, List.size_toArray, List.length_cons, List.length_nil, Nat.reduceAdd, Nat.zero_add] at c26b3; replace c26b3 := eq_false (Nat.not_lt.2 c26b3))
                            try (have c26b4 := c26; have e_ : (x9_2.extract 0 ((ji22) : Int).toNat).size = ((ji22) : Int).toNat := (by rw [ByteArray.size_extract]; omega); simp only [ByteArray.size_append, e_, xfix_mk, List.size_toArray, List.length_cons, List.length_nil, Nat.reduceAdd, Nat.zero_add] at c26b4; clear e_; replace c26b4 := eq_false (Nat.not_lt.2 c26b4))
                            have c27b0 := eq_true (of_decide_eq_true (by first | (with_reducible assumption) | assumption) : 0 ≤ (ji22))
                            have c28b0 := eq_true (of_decide_eq_true (by first | (with_reducible assumption) | assumption) : (ji22) ≤ (x9_2.size : Int))
                            have H' := Aside0.mk H
                            clear H
                            go_wp2
                            go_roundg k2
                            case measure => have := HJ3.out; have := HK2.out; omega
                            case rel => exact ⟨((x8_2 ++ (x9_2.extract 0 ((ji22) : Int).toNat)) ++ (⟨#[10]⟩ : ByteArray)), (x9_2.extract ((ji22) : Int).toNat x9_2.size), (by first | rfl | (simp; done) | (simp only [← hji22] <;> (first | rfl | simp)) | (simp [*]; done)), (by first | rfl | (simp; done) | (simp only [← hji22] <;> (first | rfl | simp)) | (simp [*]; done)), H', ⟨by have := HJ3.out; have := HK2.out; omega⟩, ⟨by repeat (first | (with_reducible first | exact HB.out | apply below_alloc | apply pw_below_drewN | apply below_drew1) | exact HB.out)⟩⟩
                          · rw [if_neg c26] at H
                            exact absurd H (by simp)
                        · rw [if_neg c25] at H
                          exact absurd H (by simp)
                      · rw [if_neg c24] at H
                        exact absurd H (by simp)
                    · rw [if_neg c23] at H
                      exact absurd H (by simp)
            · rw [if_neg c12] at H
              exact absurd H (by simp)
          · rw [if_neg c11] at H
            exact absurd H (by simp)

end Go.Proofs.YtdnahkeiidbihaaDoor.PArmor
