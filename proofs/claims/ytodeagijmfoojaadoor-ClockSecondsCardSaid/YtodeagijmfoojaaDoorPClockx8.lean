-- Written by wip/xprint of this repo (not trusted: Lean checks it).
import Derived.Test.YtodeagijmfoojaaDoorPClockx0
import Derived.Test.YtodeagijmfoojaaDoorPClockx2
import Derived.Test.YtodeagijmfoojaaDoorPClockx3
import Derived.Test.YtodeagijmfoojaaDoorPClockx4
import Derived.Test.YtodeagijmfoojaaDoorPClockx5
namespace Go.Proofs.YtodeagijmfoojaaDoor.PClock
open Go.RowKit Go.Proofs.YtodeagijmfoojaaDoorW.PrintWords Go.Proofs.YtodeagijmfoojaaDoorW.PrintLast Go.Proofs.YtodeagijmfoojaaDoorW.PrintMore
attribute [local go_sem] max2_int min2_int max_two min_two max_three min_three max_four min_four   -- for this text's walks alone
set_option linter.unusedVariables false
set_option linter.unusedSimpArgs false

/-! ### clock_day: function 28 -/
mutual
def clock_day.l0 : Nat → Int → Int → Option (Int × Int × Int × Int × Int × Int)
  | 0, _, _ => none
  | k + 1, x0, x3 => (clock_ahead.f (wrap64 (x3 + 1))).bind fun t173 => (if t173 ≤ x0 then (clock_day.l0 k x0 (wrap64 (x3 + 1))) else ((clock_ahead.f x3).bind fun t174 => (clock_day.l1 k (wrap64 (x0 - t174)) x3 1)))
def clock_day.l1 : Nat → Int → Int → Int → Option (Int × Int × Int × Int × Int × Int)
  | 0, _, _, _ => none
  | k + 1, x0, x3, x4 => (clock_days.f k x3 x4).bind fun t175 => (if x0 ≥ t175 then ((clock_days.f k x3 x4).bind fun t176 => (clock_day.l1 k (wrap64 (x0 - t176)) x3 (wrap64 (x4 + 1)))) else (some (x3, x4, wrap64 (x0 + 1), 0, 0, 0)))
end
def clock_day.f (k : Nat) (a0 : Int) : Option (Int × Int × Int × Int × Int × Int) := clock_day.l0 k a0 (wrap64 (1980 + (wrap64 (Int.tdiv a0 366))))
theorem clock_day.mono_l : ∀ k, (∀ y0 y1, LeO (clock_day.l0 k y0 y1) (clock_day.l0 (k + 1) y0 y1)) ∧ (∀ y0 y1 y2, LeO (clock_day.l1 k y0 y1 y2) (clock_day.l1 (k + 1) y0 y1 y2))
  | 0 => ⟨fun _ _ r h => by simp [clock_day.l0] at h, fun _ _ _ r h => by simp [clock_day.l1] at h⟩
  | k + 1 => by
    obtain ⟨ih0, ih1⟩ := clock_day.mono_l k
    refine ⟨?_, ?_⟩
    · intro y0 y1
      unfold clock_day.l0
      repeat' first
      | (with_reducible exact ih0 _ _)
      | (with_reducible exact ih1 _ _ _)
      | (with_reducible exact clock_days.mono _ _ _)
      | (with_reducible exact LeO.refl _)
      | (with_reducible exact LeO.none _)
      | (with_reducible refine LeO.ite ?_ ?_)
      | (with_reducible refine LeO.bind ?_ (fun _ => ?_))
      | exact ih0 _ _
      | exact ih1 _ _ _
      | exact clock_days.mono _ _ _
      | exact LeO.none _
      | refine LeO.ite ?_ ?_
      | refine LeO.bind ?_ (fun _ => ?_)
    · intro y0 y1 y2
      unfold clock_day.l1
      repeat' first
      | (with_reducible exact ih0 _ _)
      | (with_reducible exact ih1 _ _ _)
      | (with_reducible exact clock_days.mono _ _ _)
      | (with_reducible exact LeO.refl _)
      | (with_reducible exact LeO.none _)
      | (with_reducible refine LeO.ite ?_ ?_)
      | (with_reducible refine LeO.bind ?_ (fun _ => ?_))
      | exact ih0 _ _
      | exact ih1 _ _ _
      | exact clock_days.mono _ _ _
      | exact LeO.none _
      | refine LeO.ite ?_ ?_
      | refine LeO.bind ?_ (fun _ => ?_)
theorem clock_day.mono : ∀ a0 k, LeO (clock_day.f k a0) (clock_day.f (k + 1) a0) := by
  intro a0 k
  obtain ⟨ih0, ih1⟩ := clock_day.mono_l k
  unfold clock_day.f
  repeat' first
      | (with_reducible exact ih0 _ _)
      | (with_reducible exact ih1 _ _ _)
      | (with_reducible exact clock_days.mono _ _ _)
      | (with_reducible exact LeO.refl _)
      | (with_reducible exact LeO.none _)
      | (with_reducible refine LeO.ite ?_ ?_)
      | (with_reducible refine LeO.bind ?_ (fun _ => ?_))
      | exact ih0 _ _
      | exact ih1 _ _ _
      | exact clock_days.mono _ _ _
      | exact LeO.none _
      | refine LeO.ite ?_ ?_
      | refine LeO.bind ?_ (fun _ => ?_)
set_option maxHeartbeats 8000000 in
set_option maxRecDepth 100000 in
theorem clock_day.calls (k : Nat) (a0 : Int) (r1 : Int) (r2 : Int) (r3 : Int) (r4 : Int) (r5 : Int) (r6 : Int) (w : World) (h : clock_day.f k a0 = some (r1, r2, r3, r4, r5, r6)) :
    Calls Tryd.prog 28 #[.int .i64 a0] w fun e w' => e = .returned (.agg #[.int .i64 r1, .int .i64 r2, .int .i64 r3, .int .i64 r4, .int .i64 r5, .int .i64 r6]) ∧ Below w.heap.size w w' := by
  have hu23 := Tryd.underlying23
  have HB := Aside0.mk (Below.refl w.heap.size w)
  have H : (clock_day.l0 k a0 (wrap64 (1980 + (wrap64 (Int.tdiv a0 366))))) = some (r1, r2, r3, r4, r5, r6) := h
  clear h
  have H' := Aside0.mk H
  clear H
  go_enter Tryd.func28, Tryd.ntmps28
  go_wp2_with (first | ((with_reducible refine gate_dst (N := 2) rfl ?_); refine box_event ?hg (N := 2) ?hd (cs := #[.int .i64 0, .int .i64 0, .int .i64 0, .int .i64 0, .int .i64 0, .int .i64 0]) (t := 23) ?hr ?_; (case hd => rfl); (case hg => rfl); (case hr => first | (go_simp; done) | (go_simp; rfl)); intro gb172 hg w2 hbox hb; have n0_ := Aside0.mk (below_step (by repeat (first | (with_reducible first | exact HB.out | apply below_alloc | apply pw_below_drewN | apply below_drew1) | exact HB.out)) hb); have n1_ := Aside0.mk (hbox); have n2_ := Aside0.mk ((by rw [hg]; exact (below_size (by repeat (first | (with_reducible first | exact HB.out | apply below_alloc | apply pw_below_drewN | apply below_drew1) | exact HB.out))) : w.heap.size ≤ gb172)); have n3_ := Aside0.mk ((by rw [hg]; exact (below_size (by repeat (first | (with_reducible first | exact HB.out | apply below_alloc | apply pw_below_drewN | apply below_drew1) | exact HB.out))) : w.heap.size ≤ gb172)); clear HB; have HB := n0_; have BK172 := n1_; have GW172 := n2_; have GE172 := n3_; clear n0_ n1_ n2_ n3_; clear hb hbox hg))
  go_loopg [3] k (fun kq v3 w' => ∃ (x3_1 : Int), v3 = .int .i64 x3_1 ∧ Aside0 (clock_day.l0 kq a0 x3_1 = some (r1, r2, r3, r4, r5, r6)) ∧ Aside0 (kq ≤ k) ∧ Aside0 (w'.heap[gb172]? = some (.cells #[.int .i64 0, .int .i64 0, .int .i64 0, .int .i64 0, .int .i64 0, .int .i64 0] 23 (0, 0))) ∧ Aside0 (Below w.heap.size w w'))
  case atStart => exact ⟨(wrap64 (1980 + (wrap64 (Int.tdiv a0 366)))), (by first | rfl | (simp; done) | (simp [*]; done)), H', ⟨Nat.le_refl _⟩, ⟨by (with_reducible repeat (first | refine blk_drewN ?_ _ | refine blk_drew ?_ | refine blk_alloc ?_ _)); exact BK172.out⟩, ⟨by repeat (first | (with_reducible first | exact HB.out | apply below_alloc | apply pw_below_drewN | apply below_drew1 | refine below_set ?_ GE172.out) | exact HB.out)⟩⟩
  case round =>
    clear H'
    try clear c2
    try clear p2
    obtain ⟨x3_1, rfl, HA, HK1, BK172, HB⟩ := hrel
    cases gk with
    | zero => exact absurd HA.out (by simp [clock_day.l0])
    | succ k1 =>
      have H := HA.out
      clear HA
      simp only [clock_day.l0] at H
      replace H := Option.bind_eq_some_iff.mp H
      obtain ⟨t173, A30, H⟩ := H
      replace H : (if t173 ≤ a0 then (clock_day.l0 k1 a0 (wrap64 (x3_1 + 1))) else ((clock_ahead.f x3_1).bind fun t174 => (clock_day.l1 k1 (wrap64 (a0 - t174)) x3_1 1))) = some (r1, r2, r3, r4, r5, r6) := H
      have A3 := Aside0.mk A30
      clear A30
      by_cases c4 : t173 ≤ a0
      · rw [if_pos c4] at H
        have c4b0 : decide (t173 ≤ a0) = true := decide_eq_true c4
        clear c4
        have H' := Aside0.mk H
        clear H
        go_wp2_with (first | ((with_reducible refine gate_callee (f := 21) rfl ?_); refine goesL_ (some 10) rfl rfl Tryd.func21 (by kernel_rfl) rfl #[.int .i64 (wrap64 (x3_1 + 1))] rfl (by (try simp only [List.map_toArray, List.map_cons, List.map_nil]); first | done | rfl | (simp only [List.length_drop, List.length_take]; rfl)) ?_; (with_reducible refine (clock_ahead.calls (wrap64 (x3_1 + 1)) t173 _ A3.out).mono ?_); rintro e w5 ⟨rfl, hb⟩; refine ⟨_, rfl, ?_⟩; have n0_ := Aside0.mk (blk_below (g := gb172) (o := .cells #[.int .i64 0, .int .i64 0, .int .i64 0, .int .i64 0, .int .i64 0, .int .i64 0] 23 (0, 0)) (by (with_reducible repeat (first | refine blk_drewN ?_ _ | refine blk_drew ?_ | refine blk_alloc ?_ _)); exact BK172.out) hb); have n1_ := Aside0.mk (below_step (by repeat (first | (with_reducible first | exact HB.out | apply below_alloc | apply pw_below_drewN | apply below_drew1 | refine below_set ?_ GE172.out) | exact HB.out)) hb); clear BK172; clear HB; have BK172 := n0_; have HB := n1_; clear n0_ n1_; (try clear hb); (try clear hb2); (try clear hk); (try clear hi)))
        go_roundg k1
        case measure => have := HK1.out; omega
        case rel => exact ⟨(wrap64 (x3_1 + 1)), (by first | rfl | (simp; done) | (simp [*]; done)), H', ⟨by have := HK1.out; omega⟩, ⟨by (with_reducible repeat (first | refine blk_drewN ?_ _ | refine blk_drew ?_ | refine blk_alloc ?_ _)); exact BK172.out⟩, ⟨by repeat (first | (with_reducible first | exact HB.out | apply below_alloc | apply pw_below_drewN | apply below_drew1 | refine below_set ?_ GE172.out) | exact HB.out)⟩⟩
      · rw [if_neg c4] at H
        have c4b0 : decide (t173 ≤ a0) = false := decide_eq_false c4
        clear c4
        replace H := Option.bind_eq_some_iff.mp H
        obtain ⟨t174, A60, H⟩ := H
        replace H : (clock_day.l1 k1 (wrap64 (a0 - t174)) x3_1 1) = some (r1, r2, r3, r4, r5, r6) := H
        have A6 := Aside0.mk A60
        clear A60
        have H' := Aside0.mk H
        clear H
        go_wp2_with (first | ((with_reducible refine gate_callee (f := 21) rfl ?_); refine goesL_ (some 10) rfl rfl Tryd.func21 (by kernel_rfl) rfl #[.int .i64 (wrap64 (x3_1 + 1))] rfl (by (try simp only [List.map_toArray, List.map_cons, List.map_nil]); first | done | rfl | (simp only [List.length_drop, List.length_take]; rfl)) ?_; (with_reducible refine (clock_ahead.calls (wrap64 (x3_1 + 1)) t173 _ A3.out).mono ?_); rintro e w7 ⟨rfl, hb⟩; refine ⟨_, rfl, ?_⟩; have n0_ := Aside0.mk (blk_below (g := gb172) (o := .cells #[.int .i64 0, .int .i64 0, .int .i64 0, .int .i64 0, .int .i64 0, .int .i64 0] 23 (0, 0)) (by (with_reducible repeat (first | refine blk_drewN ?_ _ | refine blk_drew ?_ | refine blk_alloc ?_ _)); exact BK172.out) hb); have n1_ := Aside0.mk (below_step (by repeat (first | (with_reducible first | exact HB.out | apply below_alloc | apply pw_below_drewN | apply below_drew1 | refine below_set ?_ GE172.out) | exact HB.out)) hb); clear BK172; clear HB; have BK172 := n0_; have HB := n1_; clear n0_ n1_; (try clear hb); (try clear hb2); (try clear hk); (try clear hi)) | ((with_reducible refine gate_callee (f := 21) rfl ?_); refine goesL_ (some 17) rfl rfl Tryd.func21 (by kernel_rfl) rfl #[.int .i64 x3_1] rfl (by (try simp only [List.map_toArray, List.map_cons, List.map_nil]); first | done | rfl | (simp only [List.length_drop, List.length_take]; rfl)) ?_; (with_reducible refine (clock_ahead.calls x3_1 t174 _ A6.out).mono ?_); rintro e w8 ⟨rfl, hb⟩; refine ⟨_, rfl, ?_⟩; have n0_ := Aside0.mk (blk_below (g := gb172) (o := .cells #[.int .i64 0, .int .i64 0, .int .i64 0, .int .i64 0, .int .i64 0, .int .i64 0] 23 (0, 0)) (by (with_reducible repeat (first | refine blk_drewN ?_ _ | refine blk_drew ?_ | refine blk_alloc ?_ _)); exact BK172.out) hb); have n1_ := Aside0.mk (below_step (by repeat (first | (with_reducible first | exact HB.out | apply below_alloc | apply pw_below_drewN | apply below_drew1 | refine below_set ?_ GE172.out) | exact HB.out)) hb); clear BK172; clear HB; have BK172 := n0_; have HB := n1_; clear n0_ n1_; (try clear hb); (try clear hb2); (try clear hk); (try clear hi)))
        go_loopg [0, 4] k1 (fun kq v0 v4 w' => ∃ (x0_2 : Int) (x4_2 : Int), v0 = .int .i64 x0_2 ∧ v4 = .int .i64 x4_2 ∧ Aside0 (clock_day.l1 kq x0_2 x3_1 x4_2 = some (r1, r2, r3, r4, r5, r6)) ∧ Aside0 (kq ≤ k1) ∧ Aside0 (w'.heap[gb172]? = some (.cells #[.int .i64 0, .int .i64 0, .int .i64 0, .int .i64 0, .int .i64 0, .int .i64 0] 23 (0, 0))) ∧ Aside0 (Below w.heap.size w w'))
        case atStart => exact ⟨(wrap64 (a0 - t174)), (1), (by first | rfl | (simp; done) | (simp [*]; done)), (by first | rfl | (simp; done) | (simp [*]; done)), H', ⟨Nat.le_refl _⟩, ⟨by (with_reducible repeat (first | refine blk_drewN ?_ _ | refine blk_drew ?_ | refine blk_alloc ?_ _)); exact BK172.out⟩, ⟨by repeat (first | (with_reducible first | exact HB.out | apply below_alloc | apply pw_below_drewN | apply below_drew1 | refine below_set ?_ GE172.out) | exact HB.out)⟩⟩
        case round =>
          clear H'
          try clear c2
          try clear p2
          try clear c4
          try clear c4b0
          try clear p6
          try clear p2
          obtain ⟨x0_2, x4_2, rfl, rfl, HA, HK2, BK172, HB⟩ := hrel
          cases gk with
          | zero => exact absurd HA.out (by simp [clock_day.l1])
          | succ k2 =>
            have H := HA.out
            clear HA
            simp only [clock_day.l1] at H
            replace H := Option.bind_eq_some_iff.mp H
            obtain ⟨t175, A90, H⟩ := H
            replace H : (if x0_2 ≥ t175 then ((clock_days.f k2 x3_1 x4_2).bind fun t176 => (clock_day.l1 k2 (wrap64 (x0_2 - t176)) x3_1 (wrap64 (x4_2 + 1)))) else (some (x3_1, x4_2, wrap64 (x0_2 + 1), 0, 0, 0))) = some (r1, r2, r3, r4, r5, r6) := H
            have A9 := Aside0.mk A90
            clear A90
            by_cases c10 : x0_2 ≥ t175
            · rw [if_pos c10] at H
              have c10b0 : decide (t175 ≤ x0_2) = true := decide_eq_true c10
              clear c10
              replace H := Option.bind_eq_some_iff.mp H
              obtain ⟨t176, A110, H⟩ := H
              replace H : (clock_day.l1 k2 (wrap64 (x0_2 - t176)) x3_1 (wrap64 (x4_2 + 1))) = some (r1, r2, r3, r4, r5, r6) := H
              have A11 := Aside0.mk A110
              clear A110
              have H' := Aside0.mk H
              clear H
              go_wp2_with (first | ((with_reducible refine gate_callee (f := 22) rfl ?_); refine goesL_ (some 22) rfl rfl Tryd.func22 (by kernel_rfl) rfl #[.int .i64 x3_1, .int .i64 x4_2] rfl (by (try simp only [List.map_toArray, List.map_cons, List.map_nil]); first | done | rfl | (simp only [List.length_drop, List.length_take]; rfl)) ?_; (with_reducible refine (clock_days.calls k2 x3_1 x4_2 t175 _ A9.out).mono ?_); rintro e w' ⟨rfl, ⟨nd, rfl⟩⟩; refine ⟨_, rfl, ?_⟩) | ((with_reducible refine gate_callee (f := 22) rfl ?_); refine goesL_ (some 27) rfl rfl Tryd.func22 (by kernel_rfl) rfl #[.int .i64 x3_1, .int .i64 x4_2] rfl (by (try simp only [List.map_toArray, List.map_cons, List.map_nil]); first | done | rfl | (simp only [List.length_drop, List.length_take]; rfl)) ?_; (with_reducible refine (clock_days.calls k2 x3_1 x4_2 t176 _ A11.out).mono ?_); rintro e w' ⟨rfl, ⟨nd, rfl⟩⟩; refine ⟨_, rfl, ?_⟩))
              go_roundg k2
              case measure => have := HK1.out; have := HK2.out; omega
              case rel => exact ⟨(wrap64 (x0_2 - t176)), (wrap64 (x4_2 + 1)), (by first | rfl | (simp; done) | (simp [*]; done)), (by first | rfl | (simp; done) | (simp [*]; done)), H', ⟨by have := HK1.out; have := HK2.out; omega⟩, ⟨by (with_reducible repeat (first | refine blk_drewN ?_ _ | refine blk_drew ?_ | refine blk_alloc ?_ _)); exact BK172.out⟩, ⟨by repeat (first | (with_reducible first | exact HB.out | apply below_alloc | apply pw_below_drewN | apply below_drew1 | refine below_set ?_ GE172.out) | exact HB.out)⟩⟩
            · rw [if_neg c10] at H
              have c10b0 : decide (t175 ≤ x0_2) = false := decide_eq_false c10
              clear c10
              simp only [Option.some.injEq, Prod.mk.injEq] at H
              obtain ⟨rfl, rfl, rfl, rfl, rfl, rfl⟩ := H
              go_wp2_with (first | ((with_reducible refine gate_callee (f := 22) rfl ?_); refine goesL_ (some 22) rfl rfl Tryd.func22 (by kernel_rfl) rfl #[.int .i64 x3_1, .int .i64 x4_2] rfl (by (try simp only [List.map_toArray, List.map_cons, List.map_nil]); first | done | rfl | (simp only [List.length_drop, List.length_take]; rfl)) ?_; (with_reducible refine (clock_days.calls k2 x3_1 x4_2 t175 _ A9.out).mono ?_); rintro e w' ⟨rfl, ⟨nd, rfl⟩⟩; refine ⟨_, rfl, ?_⟩; (try (rw [drewN_self wr]; generalize hq_ : World.drewN wr _ = wr; have n0_ : Aside0 (wr.heap[gb172]? = some (.cells #[.int .i64 0, .int .i64 0, .int .i64 0, .int .i64 0, .int .i64 0, .int .i64 0] 23 (0, 0))) := ⟨by rw [← hq_]; exact (by (with_reducible repeat (first | refine blk_drewN ?_ _ | refine blk_drew ?_ | refine blk_alloc ?_ _)); exact BK172.out)⟩; have n1_ : Aside0 (Below w.heap.size w wr) := ⟨by rw [← hq_]; exact (by repeat (first | (with_reducible first | exact HB.out | apply below_alloc | apply pw_below_drewN | apply below_drew1 | refine below_set ?_ GE172.out) | exact HB.out))⟩; clear BK172 HB hq_; have BK172 := n0_; have HB := n1_; clear n0_ n1_)); have hcz12_0 : wr.cell? ⟨gb172, 0, none⟩ = some (.int .i64 0) := (blk_cell BK172.out 0).trans rfl; have hcz12_1 : wr.cell? ⟨gb172, 1, none⟩ = some (.int .i64 0) := (blk_cell BK172.out 1).trans rfl; have hcz12_2 : wr.cell? ⟨gb172, 2, none⟩ = some (.int .i64 0) := (blk_cell BK172.out 2).trans rfl; have hcz12_3 : wr.cell? ⟨gb172, 3, none⟩ = some (.int .i64 0) := (blk_cell BK172.out 3).trans rfl; have hcz12_4 : wr.cell? ⟨gb172, 4, none⟩ = some (.int .i64 0) := (blk_cell BK172.out 4).trans rfl; have hcz12_5 : wr.cell? ⟨gb172, 5, none⟩ = some (.int .i64 0) := (blk_cell BK172.out 5).trans rfl; have hfz12_0 := blk_frozen BK172.out 0; have hfz12_1 := blk_frozen BK172.out 1; have hfz12_2 := blk_frozen BK172.out 2; have hfz12_3 := blk_frozen BK172.out 3; have hfz12_4 := blk_frozen BK172.out 4; have hfz12_5 := blk_frozen BK172.out 5))
              refine bodyPost_ret (results_cell_row rfl _ _ gb172 23 #[.int .i64 x3_1, .int .i64 x4_2, .int .i64 (wrap64 (x0_2 + 1)), .int .i64 0, .int .i64 0, .int .i64 0] (0, 0) _ rfl (by (with_reducible repeat (first | refine blk_drewN ?_ _ | refine blk_drew ?_ | refine blk_alloc ?_ _)); refine blk_put (cs := #[.int .i64 x3_1, .int .i64 x4_2, .int .i64 (wrap64 (x0_2 + 1)), .int .i64 0, .int .i64 0, .int .i64 0]) ?_ 5 _ rfl; (with_reducible repeat (first | refine blk_drewN ?_ _ | refine blk_drew ?_ | refine blk_alloc ?_ _)); refine blk_put (cs := #[.int .i64 x3_1, .int .i64 x4_2, .int .i64 (wrap64 (x0_2 + 1)), .int .i64 0, .int .i64 0, .int .i64 0]) ?_ 4 _ rfl; (with_reducible repeat (first | refine blk_drewN ?_ _ | refine blk_drew ?_ | refine blk_alloc ?_ _)); refine blk_put (cs := #[.int .i64 x3_1, .int .i64 x4_2, .int .i64 (wrap64 (x0_2 + 1)), .int .i64 0, .int .i64 0, .int .i64 0]) ?_ 3 _ rfl; (with_reducible repeat (first | refine blk_drewN ?_ _ | refine blk_drew ?_ | refine blk_alloc ?_ _)); refine blk_put (cs := #[.int .i64 x3_1, .int .i64 x4_2, .int .i64 0, .int .i64 0, .int .i64 0, .int .i64 0]) ?_ 2 _ rfl; (with_reducible repeat (first | refine blk_drewN ?_ _ | refine blk_drew ?_ | refine blk_alloc ?_ _)); refine blk_put (cs := #[.int .i64 x3_1, .int .i64 0, .int .i64 0, .int .i64 0, .int .i64 0, .int .i64 0]) ?_ 1 _ rfl; (with_reducible repeat (first | refine blk_drewN ?_ _ | refine blk_drew ?_ | refine blk_alloc ?_ _)); refine blk_put (cs := #[.int .i64 0, .int .i64 0, .int .i64 0, .int .i64 0, .int .i64 0, .int .i64 0]) ?_ 0 _ rfl; (with_reducible repeat (first | refine blk_drewN ?_ _ | refine blk_drew ?_ | refine blk_alloc ?_ _)); exact BK172.out) Tryd.underlying23 rfl (by kernel_rfl)) rfl ?_
              exact ⟨by first | rfl | (simp [errW_none, errW_some] <;> rfl) | (simp [*, errW_none, errW_some] <;> rfl), by repeat (first | (with_reducible first | exact HB.out | apply below_alloc | apply pw_below_drewN | apply below_drew1 | refine below_set ?_ GE172.out) | exact HB.out)⟩

/-! ### clock_At: function 16 (its contract is typed by hand) -/
def clock_At.g (d : Int × Int × Int × Int × Int × Int) (rest : Int) : Int × Int × Int × Int × Int × Int × Int := (d.1, d.2.1, d.2.2.1, wrap64 (Int.tdiv rest 3600), Int.tmod (wrap64 (Int.tdiv rest 60)) 60, Go.bits .andNot .i64 (Int.tmod rest 60) 1, 0)
def clock_At.f (k : Nat) (a0 : Int) : Option (Int × Int × Int × Int × Int × Int × Int) := if a0 < 0 then some (0, 0, 0, 0, 0, 0, 7) else (clock_ahead.f 2108).bind fun t => if t ≤ wrap64 (Int.tdiv a0 86400) then some (0, 0, 0, 0, 0, 0, 7) else (clock_day.f k (wrap64 (Int.tdiv a0 86400))).bind fun d => some (clock_At.g d (Int.tmod a0 86400))
theorem clock_At.mono : ∀ a0 k, LeO (clock_At.f k a0) (clock_At.f (k + 1) a0) := by
  intro a0 k
  unfold clock_At.f
  exact LeO.ite (LeO.refl _) (LeO.bind (LeO.refl _) (fun _ => LeO.ite (LeO.refl _) (LeO.bind (clock_day.mono _ _) (fun _ => LeO.refl _))))
set_option maxHeartbeats 4000000 in
set_option maxRecDepth 100000 in
theorem clock_At.calls (k : Nat) (a0 : Int) (r1 r2 r3 r4 r5 r6 r7 : Int) (w : World) (h : clock_At.f k a0 = some (r1, r2, r3, r4, r5, r6, r7)) :
    Calls Tryd.prog 16 #[.int .i64 a0] w fun e w' => e = .returned (.tuple #[.agg #[.int .i64 r1, .int .i64 r2, .int .i64 r3, .int .i64 r4, .int .i64 r5, .int .i64 r6], .int .i64 r7]) ∧ Below w.heap.size w w' := by
  have hu23 := Tryd.underlying23
  unfold clock_At.f at h
  by_cases hn : a0 < 0
  · have d0 : decide (a0 < 0) = true := decide_eq_true hn
    rw [if_pos hn] at h
    clear hn
    obtain ⟨rfl, rfl, rfl, rfl, rfl, rfl, rfl⟩ : (0 : Int) = r1 ∧ (0 : Int) = r2 ∧ (0 : Int) = r3 ∧ (0 : Int) = r4 ∧ (0 : Int) = r5 ∧ (0 : Int) = r6 ∧ (7 : Int) = r7 := by simp only [Option.some.injEq, Prod.mk.injEq] at h; exact h
    clear h
    go_enter Tryd.func16, Tryd.ntmps16
    go_upto_region 1 with (fail)
    have hw2 : ∃ w2 : World, w2 = w.alloc (.cells #[.int .i64 0, .int .i64 0, .int .i64 0, .int .i64 0, .int .i64 0, .int .i64 0] 23) := ⟨_, rfl⟩
    obtain ⟨w2, hw2⟩ := hw2
    rw [← hw2]
    have HB2 : Aside0 (Below w.heap.size w w2) := ⟨by rw [hw2]; exact ((Below.refl _ w).alloc (Nat.le_refl _) _)⟩
    have HC0 : Aside0 (w2.heap[w.heap.size]? = some (.cells #[.int .i64 0, .int .i64 0, .int .i64 0, .int .i64 0, .int .i64 0, .int .i64 0] 23 (0, 0))) := ⟨by rw [hw2]; show (Array.push _ _)[w.heap.size]? = _; rw [Array.getElem?_push, if_pos rfl]⟩
    have HLT : Aside0 (w.heap.size < w2.heap.size) := ⟨by rw [hw2]; simp⟩
    clear hw2
    have hy0 : w2.cell? ⟨w.heap.size, 0, none⟩ = some (.int .i64 0) := (blk_cell HC0.out 0 |> fun _ => blk_cell HC0.out 0).trans rfl
    have hf0 := blk_frozen HC0.out 0
    have hy1 : w2.cell? ⟨w.heap.size, 1, none⟩ = some (.int .i64 0) := (blk_cell HC0.out 0 |> fun _ => blk_cell HC0.out 1).trans rfl
    have hf1 := blk_frozen HC0.out 1
    have hy2 : w2.cell? ⟨w.heap.size, 2, none⟩ = some (.int .i64 0) := (blk_cell HC0.out 0 |> fun _ => blk_cell HC0.out 2).trans rfl
    have hf2 := blk_frozen HC0.out 2
    have hy3 : w2.cell? ⟨w.heap.size, 3, none⟩ = some (.int .i64 0) := (blk_cell HC0.out 0 |> fun _ => blk_cell HC0.out 3).trans rfl
    have hf3 := blk_frozen HC0.out 3
    have hy4 : w2.cell? ⟨w.heap.size, 4, none⟩ = some (.int .i64 0) := (blk_cell HC0.out 0 |> fun _ => blk_cell HC0.out 4).trans rfl
    have hf4 := blk_frozen HC0.out 4
    have hy5 : w2.cell? ⟨w.heap.size, 5, none⟩ = some (.int .i64 0) := (blk_cell HC0.out 0 |> fun _ => blk_cell HC0.out 5).trans rfl
    have hf5 := blk_frozen HC0.out 5
    go_wp2
    refine bodyPost_ret (results_ct rfl _ _ (w.heap.size) 23 #[.int .i64 (0), .int .i64 (0), .int .i64 (0), .int .i64 (0), .int .i64 (0), .int .i64 (0)] (0, 0) _ rfl (by (with_reducible repeat (first | refine blk_drewN ?_ _ | refine blk_drew ?_ | refine blk_alloc ?_ _)); refine blk_put (cs := #[.int .i64 (0), .int .i64 (0), .int .i64 (0), .int .i64 (0), .int .i64 (0), .int .i64 (0)]) ?_ 5 _ rfl; (with_reducible repeat (first | refine blk_drewN ?_ _ | refine blk_drew ?_ | refine blk_alloc ?_ _)); refine blk_put (cs := #[.int .i64 (0), .int .i64 (0), .int .i64 (0), .int .i64 (0), .int .i64 (0), .int .i64 (0)]) ?_ 4 _ rfl; (with_reducible repeat (first | refine blk_drewN ?_ _ | refine blk_drew ?_ | refine blk_alloc ?_ _)); refine blk_put (cs := #[.int .i64 (0), .int .i64 (0), .int .i64 (0), .int .i64 (0), .int .i64 (0), .int .i64 (0)]) ?_ 3 _ rfl; (with_reducible repeat (first | refine blk_drewN ?_ _ | refine blk_drew ?_ | refine blk_alloc ?_ _)); refine blk_put (cs := #[.int .i64 (0), .int .i64 (0), .int .i64 (0), .int .i64 (0), .int .i64 (0), .int .i64 (0)]) ?_ 2 _ rfl; (with_reducible repeat (first | refine blk_drewN ?_ _ | refine blk_drew ?_ | refine blk_alloc ?_ _)); refine blk_put (cs := #[.int .i64 (0), .int .i64 (0), .int .i64 (0), .int .i64 (0), .int .i64 (0), .int .i64 (0)]) ?_ 1 _ rfl; (with_reducible repeat (first | refine blk_drewN ?_ _ | refine blk_drew ?_ | refine blk_alloc ?_ _)); refine blk_put (cs := #[.int .i64 (0), .int .i64 (0), .int .i64 (0), .int .i64 (0), .int .i64 (0), .int .i64 (0)]) ?_ 0 _ rfl; (with_reducible repeat (first | refine blk_drewN ?_ _ | refine blk_drew ?_ | refine blk_alloc ?_ _)); exact HC0.out) Tryd.underlying23 rfl (by kernel_rfl)) rfl ?_
    exact ⟨rfl, by repeat (first | (with_reducible first | exact HB2.out | apply below_alloc | apply pw_below_drewN | apply below_drew1 | refine below_set ?_ (Nat.le_refl _)) | exact HB2.out)⟩
  · have d0 : decide (a0 < 0) = false := decide_eq_false hn
    rw [if_neg hn] at h
    clear hn
    obtain ⟨t, ht, h⟩ := Option.bind_eq_some_iff.mp h
    have HT := Aside0.mk ht
    clear ht
    generalize hq : wrap64 (Int.tdiv a0 86400) = q at h
    have HQ := Aside0.mk hq
    clear hq
    by_cases hle : t ≤ q
    · have d1 : decide (t ≤ q) = true := decide_eq_true hle
      rw [if_pos hle] at h
      clear hle
      obtain ⟨rfl, rfl, rfl, rfl, rfl, rfl, rfl⟩ : (0 : Int) = r1 ∧ (0 : Int) = r2 ∧ (0 : Int) = r3 ∧ (0 : Int) = r4 ∧ (0 : Int) = r5 ∧ (0 : Int) = r6 ∧ (7 : Int) = r7 := by simp only [Option.some.injEq, Prod.mk.injEq] at h; exact h
      clear h
      go_enter Tryd.func16, Tryd.ntmps16
      go_upto_region 1 with (fail)
      have hw2 : ∃ w2 : World, w2 = w.alloc (.cells #[.int .i64 0, .int .i64 0, .int .i64 0, .int .i64 0, .int .i64 0, .int .i64 0] 23) := ⟨_, rfl⟩
      obtain ⟨w2, hw2⟩ := hw2
      rw [← hw2]
      have HB2 : Aside0 (Below w.heap.size w w2) := ⟨by rw [hw2]; exact ((Below.refl _ w).alloc (Nat.le_refl _) _)⟩
      have HC0 : Aside0 (w2.heap[w.heap.size]? = some (.cells #[.int .i64 0, .int .i64 0, .int .i64 0, .int .i64 0, .int .i64 0, .int .i64 0] 23 (0, 0))) := ⟨by rw [hw2]; show (Array.push _ _)[w.heap.size]? = _; rw [Array.getElem?_push, if_pos rfl]⟩
      have HLT : Aside0 (w.heap.size < w2.heap.size) := ⟨by rw [hw2]; simp⟩
      clear hw2
      go_upto_region 2 with (rw [HQ.out]; go_at_call 21; refine (clock_ahead.calls 2108 t _ HT.out).mono ?_; rintro e w3 ⟨rfl, hb⟩; have HB3 := Aside0.mk hb; clear hb)
      have HB4 : Aside0 (Below w.heap.size w w3) := ⟨HB2.out.trans (HB3.out.mono HB2.out.size)⟩
      have HC3 : Aside0 (w3.heap[w.heap.size]? = some (.cells #[.int .i64 0, .int .i64 0, .int .i64 0, .int .i64 0, .int .i64 0, .int .i64 0] 23 (0, 0))) := ⟨(HB3.out.block _ HLT.out).trans HC0.out⟩
      have hy0 : w3.cell? ⟨w.heap.size, 0, none⟩ = some (.int .i64 0) := (blk_cell HC3.out 0 |> fun _ => blk_cell HC3.out 0).trans rfl
      have hf0 := blk_frozen HC3.out 0
      have hy1 : w3.cell? ⟨w.heap.size, 1, none⟩ = some (.int .i64 0) := (blk_cell HC3.out 0 |> fun _ => blk_cell HC3.out 1).trans rfl
      have hf1 := blk_frozen HC3.out 1
      have hy2 : w3.cell? ⟨w.heap.size, 2, none⟩ = some (.int .i64 0) := (blk_cell HC3.out 0 |> fun _ => blk_cell HC3.out 2).trans rfl
      have hf2 := blk_frozen HC3.out 2
      have hy3 : w3.cell? ⟨w.heap.size, 3, none⟩ = some (.int .i64 0) := (blk_cell HC3.out 0 |> fun _ => blk_cell HC3.out 3).trans rfl
      have hf3 := blk_frozen HC3.out 3
      have hy4 : w3.cell? ⟨w.heap.size, 4, none⟩ = some (.int .i64 0) := (blk_cell HC3.out 0 |> fun _ => blk_cell HC3.out 4).trans rfl
      have hf4 := blk_frozen HC3.out 4
      have hy5 : w3.cell? ⟨w.heap.size, 5, none⟩ = some (.int .i64 0) := (blk_cell HC3.out 0 |> fun _ => blk_cell HC3.out 5).trans rfl
      have hf5 := blk_frozen HC3.out 5
      go_wp2
      refine bodyPost_ret (results_ct rfl _ _ (w.heap.size) 23 #[.int .i64 (0), .int .i64 (0), .int .i64 (0), .int .i64 (0), .int .i64 (0), .int .i64 (0)] (0, 0) _ rfl (by (with_reducible repeat (first | refine blk_drewN ?_ _ | refine blk_drew ?_ | refine blk_alloc ?_ _)); refine blk_put (cs := #[.int .i64 (0), .int .i64 (0), .int .i64 (0), .int .i64 (0), .int .i64 (0), .int .i64 (0)]) ?_ 5 _ rfl; (with_reducible repeat (first | refine blk_drewN ?_ _ | refine blk_drew ?_ | refine blk_alloc ?_ _)); refine blk_put (cs := #[.int .i64 (0), .int .i64 (0), .int .i64 (0), .int .i64 (0), .int .i64 (0), .int .i64 (0)]) ?_ 4 _ rfl; (with_reducible repeat (first | refine blk_drewN ?_ _ | refine blk_drew ?_ | refine blk_alloc ?_ _)); refine blk_put (cs := #[.int .i64 (0), .int .i64 (0), .int .i64 (0), .int .i64 (0), .int .i64 (0), .int .i64 (0)]) ?_ 3 _ rfl; (with_reducible repeat (first | refine blk_drewN ?_ _ | refine blk_drew ?_ | refine blk_alloc ?_ _)); refine blk_put (cs := #[.int .i64 (0), .int .i64 (0), .int .i64 (0), .int .i64 (0), .int .i64 (0), .int .i64 (0)]) ?_ 2 _ rfl; (with_reducible repeat (first | refine blk_drewN ?_ _ | refine blk_drew ?_ | refine blk_alloc ?_ _)); refine blk_put (cs := #[.int .i64 (0), .int .i64 (0), .int .i64 (0), .int .i64 (0), .int .i64 (0), .int .i64 (0)]) ?_ 1 _ rfl; (with_reducible repeat (first | refine blk_drewN ?_ _ | refine blk_drew ?_ | refine blk_alloc ?_ _)); refine blk_put (cs := #[.int .i64 (0), .int .i64 (0), .int .i64 (0), .int .i64 (0), .int .i64 (0), .int .i64 (0)]) ?_ 0 _ rfl; (with_reducible repeat (first | refine blk_drewN ?_ _ | refine blk_drew ?_ | refine blk_alloc ?_ _)); exact HC3.out) Tryd.underlying23 rfl (by kernel_rfl)) rfl ?_
      exact ⟨rfl, by repeat (first | (with_reducible first | exact HB4.out | apply below_alloc | apply pw_below_drewN | apply below_drew1 | refine below_set ?_ (Nat.le_refl _)) | exact HB4.out)⟩
    · have d1 : decide (t ≤ q) = false := decide_eq_false hle
      rw [if_neg hle] at h
      clear hle
      obtain ⟨⟨x1, x2, x3, x4, x5, x6⟩, hx, h⟩ := Option.bind_eq_some_iff.mp h
      have HX := Aside0.mk hx
      clear hx
      have HR := Aside0.mk h
      clear h
      go_enter Tryd.func16, Tryd.ntmps16
      go_upto_region 1 with (fail)
      have hw2 : ∃ w2 : World, w2 = w.alloc (.cells #[.int .i64 0, .int .i64 0, .int .i64 0, .int .i64 0, .int .i64 0, .int .i64 0] 23) := ⟨_, rfl⟩
      obtain ⟨w2, hw2⟩ := hw2
      rw [← hw2]
      have HB2 : Aside0 (Below w.heap.size w w2) := ⟨by rw [hw2]; exact ((Below.refl _ w).alloc (Nat.le_refl _) _)⟩
      have HC0 : Aside0 (w2.heap[w.heap.size]? = some (.cells #[.int .i64 0, .int .i64 0, .int .i64 0, .int .i64 0, .int .i64 0, .int .i64 0] 23 (0, 0))) := ⟨by rw [hw2]; show (Array.push _ _)[w.heap.size]? = _; rw [Array.getElem?_push, if_pos rfl]⟩
      have HLT : Aside0 (w.heap.size < w2.heap.size) := ⟨by rw [hw2]; simp⟩
      clear hw2
      go_upto_region 3 with (rw [HQ.out]; go_at_call 21; refine (clock_ahead.calls 2108 t _ HT.out).mono ?_; rintro e w3 ⟨rfl, hb⟩; have HB3 := Aside0.mk hb; clear hb)
      go_upto_region 4 with (rw [HQ.out]; go_at_call 28; refine (clock_day.calls k q x1 x2 x3 x4 x5 x6 _ HX.out).mono ?_; rintro e w4 ⟨rfl, hb⟩; have HB4 := Aside0.mk hb; clear hb)
      have hw5 : ∃ w5 : World, w5 = w4.alloc (.cells #[.int .i64 x1, .int .i64 x2, .int .i64 x3, .int .i64 x4, .int .i64 x5, .int .i64 x6] 23) := ⟨_, rfl⟩
      obtain ⟨w5, hw5⟩ := hw5
      rw [← hw5]
      have HB34 : Aside0 (Below w2.heap.size w2 w4) := ⟨HB3.out.trans (HB4.out.mono HB3.out.size)⟩
      have HL4 : Aside0 (w.heap.size < w4.heap.size) := ⟨Nat.lt_of_lt_of_le HLT.out HB34.out.size⟩
      have HB5 : Aside0 (Below w4.heap.size w4 w5) := ⟨by rw [hw5]; exact (Below.refl _ _).alloc (Nat.le_refl _) _⟩
      have HBW : Aside0 (Below w.heap.size w w5) := ⟨(HB2.out.trans (HB34.out.mono HB2.out.size)).trans (HB5.out.mono (Nat.le_of_lt HL4.out))⟩
      have HC5 : Aside0 (w5.heap[w.heap.size]? = some (.cells #[.int .i64 0, .int .i64 0, .int .i64 0, .int .i64 0, .int .i64 0, .int .i64 0] 23 (0, 0))) := ⟨(HB5.out.block _ HL4.out).trans ((HB34.out.block _ HLT.out).trans HC0.out)⟩
      have HD5 : Aside0 (w5.heap[w4.heap.size]? = some (.cells #[.int .i64 x1, .int .i64 x2, .int .i64 x3, .int .i64 x4, .int .i64 x5, .int .i64 x6] 23 (0, 0))) := ⟨by rw [hw5]; show (Array.push _ _)[w4.heap.size]? = _; rw [Array.getElem?_push, if_pos rfl]⟩
      have HNE : Aside0 (w.heap.size ≠ w4.heap.size) := ⟨Nat.ne_of_lt HL4.out⟩
      have HNE' : Aside0 (w4.heap.size ≠ w.heap.size) := ⟨Nat.ne_of_gt HL4.out⟩
      clear hw5
      go_upto_region 5 with (fail)
      generalize Int.tmod a0 86400 = rest at HR ⊢
      have HR2 := HR.out
      unfold clock_At.g at HR2
      simp only [Option.some.injEq, Prod.mk.injEq] at HR2
      obtain ⟨rfl, rfl, rfl, rfl, rfl, rfl, rfl⟩ := HR2
      clear HR
      have hne := HNE.out
      have hne' := HNE'.out
      have hy0 : w5.cell? ⟨w.heap.size, 0, none⟩ = some (.int .i64 0) := (blk_cell HC5.out 0 |> fun _ => blk_cell HC5.out 0).trans rfl
      have hf0 := blk_frozen HC5.out 0
      have hy1 : w5.cell? ⟨w.heap.size, 1, none⟩ = some (.int .i64 0) := (blk_cell HC5.out 0 |> fun _ => blk_cell HC5.out 1).trans rfl
      have hf1 := blk_frozen HC5.out 1
      have hy2 : w5.cell? ⟨w.heap.size, 2, none⟩ = some (.int .i64 0) := (blk_cell HC5.out 0 |> fun _ => blk_cell HC5.out 2).trans rfl
      have hf2 := blk_frozen HC5.out 2
      have hy3 : w5.cell? ⟨w.heap.size, 3, none⟩ = some (.int .i64 0) := (blk_cell HC5.out 0 |> fun _ => blk_cell HC5.out 3).trans rfl
      have hf3 := blk_frozen HC5.out 3
      have hy4 : w5.cell? ⟨w.heap.size, 4, none⟩ = some (.int .i64 0) := (blk_cell HC5.out 0 |> fun _ => blk_cell HC5.out 4).trans rfl
      have hf4 := blk_frozen HC5.out 4
      have hy5 : w5.cell? ⟨w.heap.size, 5, none⟩ = some (.int .i64 0) := (blk_cell HC5.out 0 |> fun _ => blk_cell HC5.out 5).trans rfl
      have hf5 := blk_frozen HC5.out 5
      have hz0 : w5.cell? ⟨w4.heap.size, 0, none⟩ = some (.int .i64 x1) := (blk_cell HD5.out 0).trans rfl
      have hg0 := blk_frozen HD5.out 0
      have hz1 : w5.cell? ⟨w4.heap.size, 1, none⟩ = some (.int .i64 x2) := (blk_cell HD5.out 1).trans rfl
      have hg1 := blk_frozen HD5.out 1
      have hz2 : w5.cell? ⟨w4.heap.size, 2, none⟩ = some (.int .i64 x3) := (blk_cell HD5.out 2).trans rfl
      have hg2 := blk_frozen HD5.out 2
      have hz3 : w5.cell? ⟨w4.heap.size, 3, none⟩ = some (.int .i64 x4) := (blk_cell HD5.out 3).trans rfl
      have hg3 := blk_frozen HD5.out 3
      have hz4 : w5.cell? ⟨w4.heap.size, 4, none⟩ = some (.int .i64 x5) := (blk_cell HD5.out 4).trans rfl
      have hg4 := blk_frozen HD5.out 4
      have hz5 : w5.cell? ⟨w4.heap.size, 5, none⟩ = some (.int .i64 x6) := (blk_cell HD5.out 5).trans rfl
      have hg5 := blk_frozen HD5.out 5
      go_wp2
      refine bodyPost_ret (results_ct rfl _ _ (w.heap.size) 23 #[.int .i64 (x1), .int .i64 (x2), .int .i64 (x3), .int .i64 (wrap64 (Int.tdiv rest 3600)), .int .i64 (Int.tmod (wrap64 (Int.tdiv rest 60)) 60), .int .i64 (Go.bits .andNot .i64 (Int.tmod rest 60) 1)] (0, 0) _ rfl (by (with_reducible repeat (first | refine blk_drewN ?_ _ | refine blk_drew ?_ | refine blk_alloc ?_ _)); refine blk_put (cs := #[.int .i64 (x1), .int .i64 (x2), .int .i64 (x3), .int .i64 (wrap64 (Int.tdiv rest 3600)), .int .i64 (Int.tmod (wrap64 (Int.tdiv rest 60)) 60), .int .i64 (0)]) ?_ 5 _ rfl; (with_reducible repeat (first | refine blk_drewN ?_ _ | refine blk_drew ?_ | refine blk_alloc ?_ _)); refine blk_put (cs := #[.int .i64 (x1), .int .i64 (x2), .int .i64 (x3), .int .i64 (wrap64 (Int.tdiv rest 3600)), .int .i64 (0), .int .i64 (0)]) ?_ 4 _ rfl; (with_reducible repeat (first | refine blk_drewN ?_ _ | refine blk_drew ?_ | refine blk_alloc ?_ _)); refine blk_put (cs := #[.int .i64 (x1), .int .i64 (x2), .int .i64 (x3), .int .i64 (0), .int .i64 (0), .int .i64 (0)]) ?_ 3 _ rfl; (with_reducible repeat (first | refine blk_drewN ?_ _ | refine blk_drew ?_ | refine blk_alloc ?_ _)); refine blk_put (cs := #[.int .i64 (x1), .int .i64 (x2), .int .i64 (0), .int .i64 (0), .int .i64 (0), .int .i64 (0)]) ?_ 2 _ rfl; (with_reducible repeat (first | refine blk_drewN ?_ _ | refine blk_drew ?_ | refine blk_alloc ?_ _)); refine blk_put (cs := #[.int .i64 (x1), .int .i64 (0), .int .i64 (0), .int .i64 (0), .int .i64 (0), .int .i64 (0)]) ?_ 1 _ rfl; (with_reducible repeat (first | refine blk_drewN ?_ _ | refine blk_drew ?_ | refine blk_alloc ?_ _)); refine blk_put (cs := #[.int .i64 (0), .int .i64 (0), .int .i64 (0), .int .i64 (0), .int .i64 (0), .int .i64 (0)]) ?_ 0 _ rfl; (with_reducible repeat (first | refine blk_drewN ?_ _ | refine blk_drew ?_ | refine blk_alloc ?_ _)); refine blk_far ?_ HNE.out _; (with_reducible repeat (first | refine blk_drewN ?_ _ | refine blk_drew ?_ | refine blk_alloc ?_ _)); refine blk_far ?_ HNE.out _; (with_reducible repeat (first | refine blk_drewN ?_ _ | refine blk_drew ?_ | refine blk_alloc ?_ _)); refine blk_far ?_ HNE.out _; (with_reducible repeat (first | refine blk_drewN ?_ _ | refine blk_drew ?_ | refine blk_alloc ?_ _)); exact HC5.out) Tryd.underlying23 rfl (by kernel_rfl)) rfl ?_
      exact ⟨rfl, by repeat (first | (with_reducible first | exact HBW.out | apply below_alloc | apply pw_below_drewN | apply below_drew1 | refine below_set ?_ (Nat.le_refl _) | refine below_set ?_ (Nat.le_of_lt HL4.out)) | exact HBW.out)⟩

-- NOT PRINTED: function 4 (montagelaw41_ClockTimes)

end Go.Proofs.YtodeagijmfoojaaDoor.PClock
