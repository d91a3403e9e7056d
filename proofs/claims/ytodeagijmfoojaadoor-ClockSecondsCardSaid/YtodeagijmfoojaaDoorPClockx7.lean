-- Written by wip/xprint of this repo (not trusted: Lean checks it).
import Derived.Test.YtodeagijmfoojaaDoorPClockx0
import Derived.Test.YtodeagijmfoojaaDoorPClockx4
import Derived.Test.YtodeagijmfoojaaDoorPClockx5
namespace Go.Proofs.YtodeagijmfoojaaDoor.PClock
open Go.RowKit Go.Proofs.YtodeagijmfoojaaDoorW.PrintWords Go.Proofs.YtodeagijmfoojaaDoorW.PrintLast Go.Proofs.YtodeagijmfoojaaDoorW.PrintMore
attribute [local go_sem] max2_int min2_int max_two min_two max_three min_three max_four min_four   -- for this text's walks alone
attribute [-simp] Int.tmod_tmod_of_dvd
set_option linter.unusedVariables false
set_option linter.unusedSimpArgs false

/-! ### montageref41_At: function 18 -/
mutual
def montageref41_At.l0 : Nat → Int → Int → Int → Option (Int × Int × Int × Int × Int × Int × Int)
  | 0, _, _, _ => none
  | k + 1, x4, x5, x6 => if x6 ≤ 2107 then (montageref41_At.l1 k x4 x5 x6 1) else (some (0, 0, 0, 0, 0, 0, 7))
def montageref41_At.l1 : Nat → Int → Int → Int → Int → Option (Int × Int × Int × Int × Int × Int × Int)
  | 0, _, _, _, _ => none
  | k + 1, x4, x5, x6, x7 => if x7 ≤ 12 then ((montageref41_days.f k x6 x7).bind fun t240 => (if x5 < t240 then (some (x6, x7, wrap64 (x5 + 1), wrap64 (Int.tdiv x4 3600), Int.tmod (wrap64 (Int.tdiv x4 60)) 60, wrap64 ((wrap64 (Int.tdiv (Int.tmod x4 60) 2)) * 2), 0)) else ((montageref41_days.f k x6 x7).bind fun t241 => (montageref41_At.l1 k x4 (wrap64 (x5 - t241)) x6 (wrap64 (x7 + 1)))))) else (montageref41_At.l0 k x4 x5 (wrap64 (x6 + 1)))
end
def montageref41_At.f (k : Nat) (a0 : Int) : Option (Int × Int × Int × Int × Int × Int × Int) := if a0 < 0 then (some (0, 0, 0, 0, 0, 0, 7)) else (montageref41_At.l0 k (Int.tmod a0 86400) (wrap64 (Int.tdiv a0 86400)) 1980)
theorem montageref41_At.mono_l : ∀ k, (∀ y0 y1 y2, LeO (montageref41_At.l0 k y0 y1 y2) (montageref41_At.l0 (k + 1) y0 y1 y2)) ∧ (∀ y0 y1 y2 y3, LeO (montageref41_At.l1 k y0 y1 y2 y3) (montageref41_At.l1 (k + 1) y0 y1 y2 y3))
  | 0 => ⟨fun _ _ _ r h => by simp [montageref41_At.l0] at h, fun _ _ _ _ r h => by simp [montageref41_At.l1] at h⟩
  | k + 1 => by
    obtain ⟨ih0, ih1⟩ := montageref41_At.mono_l k
    refine ⟨?_, ?_⟩
    · intro y0 y1 y2
      unfold montageref41_At.l0
      repeat' first
      | (with_reducible exact ih0 _ _ _)
      | (with_reducible exact ih1 _ _ _ _)
      | (with_reducible exact montageref41_days.mono _ _ _)
      | (with_reducible exact LeO.refl _)
      | (with_reducible exact LeO.none _)
      | (with_reducible refine LeO.ite ?_ ?_)
      | (with_reducible refine LeO.bind ?_ (fun _ => ?_))
      | exact ih0 _ _ _
      | exact ih1 _ _ _ _
      | exact montageref41_days.mono _ _ _
      | exact LeO.none _
      | refine LeO.ite ?_ ?_
      | refine LeO.bind ?_ (fun _ => ?_)
    · intro y0 y1 y2 y3
      unfold montageref41_At.l1
      repeat' first
      | (with_reducible exact ih0 _ _ _)
      | (with_reducible exact ih1 _ _ _ _)
      | (with_reducible exact montageref41_days.mono _ _ _)
      | (with_reducible exact LeO.refl _)
      | (with_reducible exact LeO.none _)
      | (with_reducible refine LeO.ite ?_ ?_)
      | (with_reducible refine LeO.bind ?_ (fun _ => ?_))
      | exact ih0 _ _ _
      | exact ih1 _ _ _ _
      | exact montageref41_days.mono _ _ _
      | exact LeO.none _
      | refine LeO.ite ?_ ?_
      | refine LeO.bind ?_ (fun _ => ?_)
theorem montageref41_At.mono : ∀ a0 k, LeO (montageref41_At.f k a0) (montageref41_At.f (k + 1) a0) := by
  intro a0 k
  obtain ⟨ih0, ih1⟩ := montageref41_At.mono_l k
  unfold montageref41_At.f
  repeat' first
      | (with_reducible exact ih0 _ _ _)
      | (with_reducible exact ih1 _ _ _ _)
      | (with_reducible exact montageref41_days.mono _ _ _)
      | (with_reducible exact LeO.refl _)
      | (with_reducible exact LeO.none _)
      | (with_reducible refine LeO.ite ?_ ?_)
      | (with_reducible refine LeO.bind ?_ (fun _ => ?_))
      | exact ih0 _ _ _
      | exact ih1 _ _ _ _
      | exact montageref41_days.mono _ _ _
      | exact LeO.none _
      | refine LeO.ite ?_ ?_
      | refine LeO.bind ?_ (fun _ => ?_)
set_option maxHeartbeats 8000000 in
set_option maxRecDepth 100000 in
theorem montageref41_At.calls (k : Nat) (a0 : Int) (r1 : Int) (r2 : Int) (r3 : Int) (r4 : Int) (r5 : Int) (r6 : Int) (r7 : Int) (w : World) (h : montageref41_At.f k a0 = some (r1, r2, r3, r4, r5, r6, r7)) :
    Calls Tryd.prog 18 #[.int .i64 a0] w fun e w' => e = .returned (.tuple #[.agg #[.int .i64 r1, .int .i64 r2, .int .i64 r3, .int .i64 r4, .int .i64 r5, .int .i64 r6], .int .i64 r7]) ∧ Below w.heap.size w w' := by
  have hu23 := Tryd.underlying23
  have HB := Aside0.mk (Below.refl w.heap.size w)
  have H : (if a0 < 0 then (some (0, 0, 0, 0, 0, 0, 7)) else (montageref41_At.l0 k (Int.tmod a0 86400) (wrap64 (Int.tdiv a0 86400)) 1980)) = some (r1, r2, r3, r4, r5, r6, r7) := h
  clear h
  by_cases c2 : a0 < 0
  · rw [if_pos c2] at H
    have c2b0 : decide (a0 < 0) = true := decide_eq_true c2
    clear c2
    simp only [Option.some.injEq, Prod.mk.injEq] at H
    obtain ⟨rfl, rfl, rfl, rfl, rfl, rfl, rfl⟩ := H
    go_enter Tryd.func18, Tryd.ntmps18
    go_wp2_with (first | ((with_reducible refine gate_dst (N := 2) rfl ?_); refine box_event ?hg (N := 2) ?hd (cs := #[.int .i64 0, .int .i64 0, .int .i64 0, .int .i64 0, .int .i64 0, .int .i64 0]) (t := 23) ?hr ?_; (case hd => rfl); (case hg => rfl); (case hr => first | (go_simp; done) | (go_simp; rfl)); intro gb239 hg w3 hbox hb; have n0_ := Aside0.mk (below_step (by repeat (first | (with_reducible first | exact HB.out | apply below_alloc | apply pw_below_drewN | apply below_drew1) | exact HB.out)) hb); have n1_ := Aside0.mk (hbox); have n2_ := Aside0.mk ((by rw [hg]; exact (below_size (by repeat (first | (with_reducible first | exact HB.out | apply below_alloc | apply pw_below_drewN | apply below_drew1) | exact HB.out))) : w.heap.size ≤ gb239)); have n3_ := Aside0.mk ((by rw [hg]; exact (below_size (by repeat (first | (with_reducible first | exact HB.out | apply below_alloc | apply pw_below_drewN | apply below_drew1) | exact HB.out))) : w.heap.size ≤ gb239)); clear HB; have HB := n0_; have BK239 := n1_; have GW239 := n2_; have GE239 := n3_; clear n0_ n1_ n2_ n3_; clear hb hbox hg; have hcz4_0 : w3.cell? ⟨gb239, 0, none⟩ = some (.int .i64 0) := (blk_cell BK239.out 0).trans rfl; have hcz4_1 : w3.cell? ⟨gb239, 1, none⟩ = some (.int .i64 0) := (blk_cell BK239.out 1).trans rfl; have hcz4_2 : w3.cell? ⟨gb239, 2, none⟩ = some (.int .i64 0) := (blk_cell BK239.out 2).trans rfl; have hcz4_3 : w3.cell? ⟨gb239, 3, none⟩ = some (.int .i64 0) := (blk_cell BK239.out 3).trans rfl; have hcz4_4 : w3.cell? ⟨gb239, 4, none⟩ = some (.int .i64 0) := (blk_cell BK239.out 4).trans rfl; have hcz4_5 : w3.cell? ⟨gb239, 5, none⟩ = some (.int .i64 0) := (blk_cell BK239.out 5).trans rfl; have hfz4_0 := blk_frozen BK239.out 0; have hfz4_1 := blk_frozen BK239.out 1; have hfz4_2 := blk_frozen BK239.out 2; have hfz4_3 := blk_frozen BK239.out 3; have hfz4_4 := blk_frozen BK239.out 4; have hfz4_5 := blk_frozen BK239.out 5))
    refine bodyPost_ret (results_ct rfl _ _ gb239 23 #[.int .i64 0, .int .i64 0, .int .i64 0, .int .i64 0, .int .i64 0, .int .i64 0] (0, 0) _ rfl (by (with_reducible repeat (first | refine blk_drewN ?_ _ | refine blk_drew ?_ | refine blk_alloc ?_ _)); refine blk_put (cs := #[.int .i64 0, .int .i64 0, .int .i64 0, .int .i64 0, .int .i64 0, .int .i64 0]) ?_ 5 _ rfl; (with_reducible repeat (first | refine blk_drewN ?_ _ | refine blk_drew ?_ | refine blk_alloc ?_ _)); refine blk_put (cs := #[.int .i64 0, .int .i64 0, .int .i64 0, .int .i64 0, .int .i64 0, .int .i64 0]) ?_ 4 _ rfl; (with_reducible repeat (first | refine blk_drewN ?_ _ | refine blk_drew ?_ | refine blk_alloc ?_ _)); refine blk_put (cs := #[.int .i64 0, .int .i64 0, .int .i64 0, .int .i64 0, .int .i64 0, .int .i64 0]) ?_ 3 _ rfl; (with_reducible repeat (first | refine blk_drewN ?_ _ | refine blk_drew ?_ | refine blk_alloc ?_ _)); refine blk_put (cs := #[.int .i64 0, .int .i64 0, .int .i64 0, .int .i64 0, .int .i64 0, .int .i64 0]) ?_ 2 _ rfl; (with_reducible repeat (first | refine blk_drewN ?_ _ | refine blk_drew ?_ | refine blk_alloc ?_ _)); refine blk_put (cs := #[.int .i64 0, .int .i64 0, .int .i64 0, .int .i64 0, .int .i64 0, .int .i64 0]) ?_ 1 _ rfl; (with_reducible repeat (first | refine blk_drewN ?_ _ | refine blk_drew ?_ | refine blk_alloc ?_ _)); refine blk_put (cs := #[.int .i64 0, .int .i64 0, .int .i64 0, .int .i64 0, .int .i64 0, .int .i64 0]) ?_ 0 _ rfl; (with_reducible repeat (first | refine blk_drewN ?_ _ | refine blk_drew ?_ | refine blk_alloc ?_ _)); exact BK239.out) Tryd.underlying23 rfl (by kernel_rfl)) rfl ?_
    exact ⟨by first | rfl | (simp [errW_none, errW_some] <;> rfl) | (simp [*, errW_none, errW_some] <;> rfl), by repeat (first | (with_reducible first | exact HB.out | apply below_alloc | apply pw_below_drewN | apply below_drew1 | refine below_set ?_ GE239.out) | exact HB.out)⟩
  · rw [if_neg c2] at H
    have c2b0 : decide (a0 < 0) = false := decide_eq_false c2
    clear c2
    have H' := Aside0.mk H
    clear H
    go_enter Tryd.func18, Tryd.ntmps18
    go_wp2_with (first | ((with_reducible refine gate_dst (N := 2) rfl ?_); refine box_event ?hg (N := 2) ?hd (cs := #[.int .i64 0, .int .i64 0, .int .i64 0, .int .i64 0, .int .i64 0, .int .i64 0]) (t := 23) ?hr ?_; (case hd => rfl); (case hg => rfl); (case hr => first | (go_simp; done) | (go_simp; rfl)); intro gb239 hg w5 hbox hb; have n0_ := Aside0.mk (below_step (by repeat (first | (with_reducible first | exact HB.out | apply below_alloc | apply pw_below_drewN | apply below_drew1) | exact HB.out)) hb); have n1_ := Aside0.mk (hbox); have n2_ := Aside0.mk ((by rw [hg]; exact (below_size (by repeat (first | (with_reducible first | exact HB.out | apply below_alloc | apply pw_below_drewN | apply below_drew1) | exact HB.out))) : w.heap.size ≤ gb239)); have n3_ := Aside0.mk ((by rw [hg]; exact (below_size (by repeat (first | (with_reducible first | exact HB.out | apply below_alloc | apply pw_below_drewN | apply below_drew1) | exact HB.out))) : w.heap.size ≤ gb239)); clear HB; have HB := n0_; have BK239 := n1_; have GW239 := n2_; have GE239 := n3_; clear n0_ n1_ n2_ n3_; clear hb hbox hg))
    go_loopg [5, 6] k (fun kq v5 v6 w' => ∃ (x5_1 : Int) (x6_1 : Int) (x240000_1 : Int) (x240001_1 : Int) (x240002_1 : Int) (x240003_1 : Int) (x240004_1 : Int) (x240005_1 : Int), v5 = .int .i64 x5_1 ∧ v6 = .int .i64 x6_1 ∧ Aside0 (montageref41_At.l0 kq (Int.tmod a0 86400) x5_1 x6_1 = some (r1, r2, r3, r4, r5, r6, r7)) ∧ Aside0 (kq ≤ k) ∧ Aside0 (w'.heap[gb239]? = some (.cells #[.int .i64 x240000_1, .int .i64 x240001_1, .int .i64 x240002_1, .int .i64 x240003_1, .int .i64 x240004_1, .int .i64 x240005_1] 23 (0, 0))) ∧ Aside0 (Below w.heap.size w w'))
    case atStart => exact ⟨(wrap64 (Int.tdiv a0 86400)), (1980), (0), (0), (0), (0), (0), (0), (by first | rfl | (simp; done) | (simp [*]; done)), (by first | rfl | (simp; done) | (simp [*]; done)), H', ⟨Nat.le_refl _⟩, ⟨by (with_reducible repeat (first | refine blk_drewN ?_ _ | refine blk_drew ?_ | refine blk_alloc ?_ _)); exact BK239.out⟩, ⟨by repeat (first | (with_reducible first | exact HB.out | apply below_alloc | apply pw_below_drewN | apply below_drew1 | refine below_set ?_ GE239.out) | exact HB.out)⟩⟩
    case round =>
      clear H'
      try clear c1
      try clear c2
      try clear c2b0
      try clear p2
      try clear hcz4_0
      try clear hcz4_1
      try clear hcz4_2
      try clear hcz4_3
      try clear hcz4_4
      try clear hcz4_5
      try clear hfz4_0
      try clear hfz4_1
      try clear hfz4_2
      try clear hfz4_3
      try clear hfz4_4
      try clear hfz4_5
      obtain ⟨x5_1, x6_1, x240000_1, x240001_1, x240002_1, x240003_1, x240004_1, x240005_1, rfl, rfl, HA, HK1, BK239, HB⟩ := hrel
      cases gk with
      | zero => exact absurd HA.out (by simp [montageref41_At.l0])
      | succ k1 =>
        have H := HA.out
        clear HA
        simp only [montageref41_At.l0] at H
        by_cases c6 : x6_1 ≤ 2107
        · rw [if_pos c6] at H
          have c6b0 : decide (x6_1 ≤ 2107) = true := decide_eq_true c6
          clear c6
          have H' := Aside0.mk H
          clear H
          go_wp2
          go_loopg [5, 7] k1 (fun kq v5 v7 w' => ∃ (x5_2 : Int) (x7_2 : Int) (x240000_2 : Int) (x240001_2 : Int) (x240002_2 : Int) (x240003_2 : Int) (x240004_2 : Int) (x240005_2 : Int), v5 = .int .i64 x5_2 ∧ v7 = .int .i64 x7_2 ∧ Aside0 (montageref41_At.l1 kq (Int.tmod a0 86400) x5_2 x6_1 x7_2 = some (r1, r2, r3, r4, r5, r6, r7)) ∧ Aside0 (kq ≤ k1) ∧ Aside0 (w'.heap[gb239]? = some (.cells #[.int .i64 x240000_2, .int .i64 x240001_2, .int .i64 x240002_2, .int .i64 x240003_2, .int .i64 x240004_2, .int .i64 x240005_2] 23 (0, 0))) ∧ Aside0 (Below w.heap.size w w'))
          case atStart => exact ⟨(x5_1), (1), (x240000_1), (x240001_1), (x240002_1), (x240003_1), (x240004_1), (x240005_1), (by first | rfl | (simp; done) | (simp [*]; done)), (by first | rfl | (simp; done) | (simp [*]; done)), H', ⟨Nat.le_refl _⟩, ⟨by (with_reducible repeat (first | refine blk_drewN ?_ _ | refine blk_drew ?_ | refine blk_alloc ?_ _)); exact BK239.out⟩, ⟨by repeat (first | (with_reducible first | exact HB.out | apply below_alloc | apply pw_below_drewN | apply below_drew1 | refine below_set ?_ GE239.out) | exact HB.out)⟩⟩
          case round =>
            clear H'
            try clear c1
            try clear c2
            try clear c2b0
            try clear p2
            try clear c6
            try clear c6b0
            try clear p6
            try clear hcz4_0
            try clear hcz4_1
            try clear hcz4_2
            try clear hcz4_3
            try clear hcz4_4
            try clear hcz4_5
            try clear hfz4_0
            try clear hfz4_1
            try clear hfz4_2
            try clear hfz4_3
            try clear hfz4_4
            try clear hfz4_5
            try clear p2
            obtain ⟨x5_2, x7_2, x240000_2, x240001_2, x240002_2, x240003_2, x240004_2, x240005_2, rfl, rfl, HA, HK2, BK239, HB⟩ := hrel
            cases gk with
            | zero => exact absurd HA.out (by simp [montageref41_At.l1])
            | succ k2 =>
              have H := HA.out
              clear HA
              simp only [montageref41_At.l1] at H
              by_cases c7 : x7_2 ≤ 12
              · rw [if_pos c7] at H
                have c7b0 : decide (x7_2 ≤ 12) = true := decide_eq_true c7
                clear c7
                replace H := Option.bind_eq_some_iff.mp H
                obtain ⟨t240, A80, H⟩ := H
                replace H : (if x5_2 < t240 then (some (x6_1, x7_2, wrap64 (x5_2 + 1), wrap64 (Int.tdiv (Int.tmod a0 86400) 3600), Int.tmod (wrap64 (Int.tdiv (Int.tmod a0 86400) 60)) 60, wrap64 ((wrap64 (Int.tdiv (Int.tmod (Int.tmod a0 86400) 60) 2)) * 2), 0)) else ((montageref41_days.f k2 x6_1 x7_2).bind fun t241 => (montageref41_At.l1 k2 (Int.tmod a0 86400) (wrap64 (x5_2 - t241)) x6_1 (wrap64 (x7_2 + 1))))) = some (r1, r2, r3, r4, r5, r6, r7) := H
                have A8 := Aside0.mk A80
                clear A80
                by_cases c9 : x5_2 < t240
                · rw [if_pos c9] at H
                  have c9b0 : decide (x5_2 < t240) = true := decide_eq_true c9
                  clear c9
                  simp only [Option.some.injEq, Prod.mk.injEq] at H
                  obtain ⟨rfl, rfl, rfl, rfl, rfl, rfl, rfl⟩ := H
                  go_wp2_with (first | ((with_reducible refine gate_callee (f := 24) rfl ?_); refine goesL_ (some 26) rfl rfl Tryd.func24 (by kernel_rfl) rfl #[.int .i64 x6_1, .int .i64 x7_2] rfl (by (try simp only [List.map_toArray, List.map_cons, List.map_nil]); first | done | rfl | (simp only [List.length_drop, List.length_take]; rfl)) ?_; (with_reducible refine (montageref41_days.calls k2 x6_1 x7_2 t240 _ A8.out).mono ?_); rintro e w' ⟨rfl, ⟨nd, rfl⟩⟩; refine ⟨_, rfl, ?_⟩; (try (rw [drewN_self wr]; generalize hq_ : World.drewN wr _ = wr; have n0_ : Aside0 (wr.heap[gb239]? = some (.cells #[.int .i64 x240000_2, .int .i64 x240001_2, .int .i64 x240002_2, .int .i64 x240003_2, .int .i64 x240004_2, .int .i64 x240005_2] 23 (0, 0))) := ⟨by rw [← hq_]; exact (by (with_reducible repeat (first | refine blk_drewN ?_ _ | refine blk_drew ?_ | refine blk_alloc ?_ _)); exact BK239.out)⟩; have n1_ : Aside0 (Below w.heap.size w wr) := ⟨by rw [← hq_]; exact (by repeat (first | (with_reducible first | exact HB.out | apply below_alloc | apply pw_below_drewN | apply below_drew1 | refine below_set ?_ GE239.out) | exact HB.out))⟩; clear BK239 HB hq_; have BK239 := n0_; have HB := n1_; clear n0_ n1_)); have hcz10_0 : wr.cell? ⟨gb239, 0, none⟩ = some (.int .i64 x240000_2) := (blk_cell BK239.out 0).trans rfl; have hcz10_1 : wr.cell? ⟨gb239, 1, none⟩ = some (.int .i64 x240001_2) := (blk_cell BK239.out 1).trans rfl; have hcz10_2 : wr.cell? ⟨gb239, 2, none⟩ = some (.int .i64 x240002_2) := (blk_cell BK239.out 2).trans rfl; have hcz10_3 : wr.cell? ⟨gb239, 3, none⟩ = some (.int .i64 x240003_2) := (blk_cell BK239.out 3).trans rfl; have hcz10_4 : wr.cell? ⟨gb239, 4, none⟩ = some (.int .i64 x240004_2) := (blk_cell BK239.out 4).trans rfl; have hcz10_5 : wr.cell? ⟨gb239, 5, none⟩ = some (.int .i64 x240005_2) := (blk_cell BK239.out 5).trans rfl; have hfz10_0 := blk_frozen BK239.out 0; have hfz10_1 := blk_frozen BK239.out 1; have hfz10_2 := blk_frozen BK239.out 2; have hfz10_3 := blk_frozen BK239.out 3; have hfz10_4 := blk_frozen BK239.out 4; have hfz10_5 := blk_frozen BK239.out 5))
                  refine bodyPost_ret (results_ct rfl _ _ gb239 23 #[.int .i64 x6_1, .int .i64 x7_2, .int .i64 (wrap64 (x5_2 + 1)), .int .i64 (wrap64 (Int.tdiv (Int.tmod a0 86400) 3600)), .int .i64 (Int.tmod (wrap64 (Int.tdiv (Int.tmod a0 86400) 60)) 60), .int .i64 (wrap64 ((wrap64 (Int.tdiv (Int.tmod (Int.tmod a0 86400) 60) 2)) * 2))] (0, 0) _ rfl (by (with_reducible repeat (first | refine blk_drewN ?_ _ | refine blk_drew ?_ | refine blk_alloc ?_ _)); refine blk_put (cs := #[.int .i64 x6_1, .int .i64 x7_2, .int .i64 (wrap64 (x5_2 + 1)), .int .i64 (wrap64 (Int.tdiv (Int.tmod a0 86400) 3600)), .int .i64 (Int.tmod (wrap64 (Int.tdiv (Int.tmod a0 86400) 60)) 60), .int .i64 x240005_2]) ?_ 5 _ rfl; (with_reducible repeat (first | refine blk_drewN ?_ _ | refine blk_drew ?_ | refine blk_alloc ?_ _)); refine blk_put (cs := #[.int .i64 x6_1, .int .i64 x7_2, .int .i64 (wrap64 (x5_2 + 1)), .int .i64 (wrap64 (Int.tdiv (Int.tmod a0 86400) 3600)), .int .i64 x240004_2, .int .i64 x240005_2]) ?_ 4 _ rfl; (with_reducible repeat (first | refine blk_drewN ?_ _ | refine blk_drew ?_ | refine blk_alloc ?_ _)); refine blk_put (cs := #[.int .i64 x6_1, .int .i64 x7_2, .int .i64 (wrap64 (x5_2 + 1)), .int .i64 x240003_2, .int .i64 x240004_2, .int .i64 x240005_2]) ?_ 3 _ rfl; (with_reducible repeat (first | refine blk_drewN ?_ _ | refine blk_drew ?_ | refine blk_alloc ?_ _)); refine blk_put (cs := #[.int .i64 x6_1, .int .i64 x7_2, .int .i64 x240002_2, .int .i64 x240003_2, .int .i64 x240004_2, .int .i64 x240005_2]) ?_ 2 _ rfl; (with_reducible repeat (first | refine blk_drewN ?_ _ | refine blk_drew ?_ | refine blk_alloc ?_ _)); refine blk_put (cs := #[.int .i64 x6_1, .int .i64 x240001_2, .int .i64 x240002_2, .int .i64 x240003_2, .int .i64 x240004_2, .int .i64 x240005_2]) ?_ 1 _ rfl; (with_reducible repeat (first | refine blk_drewN ?_ _ | refine blk_drew ?_ | refine blk_alloc ?_ _)); refine blk_put (cs := #[.int .i64 x240000_2, .int .i64 x240001_2, .int .i64 x240002_2, .int .i64 x240003_2, .int .i64 x240004_2, .int .i64 x240005_2]) ?_ 0 _ rfl; (with_reducible repeat (first | refine blk_drewN ?_ _ | refine blk_drew ?_ | refine blk_alloc ?_ _)); exact BK239.out) Tryd.underlying23 rfl (by kernel_rfl)) rfl ?_
                  exact ⟨by first | rfl | (simp [errW_none, errW_some] <;> rfl) | (simp [*, errW_none, errW_some] <;> rfl), by repeat (first | (with_reducible first | exact HB.out | apply below_alloc | apply pw_below_drewN | apply below_drew1 | refine below_set ?_ GE239.out) | exact HB.out)⟩
                · rw [if_neg c9] at H
                  have c9b0 : decide (x5_2 < t240) = false := decide_eq_false c9
                  clear c9
                  replace H := Option.bind_eq_some_iff.mp H
                  obtain ⟨t241, A110, H⟩ := H
                  replace H : (montageref41_At.l1 k2 (Int.tmod a0 86400) (wrap64 (x5_2 - t241)) x6_1 (wrap64 (x7_2 + 1))) = some (r1, r2, r3, r4, r5, r6, r7) := H
                  have A11 := Aside0.mk A110
                  clear A110
                  have H' := Aside0.mk H
                  clear H
                  go_wp2_with (first | ((with_reducible refine gate_callee (f := 24) rfl ?_); refine goesL_ (some 26) rfl rfl Tryd.func24 (by kernel_rfl) rfl #[.int .i64 x6_1, .int .i64 x7_2] rfl (by (try simp only [List.map_toArray, List.map_cons, List.map_nil]); first | done | rfl | (simp only [List.length_drop, List.length_take]; rfl)) ?_; (with_reducible refine (montageref41_days.calls k2 x6_1 x7_2 t240 _ A8.out).mono ?_); rintro e w' ⟨rfl, ⟨nd, rfl⟩⟩; refine ⟨_, rfl, ?_⟩) | ((with_reducible refine gate_callee (f := 24) rfl ?_); refine goesL_ (some 45) rfl rfl Tryd.func24 (by kernel_rfl) rfl #[.int .i64 x6_1, .int .i64 x7_2] rfl (by (try simp only [List.map_toArray, List.map_cons, List.map_nil]); first | done | rfl | (simp only [List.length_drop, List.length_take]; rfl)) ?_; (with_reducible refine (montageref41_days.calls k2 x6_1 x7_2 t241 _ A11.out).mono ?_); rintro e w' ⟨rfl, ⟨nd, rfl⟩⟩; refine ⟨_, rfl, ?_⟩))
                  go_roundg k2
                  case measure => have := HK1.out; have := HK2.out; omega
                  case rel => exact ⟨(wrap64 (x5_2 - t241)), (wrap64 (x7_2 + 1)), (x240000_2), (x240001_2), (x240002_2), (x240003_2), (x240004_2), (x240005_2), (by first | rfl | (simp; done) | (simp [*]; done)), (by first | rfl | (simp; done) | (simp [*]; done)), H', ⟨by have := HK1.out; have := HK2.out; omega⟩, ⟨by (with_reducible repeat (first | refine blk_drewN ?_ _ | refine blk_drew ?_ | refine blk_alloc ?_ _)); exact BK239.out⟩, ⟨by repeat (first | (with_reducible first | exact HB.out | apply below_alloc | apply pw_below_drewN | apply below_drew1 | refine below_set ?_ GE239.out) | exact HB.out)⟩⟩
              · rw [if_neg c7] at H
                have c7b0 : decide (x7_2 ≤ 12) = false := decide_eq_false c7
                clear c7
                have H' := Aside0.mk H
                clear H
                go_wp2
                go_roundg k2
                case measure => have := HK1.out; have := HK2.out; omega
                case rel => exact ⟨(x5_2), (wrap64 (x6_1 + 1)), (x240000_2), (x240001_2), (x240002_2), (x240003_2), (x240004_2), (x240005_2), (by first | rfl | (simp; done) | (simp [*]; done)), (by first | rfl | (simp; done) | (simp [*]; done)), H', ⟨by have := HK1.out; have := HK2.out; omega⟩, ⟨by (with_reducible repeat (first | refine blk_drewN ?_ _ | refine blk_drew ?_ | refine blk_alloc ?_ _)); exact BK239.out⟩, ⟨by repeat (first | (with_reducible first | exact HB.out | apply below_alloc | apply pw_below_drewN | apply below_drew1 | refine below_set ?_ GE239.out) | exact HB.out)⟩⟩
        · rw [if_neg c6] at H
          have c6b0 : decide (x6_1 ≤ 2107) = false := decide_eq_false c6
          clear c6
          simp only [Option.some.injEq, Prod.mk.injEq] at H
          obtain ⟨rfl, rfl, rfl, rfl, rfl, rfl, rfl⟩ := H
          have hcz12_0 : wr.cell? ⟨gb239, 0, none⟩ = some (.int .i64 x240000_1) := (blk_cell BK239.out 0).trans rfl
          have hcz12_1 : wr.cell? ⟨gb239, 1, none⟩ = some (.int .i64 x240001_1) := (blk_cell BK239.out 1).trans rfl
          have hcz12_2 : wr.cell? ⟨gb239, 2, none⟩ = some (.int .i64 x240002_1) := (blk_cell BK239.out 2).trans rfl
          have hcz12_3 : wr.cell? ⟨gb239, 3, none⟩ = some (.int .i64 x240003_1) := (blk_cell BK239.out 3).trans rfl
          have hcz12_4 : wr.cell? ⟨gb239, 4, none⟩ = some (.int .i64 x240004_1) := (blk_cell BK239.out 4).trans rfl
          have hcz12_5 : wr.cell? ⟨gb239, 5, none⟩ = some (.int .i64 x240005_1) := (blk_cell BK239.out 5).trans rfl
          have hfz12_0 := blk_frozen BK239.out 0
          have hfz12_1 := blk_frozen BK239.out 1
          have hfz12_2 := blk_frozen BK239.out 2
          have hfz12_3 := blk_frozen BK239.out 3
          have hfz12_4 := blk_frozen BK239.out 4
          have hfz12_5 := blk_frozen BK239.out 5
          go_wp2
          refine bodyPost_ret (results_ct rfl _ _ gb239 23 #[.int .i64 0, .int .i64 0, .int .i64 0, .int .i64 0, .int .i64 0, .int .i64 0] (0, 0) _ rfl (by (with_reducible repeat (first | refine blk_drewN ?_ _ | refine blk_drew ?_ | refine blk_alloc ?_ _)); refine blk_put (cs := #[.int .i64 0, .int .i64 0, .int .i64 0, .int .i64 0, .int .i64 0, .int .i64 x240005_1]) ?_ 5 _ rfl; (with_reducible repeat (first | refine blk_drewN ?_ _ | refine blk_drew ?_ | refine blk_alloc ?_ _)); refine blk_put (cs := #[.int .i64 0, .int .i64 0, .int .i64 0, .int .i64 0, .int .i64 x240004_1, .int .i64 x240005_1]) ?_ 4 _ rfl; (with_reducible repeat (first | refine blk_drewN ?_ _ | refine blk_drew ?_ | refine blk_alloc ?_ _)); refine blk_put (cs := #[.int .i64 0, .int .i64 0, .int .i64 0, .int .i64 x240003_1, .int .i64 x240004_1, .int .i64 x240005_1]) ?_ 3 _ rfl; (with_reducible repeat (first | refine blk_drewN ?_ _ | refine blk_drew ?_ | refine blk_alloc ?_ _)); refine blk_put (cs := #[.int .i64 0, .int .i64 0, .int .i64 x240002_1, .int .i64 x240003_1, .int .i64 x240004_1, .int .i64 x240005_1]) ?_ 2 _ rfl; (with_reducible repeat (first | refine blk_drewN ?_ _ | refine blk_drew ?_ | refine blk_alloc ?_ _)); refine blk_put (cs := #[.int .i64 0, .int .i64 x240001_1, .int .i64 x240002_1, .int .i64 x240003_1, .int .i64 x240004_1, .int .i64 x240005_1]) ?_ 1 _ rfl; (with_reducible repeat (first | refine blk_drewN ?_ _ | refine blk_drew ?_ | refine blk_alloc ?_ _)); refine blk_put (cs := #[.int .i64 x240000_1, .int .i64 x240001_1, .int .i64 x240002_1, .int .i64 x240003_1, .int .i64 x240004_1, .int .i64 x240005_1]) ?_ 0 _ rfl; (with_reducible repeat (first | refine blk_drewN ?_ _ | refine blk_drew ?_ | refine blk_alloc ?_ _)); exact BK239.out) Tryd.underlying23 rfl (by kernel_rfl)) rfl ?_
          exact ⟨by first | rfl | (simp [errW_none, errW_some] <;> rfl) | (simp [*, errW_none, errW_some] <;> rfl), by repeat (first | (with_reducible first | exact HB.out | apply below_alloc | apply pw_below_drewN | apply below_drew1 | refine below_set ?_ GE239.out) | exact HB.out)⟩

/-! ### montageref41_number: function 31 -/
def montageref41_number.l0 : Nat → ByteArray → Int → Int → Option (Int)
  | 0, _, _, _ => none
  | k + 1, x0, x3, x4 => if x4 < (x0.size : Int) then (if 0 ≤ x4 then (montageref41_number.l0 k x0 (wrap64 ((wrap64 ((wrap64 (10 * x3)) + (wrap64 (bt x0 x4)))) - 48)) (wrap64 (x4 + 1))) else (none)) else (some x3)
def montageref41_number.f (k : Nat) (a0 : ByteArray) : Option (Int) := montageref41_number.l0 k a0 0 0
theorem montageref41_number.mono_l : ∀ k, (∀ y0 y1 y2, LeO (montageref41_number.l0 k y0 y1 y2) (montageref41_number.l0 (k + 1) y0 y1 y2))
  | 0 => fun _ _ _ r h => by simp [montageref41_number.l0] at h
  | k + 1 => by
    have ih0 := montageref41_number.mono_l k
    · intro y0 y1 y2
      unfold montageref41_number.l0
      repeat' first
      | (with_reducible exact ih0 _ _ _)
      | (with_reducible exact LeO.refl _)
      | (with_reducible exact LeO.none _)
      | (with_reducible refine LeO.ite ?_ ?_)
      | (with_reducible refine LeO.bind ?_ (fun _ => ?_))
      | exact ih0 _ _ _
      | exact LeO.none _
      | refine LeO.ite ?_ ?_
      | refine LeO.bind ?_ (fun _ => ?_)
theorem montageref41_number.mono : ∀ a0 k, LeO (montageref41_number.f k a0) (montageref41_number.f (k + 1) a0) := by
  intro a0 k
  have ih0 := montageref41_number.mono_l k
  unfold montageref41_number.f
  repeat' first
      | (with_reducible exact ih0 _ _ _)
      | (with_reducible exact LeO.refl _)
      | (with_reducible exact LeO.none _)
      | (with_reducible refine LeO.ite ?_ ?_)
      | (with_reducible refine LeO.bind ?_ (fun _ => ?_))
      | exact ih0 _ _ _
      | exact LeO.none _
      | refine LeO.ite ?_ ?_
      | refine LeO.bind ?_ (fun _ => ?_)
set_option maxHeartbeats 8000000 in
set_option maxRecDepth 100000 in
theorem montageref41_number.calls (k : Nat) (a0 : ByteArray) (r : Int) (w : World) (h : montageref41_number.f k a0 = some r) :
    Calls Tryd.prog 31 #[.string a0] w fun e w' => e = .returned (.int .i64 r) ∧ Drawn0 w w' := by
  have H : (montageref41_number.l0 k a0 0 0) = some r := h
  clear h
  have H' := Aside0.mk H
  clear H
  go_enter Tryd.func31, Tryd.ntmps31
  go_wp2
  go_loopg [3, 4] k (fun kq v3 v4 w' => ∃ (x3_1 : Int) (x4_1 : Int), v3 = .int .i64 x3_1 ∧ v4 = .int .i64 x4_1 ∧ Aside0 (montageref41_number.l0 kq a0 x3_1 x4_1 = some r) ∧ Aside0 (kq ≤ k) ∧ Drawn0 w w')
  case atStart => exact ⟨(0), (0), (by first | rfl | (simp; done) | (simp [*]; done)), (by first | rfl | (simp; done) | (simp [*]; done)), H', ⟨Nat.le_refl _⟩, by repeat (first | exact Drawn0.refl _ | apply Drawn0.step)⟩
  case round =>
    clear H'
    obtain ⟨x3_1, x4_1, rfl, rfl, HA, HK1, ⟨m1, rfl⟩⟩ := hrel
    cases gk with
    | zero => exact absurd HA.out (by simp [montageref41_number.l0])
    | succ k1 =>
      have H := HA.out
      clear HA
      simp only [montageref41_number.l0] at H
      by_cases c2 : x4_1 < (a0.size : Int)
      · rw [if_pos c2] at H
        have c2b0 : decide (x4_1 < (a0.size : Int)) = true := decide_eq_true c2
        clear c2
        by_cases c3 : 0 ≤ x4_1
        · rw [if_pos c3] at H
          have c3b0 : decide (0 ≤ x4_1) = true := decide_eq_true c3
          clear c3
          have H' := Aside0.mk H
          clear H
          have p4 : 0 ≤ (x4_1 : Int) := of_decide_eq_true (by first | (with_reducible assumption) | assumption)
          have q4 : x4_1 < (a0.size : Int) := of_decide_eq_true (by first | (with_reducible assumption) | assumption)
          have hx4 := bt_at a0 x4_1
          replace p4 := eq_true p4
          replace q4 := eq_true q4
          go_wp2
          go_roundg k1
          case measure => have := HK1.out; omega
          case rel => exact ⟨(wrap64 ((wrap64 ((wrap64 (10 * x3_1)) + (wrap64 (bt a0 x4_1)))) - 48)), (wrap64 (x4_1 + 1)), (by first | rfl | (simp; done) | (simp [*]; done)), (by first | rfl | (simp; done) | (simp [*]; done)), H', ⟨by have := HK1.out; omega⟩, by repeat (first | exact Drawn0.refl _ | apply Drawn0.step)⟩
        · rw [if_neg c3] at H
          exact absurd H (by simp)
      · rw [if_neg c2] at H
        have c2b0 : decide (x4_1 < (a0.size : Int)) = false := decide_eq_false c2
        clear c2
        obtain rfl := Option.some.inj H
        go_wp2
        go_ret
        exact ⟨by first | rfl | (simp; done) | (simp [*]; done), by repeat (first | exact Drawn0.refl _ | apply Drawn0.step)⟩

/-! ### montageref41_Parse: function 19 (its contract is typed by hand) -/
def montageref41_Parse.f (k : Nat) (a0 : ByteArray) : Option (Int × Int × Int × Int × Int × Int × Int) := if a0.size = 19 then (montageref41_number.f k (a0.extract 0 4)).bind fun n1 => (montageref41_number.f k (a0.extract 5 7)).bind fun n2 => (montageref41_number.f k (a0.extract 8 10)).bind fun n3 => (montageref41_number.f k (a0.extract 11 13)).bind fun n4 => (montageref41_number.f k (a0.extract 14 16)).bind fun n5 => (montageref41_number.f k (a0.extract 17 19)).bind fun n6 => (montageref41_May.f k n1 n2 n3 n4 n5 n6).bind fun b => if b = true then (montageref41_Text.f k n1 n2 n3 n4 n5 n6).bind fun t => if t.toList = a0.toList then some (n1, n2, n3, n4, n5, n6, (0 : Int)) else some (0, 0, 0, 0, 0, 0, 2) else some (0, 0, 0, 0, 0, 0, 2) else some (0, 0, 0, 0, 0, 0, 2)
theorem montageref41_Parse.mono : ∀ a0 k, LeO (montageref41_Parse.f k a0) (montageref41_Parse.f (k + 1) a0) := by
  intro a0 k
  unfold montageref41_Parse.f
  exact LeO.ite (LeO.bind (montageref41_number.mono _ _) (fun _ => LeO.bind (montageref41_number.mono _ _) (fun _ => LeO.bind (montageref41_number.mono _ _) (fun _ => LeO.bind (montageref41_number.mono _ _) (fun _ => LeO.bind (montageref41_number.mono _ _) (fun _ => LeO.bind (montageref41_number.mono _ _) (fun _ => LeO.bind (montageref41_May.mono _ _ _ _ _ _ _) (fun _ => LeO.ite (LeO.bind (montageref41_Text.mono _ _ _ _ _ _ _) (fun _ => LeO.refl _)) (LeO.refl _))))))))) (LeO.refl _)
theorem montageref41_Parse_n (k : Nat) (a0 : ByteArray) (r : Int) (w2 w : World) (hB : Below w2.heap.size w2 w) (h : montageref41_number.f k a0 = some r) :
    Calls Tryd.prog 31 #[.string a0] w fun e w' => e = .returned (.int .i64 r) ∧ Below w2.heap.size w2 w' := by
  refine (montageref41_number.calls k a0 r w h).mono ?_
  rintro e w' ⟨rfl, nd, rfl⟩
  exact ⟨rfl, pw_below_drewN hB _⟩
set_option maxHeartbeats 4000000 in
set_option maxRecDepth 100000 in
theorem montageref41_Parse.calls (k : Nat) (a0 : ByteArray) (r1 r2 r3 r4 r5 r6 r7 : Int) (w : World) (h : montageref41_Parse.f k a0 = some (r1, r2, r3, r4, r5, r6, r7)) :
    Calls Tryd.prog 19 #[.string a0] w fun e w' => e = .returned (.tuple #[.agg #[.int .i64 r1, .int .i64 r2, .int .i64 r3, .int .i64 r4, .int .i64 r5, .int .i64 r6], .int .i64 r7]) ∧ Below w.heap.size w w' := by
  have hu23 := Tryd.underlying23
  unfold montageref41_Parse.f at h
  by_cases hs : a0.size = 19
  · rw [if_pos hs] at h
    have hsI : (a0.size : Int) = 19 := by omega
    have d0 : ((a0.size : Int) != 19) = false := bne_eq_false_iff_eq.mpr hsI
    obtain ⟨n1, hn1, h⟩ := Option.bind_eq_some_iff.mp h
    have HN1 := Aside0.mk hn1
    clear hn1
    obtain ⟨n2, hn2, h⟩ := Option.bind_eq_some_iff.mp h
    have HN2 := Aside0.mk hn2
    clear hn2
    obtain ⟨n3, hn3, h⟩ := Option.bind_eq_some_iff.mp h
    have HN3 := Aside0.mk hn3
    clear hn3
    obtain ⟨n4, hn4, h⟩ := Option.bind_eq_some_iff.mp h
    have HN4 := Aside0.mk hn4
    clear hn4
    obtain ⟨n5, hn5, h⟩ := Option.bind_eq_some_iff.mp h
    have HN5 := Aside0.mk hn5
    clear hn5
    obtain ⟨n6, hn6, h⟩ := Option.bind_eq_some_iff.mp h
    have HN6 := Aside0.mk hn6
    clear hn6
    obtain ⟨b, hb, h⟩ := Option.bind_eq_some_iff.mp h
    have HM := Aside0.mk hb
    clear hb
    have H := Aside0.mk h
    clear h
    have HS := Aside0.mk hsI
    clear hsI
    go_enter Tryd.func19, Tryd.ntmps19
    go_upto_region 1 with (fail)
    have hw2 : ∃ w2 : World, w2 = w.alloc (.cells #[.int .i64 0, .int .i64 0, .int .i64 0, .int .i64 0, .int .i64 0, .int .i64 0] 23) := ⟨_, rfl⟩
    obtain ⟨w2, hw2⟩ := hw2
    rw [← hw2]
    have HB2 : Aside0 (Below w.heap.size w w2) := ⟨by rw [hw2]; exact ((Below.refl _ w).alloc (Nat.le_refl _) _)⟩
    have HC0 : Aside0 (w2.heap[w.heap.size]? = some (.cells #[.int .i64 0, .int .i64 0, .int .i64 0, .int .i64 0, .int .i64 0, .int .i64 0] 23 (0, 0))) := ⟨by rw [hw2]; show (Array.push _ _)[w.heap.size]? = _; rw [Array.getElem?_push, if_pos rfl]⟩
    have HLT : Aside0 (w.heap.size < w2.heap.size) := ⟨by rw [hw2]; simp⟩
    clear hw2
    go_upto_region 3 with (fail)
    have hblk : ∀ n : Nat, ((w2.drewN n).alloc (.cells #[.int .i64 0, .int .i64 0, .int .i64 0, .int .i64 0, .int .i64 0, .int .i64 0] 23)).heap[w2.heap.size]? = some (.cells #[.int .i64 0, .int .i64 0, .int .i64 0, .int .i64 0, .int .i64 0, .int .i64 0] 23 (0, 0)) := fun n => by show (Array.push _ _)[w2.heap.size]? = _; rw [Array.getElem?_push, if_pos (by rfl)]
    have hq0 : ∀ n : Nat, ((w2.drewN n).alloc (.cells #[.int .i64 0, .int .i64 0, .int .i64 0, .int .i64 0, .int .i64 0, .int .i64 0] 23)).cell? ⟨w2.heap.size, 0, none⟩ = some (.int .i64 0) := fun n => (blk_cell (hblk n) 0).trans rfl
    have hp0 : ∀ n : Nat, ((w2.drewN n).alloc (.cells #[.int .i64 0, .int .i64 0, .int .i64 0, .int .i64 0, .int .i64 0, .int .i64 0] 23)).frozen? ⟨w2.heap.size, 0, none⟩ = false := fun n => blk_frozen (hblk n) 0
    have hq1 : ∀ n : Nat, ((w2.drewN n).alloc (.cells #[.int .i64 0, .int .i64 0, .int .i64 0, .int .i64 0, .int .i64 0, .int .i64 0] 23)).cell? ⟨w2.heap.size, 1, none⟩ = some (.int .i64 0) := fun n => (blk_cell (hblk n) 1).trans rfl
    have hp1 : ∀ n : Nat, ((w2.drewN n).alloc (.cells #[.int .i64 0, .int .i64 0, .int .i64 0, .int .i64 0, .int .i64 0, .int .i64 0] 23)).frozen? ⟨w2.heap.size, 1, none⟩ = false := fun n => blk_frozen (hblk n) 1
    have hq2 : ∀ n : Nat, ((w2.drewN n).alloc (.cells #[.int .i64 0, .int .i64 0, .int .i64 0, .int .i64 0, .int .i64 0, .int .i64 0] 23)).cell? ⟨w2.heap.size, 2, none⟩ = some (.int .i64 0) := fun n => (blk_cell (hblk n) 2).trans rfl
    have hp2 : ∀ n : Nat, ((w2.drewN n).alloc (.cells #[.int .i64 0, .int .i64 0, .int .i64 0, .int .i64 0, .int .i64 0, .int .i64 0] 23)).frozen? ⟨w2.heap.size, 2, none⟩ = false := fun n => blk_frozen (hblk n) 2
    have hq3 : ∀ n : Nat, ((w2.drewN n).alloc (.cells #[.int .i64 0, .int .i64 0, .int .i64 0, .int .i64 0, .int .i64 0, .int .i64 0] 23)).cell? ⟨w2.heap.size, 3, none⟩ = some (.int .i64 0) := fun n => (blk_cell (hblk n) 3).trans rfl
    have hp3 : ∀ n : Nat, ((w2.drewN n).alloc (.cells #[.int .i64 0, .int .i64 0, .int .i64 0, .int .i64 0, .int .i64 0, .int .i64 0] 23)).frozen? ⟨w2.heap.size, 3, none⟩ = false := fun n => blk_frozen (hblk n) 3
    have hq4 : ∀ n : Nat, ((w2.drewN n).alloc (.cells #[.int .i64 0, .int .i64 0, .int .i64 0, .int .i64 0, .int .i64 0, .int .i64 0] 23)).cell? ⟨w2.heap.size, 4, none⟩ = some (.int .i64 0) := fun n => (blk_cell (hblk n) 4).trans rfl
    have hp4 : ∀ n : Nat, ((w2.drewN n).alloc (.cells #[.int .i64 0, .int .i64 0, .int .i64 0, .int .i64 0, .int .i64 0, .int .i64 0] 23)).frozen? ⟨w2.heap.size, 4, none⟩ = false := fun n => blk_frozen (hblk n) 4
    have hq5 : ∀ n : Nat, ((w2.drewN n).alloc (.cells #[.int .i64 0, .int .i64 0, .int .i64 0, .int .i64 0, .int .i64 0, .int .i64 0] 23)).cell? ⟨w2.heap.size, 5, none⟩ = some (.int .i64 0) := fun n => (blk_cell (hblk n) 5).trans rfl
    have hp5 : ∀ n : Nat, ((w2.drewN n).alloc (.cells #[.int .i64 0, .int .i64 0, .int .i64 0, .int .i64 0, .int .i64 0, .int .i64 0] 23)).frozen? ⟨w2.heap.size, 5, none⟩ = false := fun n => blk_frozen (hblk n) 5
    go_cut [4] (fun v4 wc => v4 = .pointer (some ⟨w2.heap.size, 0, none⟩) ∧ Aside0 (Below w2.heap.size w2 wc) ∧ Aside0 (wc.heap[w2.heap.size]? = some (.cells #[.int .i64 n1, .int .i64 n2, .int .i64 n3, .int .i64 n4, .int .i64 n5, .int .i64 n6] 23 (0, 0))))
    case first =>
     go_region_held3 (fun _ => True) (first | trivial | go_keep)
      (first | (go_at_call 31; (with_reducible refine (montageref41_number.calls k _ n1 _ HN1.out).mono ?_); rintro e w3 ⟨rfl, nd, rfl⟩) | (go_at_call 31; (with_reducible refine (montageref41_number.calls k _ n2 _ HN2.out).mono ?_); rintro e w3 ⟨rfl, nd, rfl⟩) | (go_at_call 31; (with_reducible refine (montageref41_number.calls k _ n3 _ HN3.out).mono ?_); rintro e w3 ⟨rfl, nd, rfl⟩) | (go_at_call 31; (with_reducible refine (montageref41_number.calls k _ n4 _ HN4.out).mono ?_); rintro e w3 ⟨rfl, nd, rfl⟩) | (go_at_call 31; (with_reducible refine (montageref41_number.calls k _ n5 _ HN5.out).mono ?_); rintro e w3 ⟨rfl, nd, rfl⟩) | (go_at_call 31; (with_reducible refine (montageref41_number.calls k _ n6 _ HN6.out).mono ?_); rintro e w3 ⟨rfl, nd, rfl⟩))
     all_goals (go_wp2; go_meet; case rel => exact ⟨rfl, ⟨by (with_reducible repeat (first | exact Below.refl _ _ | apply below_alloc | apply pw_below_drewN | apply below_drew | refine below_set ?_ (Nat.le_refl _)))⟩, ⟨by (with_reducible repeat (first | refine blk_drewN ?_ _ | refine blk_drew ?_)); refine blk_put (cs := #[.int .i64 n1, .int .i64 n2, .int .i64 n3, .int .i64 n4, .int .i64 n5, .int .i64 0]) ?_ 5 _ rfl; (with_reducible repeat (first | refine blk_drewN ?_ _ | refine blk_drew ?_)); refine blk_put (cs := #[.int .i64 n1, .int .i64 n2, .int .i64 n3, .int .i64 n4, .int .i64 0, .int .i64 0]) ?_ 4 _ rfl; (with_reducible repeat (first | refine blk_drewN ?_ _ | refine blk_drew ?_)); refine blk_put (cs := #[.int .i64 n1, .int .i64 n2, .int .i64 n3, .int .i64 0, .int .i64 0, .int .i64 0]) ?_ 3 _ rfl; (with_reducible repeat (first | refine blk_drewN ?_ _ | refine blk_drew ?_)); refine blk_put (cs := #[.int .i64 n1, .int .i64 n2, .int .i64 0, .int .i64 0, .int .i64 0, .int .i64 0]) ?_ 2 _ rfl; (with_reducible repeat (first | refine blk_drewN ?_ _ | refine blk_drew ?_)); refine blk_put (cs := #[.int .i64 n1, .int .i64 0, .int .i64 0, .int .i64 0, .int .i64 0, .int .i64 0]) ?_ 1 _ rfl; (with_reducible repeat (first | refine blk_drewN ?_ _ | refine blk_drew ?_)); refine blk_put (cs := #[.int .i64 0, .int .i64 0, .int .i64 0, .int .i64 0, .int .i64 0, .int .i64 0]) ?_ 0 _ rfl; (with_reducible repeat (first | refine blk_drewN ?_ _ | refine blk_drew ?_)); exact hblk 0⟩⟩)
    case rest =>
     obtain ⟨rfl, HBc, HNc⟩ := hcut
     clear hq0 hq1 hq2 hq3 hq4 hq5 hp0 hp1 hp2 hp3 hp4 hp5 hblk
     have HZc : Aside0 (wc.heap[w.heap.size]? = some (.cells #[.int .i64 0, .int .i64 0, .int .i64 0, .int .i64 0, .int .i64 0, .int .i64 0] 23 (0, 0))) := ⟨(HBc.out.block _ HLT.out).trans HC0.out⟩
     have HWc : Aside0 (Below w.heap.size w wc) := ⟨HB2.out.trans (HBc.out.mono HB2.out.size)⟩
     have HLc : Aside0 (w.heap.size < wc.heap.size) := ⟨Nat.lt_of_lt_of_le HLT.out HBc.out.size⟩
     clear HBc HB2 HC0
     have hz0 : wc.cell? ⟨w2.heap.size, 0, none⟩ = some (.int .i64 n1) := (blk_cell HNc.out 0).trans rfl
     have hz1 : wc.cell? ⟨w2.heap.size, 1, none⟩ = some (.int .i64 n2) := (blk_cell HNc.out 1).trans rfl
     have hz2 : wc.cell? ⟨w2.heap.size, 2, none⟩ = some (.int .i64 n3) := (blk_cell HNc.out 2).trans rfl
     have hz3 : wc.cell? ⟨w2.heap.size, 3, none⟩ = some (.int .i64 n4) := (blk_cell HNc.out 3).trans rfl
     have hz4 : wc.cell? ⟨w2.heap.size, 4, none⟩ = some (.int .i64 n5) := (blk_cell HNc.out 4).trans rfl
     have hz5 : wc.cell? ⟨w2.heap.size, 5, none⟩ = some (.int .i64 n6) := (blk_cell HNc.out 5).trans rfl
     have h := H.out
     clear H
     cases b with
     | false =>
      rw [if_neg (by decide)] at h
      obtain ⟨rfl, rfl, rfl, rfl, rfl, rfl, rfl⟩ : (0 : Int) = r1 ∧ (0 : Int) = r2 ∧ (0 : Int) = r3 ∧ (0 : Int) = r4 ∧ (0 : Int) = r5 ∧ (0 : Int) = r6 ∧ (2 : Int) = r7 := by simp only [Option.some.injEq, Prod.mk.injEq] at h; exact h
      clear h
      go_upto_region 5 with (go_at_call 10; (with_reducible refine (montageref41_May.calls k n1 n2 n3 n4 n5 n6 false _ HM.out).mono ?_); rintro e w5 ⟨rfl, hb⟩; have HB5 := Aside0.mk hb; clear hb; have HN5 : Aside0 (w5.heap[w2.heap.size]? = some (.cells #[.int .i64 n1, .int .i64 n2, .int .i64 n3, .int .i64 n4, .int .i64 n5, .int .i64 n6] 23 (0, 0))) := ⟨(HB5.out.block _ (blk_lt HNc.out)).trans HNc.out⟩; have HZ5 : Aside0 (w5.heap[w.heap.size]? = some (.cells #[.int .i64 0, .int .i64 0, .int .i64 0, .int .i64 0, .int .i64 0, .int .i64 0] 23 (0, 0))) := ⟨(HB5.out.block _ HLc.out).trans HZc.out⟩; have HW5 : Aside0 (Below w.heap.size w w5) := ⟨HWc.out.trans (HB5.out.mono (Nat.le_of_lt HLc.out))⟩; have hy0 : w5.cell? ⟨w2.heap.size, 0, none⟩ = some (.int .i64 n1) := (blk_cell HN5.out 0).trans rfl; have hy1 : w5.cell? ⟨w2.heap.size, 1, none⟩ = some (.int .i64 n2) := (blk_cell HN5.out 1).trans rfl; have hy2 : w5.cell? ⟨w2.heap.size, 2, none⟩ = some (.int .i64 n3) := (blk_cell HN5.out 2).trans rfl; have hy3 : w5.cell? ⟨w2.heap.size, 3, none⟩ = some (.int .i64 n4) := (blk_cell HN5.out 3).trans rfl; have hy4 : w5.cell? ⟨w2.heap.size, 4, none⟩ = some (.int .i64 n5) := (blk_cell HN5.out 4).trans rfl; have hy5 : w5.cell? ⟨w2.heap.size, 5, none⟩ = some (.int .i64 n6) := (blk_cell HN5.out 5).trans rfl)
      have hv0 : w5.cell? ⟨w.heap.size, 0, none⟩ = some (.int .i64 0) := (blk_cell HZ5.out 0).trans rfl
      have hf0 := blk_frozen HZ5.out 0
      have hv1 : w5.cell? ⟨w.heap.size, 1, none⟩ = some (.int .i64 0) := (blk_cell HZ5.out 1).trans rfl
      have hf1 := blk_frozen HZ5.out 1
      have hv2 : w5.cell? ⟨w.heap.size, 2, none⟩ = some (.int .i64 0) := (blk_cell HZ5.out 2).trans rfl
      have hf2 := blk_frozen HZ5.out 2
      have hv3 : w5.cell? ⟨w.heap.size, 3, none⟩ = some (.int .i64 0) := (blk_cell HZ5.out 3).trans rfl
      have hf3 := blk_frozen HZ5.out 3
      have hv4 : w5.cell? ⟨w.heap.size, 4, none⟩ = some (.int .i64 0) := (blk_cell HZ5.out 4).trans rfl
      have hf4 := blk_frozen HZ5.out 4
      have hv5 : w5.cell? ⟨w.heap.size, 5, none⟩ = some (.int .i64 0) := (blk_cell HZ5.out 5).trans rfl
      have hf5 := blk_frozen HZ5.out 5
      go_wp2
      refine bodyPost_ret (results_ct rfl _ _ (w.heap.size) 23 #[.int .i64 (0), .int .i64 (0), .int .i64 (0), .int .i64 (0), .int .i64 (0), .int .i64 (0)] (0, 0) _ rfl (by (with_reducible repeat (first | refine blk_drewN ?_ _ | refine blk_drew ?_ | refine blk_alloc ?_ _)); refine blk_put (cs := #[.int .i64 (0), .int .i64 (0), .int .i64 (0), .int .i64 (0), .int .i64 (0), .int .i64 (0)]) ?_ 5 _ rfl; (with_reducible repeat (first | refine blk_drewN ?_ _ | refine blk_drew ?_ | refine blk_alloc ?_ _)); refine blk_put (cs := #[.int .i64 (0), .int .i64 (0), .int .i64 (0), .int .i64 (0), .int .i64 (0), .int .i64 (0)]) ?_ 4 _ rfl; (with_reducible repeat (first | refine blk_drewN ?_ _ | refine blk_drew ?_ | refine blk_alloc ?_ _)); refine blk_put (cs := #[.int .i64 (0), .int .i64 (0), .int .i64 (0), .int .i64 (0), .int .i64 (0), .int .i64 (0)]) ?_ 3 _ rfl; (with_reducible repeat (first | refine blk_drewN ?_ _ | refine blk_drew ?_ | refine blk_alloc ?_ _)); refine blk_put (cs := #[.int .i64 (0), .int .i64 (0), .int .i64 (0), .int .i64 (0), .int .i64 (0), .int .i64 (0)]) ?_ 2 _ rfl; (with_reducible repeat (first | refine blk_drewN ?_ _ | refine blk_drew ?_ | refine blk_alloc ?_ _)); refine blk_put (cs := #[.int .i64 (0), .int .i64 (0), .int .i64 (0), .int .i64 (0), .int .i64 (0), .int .i64 (0)]) ?_ 1 _ rfl; (with_reducible repeat (first | refine blk_drewN ?_ _ | refine blk_drew ?_ | refine blk_alloc ?_ _)); refine blk_put (cs := #[.int .i64 (0), .int .i64 (0), .int .i64 (0), .int .i64 (0), .int .i64 (0), .int .i64 (0)]) ?_ 0 _ rfl; (with_reducible repeat (first | refine blk_drewN ?_ _ | refine blk_drew ?_ | refine blk_alloc ?_ _)); exact HZ5.out) Tryd.underlying23 rfl (by kernel_rfl)) rfl ?_
      exact ⟨rfl, by repeat (first | (with_reducible first | exact HW5.out | apply below_alloc | apply pw_below_drewN | apply below_drew1 | refine below_set ?_ (Nat.le_refl _)) | exact HW5.out)⟩
     | true =>
      rw [if_pos rfl] at h
      obtain ⟨t, ht, h⟩ := Option.bind_eq_some_iff.mp h
      have HT := Aside0.mk ht
      clear ht
      by_cases e1 : t.toList = a0.toList
      · have d2 : (t.toList == a0.toList) = true := beq_iff_eq.mpr e1
        have d2' : (t.toList != a0.toList) = false := bne_eq_false_iff_eq.mpr e1
        rw [if_pos e1] at h
        simp only [Option.some.injEq, Prod.mk.injEq] at h
        obtain ⟨rfl, rfl, rfl, rfl, rfl, rfl, rfl⟩ := h
        clear e1
        go_upto_region 6 with (first | (go_at_call 10; (with_reducible refine (montageref41_May.calls k n1 n2 n3 n4 n5 n6 true _ HM.out).mono ?_); rintro e w5 ⟨rfl, hb⟩; have HB5 := Aside0.mk hb; clear hb; have HN5 : Aside0 (w5.heap[w2.heap.size]? = some (.cells #[.int .i64 n1, .int .i64 n2, .int .i64 n3, .int .i64 n4, .int .i64 n5, .int .i64 n6] 23 (0, 0))) := ⟨(HB5.out.block _ (blk_lt HNc.out)).trans HNc.out⟩; have HZ5 : Aside0 (w5.heap[w.heap.size]? = some (.cells #[.int .i64 0, .int .i64 0, .int .i64 0, .int .i64 0, .int .i64 0, .int .i64 0] 23 (0, 0))) := ⟨(HB5.out.block _ HLc.out).trans HZc.out⟩; have HW5 : Aside0 (Below w.heap.size w w5) := ⟨HWc.out.trans (HB5.out.mono (Nat.le_of_lt HLc.out))⟩; have hy0 : w5.cell? ⟨w2.heap.size, 0, none⟩ = some (.int .i64 n1) := (blk_cell HN5.out 0).trans rfl; have hy1 : w5.cell? ⟨w2.heap.size, 1, none⟩ = some (.int .i64 n2) := (blk_cell HN5.out 1).trans rfl; have hy2 : w5.cell? ⟨w2.heap.size, 2, none⟩ = some (.int .i64 n3) := (blk_cell HN5.out 2).trans rfl; have hy3 : w5.cell? ⟨w2.heap.size, 3, none⟩ = some (.int .i64 n4) := (blk_cell HN5.out 3).trans rfl; have hy4 : w5.cell? ⟨w2.heap.size, 4, none⟩ = some (.int .i64 n5) := (blk_cell HN5.out 4).trans rfl; have hy5 : w5.cell? ⟨w2.heap.size, 5, none⟩ = some (.int .i64 n6) := (blk_cell HN5.out 5).trans rfl) | (go_at_call 13; (with_reducible refine (montageref41_Text.calls k n1 n2 n3 n4 n5 n6 t _ HT.out).mono ?_); rintro e w6 ⟨rfl, hb⟩; have HB6 := Aside0.mk hb; clear hb; have HN6 : Aside0 (w6.heap[w2.heap.size]? = some (.cells #[.int .i64 n1, .int .i64 n2, .int .i64 n3, .int .i64 n4, .int .i64 n5, .int .i64 n6] 23 (0, 0))) := ⟨(HB6.out.block _ (blk_lt HN5.out)).trans HN5.out⟩; have HZ6 : Aside0 (w6.heap[w.heap.size]? = some (.cells #[.int .i64 0, .int .i64 0, .int .i64 0, .int .i64 0, .int .i64 0, .int .i64 0] 23 (0, 0))) := ⟨(HB6.out.block _ (blk_lt HZ5.out)).trans HZ5.out⟩; have HW6 : Aside0 (Below w.heap.size w w6) := ⟨HW5.out.trans (HB6.out.mono HW5.out.size)⟩; have hx0 : w6.cell? ⟨w2.heap.size, 0, none⟩ = some (.int .i64 n1) := (blk_cell HN6.out 0).trans rfl; have hx1 : w6.cell? ⟨w2.heap.size, 1, none⟩ = some (.int .i64 n2) := (blk_cell HN6.out 1).trans rfl; have hx2 : w6.cell? ⟨w2.heap.size, 2, none⟩ = some (.int .i64 n3) := (blk_cell HN6.out 2).trans rfl; have hx3 : w6.cell? ⟨w2.heap.size, 3, none⟩ = some (.int .i64 n4) := (blk_cell HN6.out 3).trans rfl; have hx4 : w6.cell? ⟨w2.heap.size, 4, none⟩ = some (.int .i64 n5) := (blk_cell HN6.out 4).trans rfl; have hx5 : w6.cell? ⟨w2.heap.size, 5, none⟩ = some (.int .i64 n6) := (blk_cell HN6.out 5).trans rfl))
        have hv0 : w6.cell? ⟨w.heap.size, 0, none⟩ = some (.int .i64 0) := (blk_cell HZ6.out 0).trans rfl
        have hf0 := blk_frozen HZ6.out 0
        have hv1 : w6.cell? ⟨w.heap.size, 1, none⟩ = some (.int .i64 0) := (blk_cell HZ6.out 1).trans rfl
        have hf1 := blk_frozen HZ6.out 1
        have hv2 : w6.cell? ⟨w.heap.size, 2, none⟩ = some (.int .i64 0) := (blk_cell HZ6.out 2).trans rfl
        have hf2 := blk_frozen HZ6.out 2
        have hv3 : w6.cell? ⟨w.heap.size, 3, none⟩ = some (.int .i64 0) := (blk_cell HZ6.out 3).trans rfl
        have hf3 := blk_frozen HZ6.out 3
        have hv4 : w6.cell? ⟨w.heap.size, 4, none⟩ = some (.int .i64 0) := (blk_cell HZ6.out 4).trans rfl
        have hf4 := blk_frozen HZ6.out 4
        have hv5 : w6.cell? ⟨w.heap.size, 5, none⟩ = some (.int .i64 0) := (blk_cell HZ6.out 5).trans rfl
        have hf5 := blk_frozen HZ6.out 5
        go_wp2
        refine bodyPost_ret (results_ct rfl _ _ (w.heap.size) 23 #[.int .i64 (n1), .int .i64 (n2), .int .i64 (n3), .int .i64 (n4), .int .i64 (n5), .int .i64 (n6)] (0, 0) _ rfl (by (with_reducible repeat (first | refine blk_drewN ?_ _ | refine blk_drew ?_ | refine blk_alloc ?_ _)); refine blk_put (cs := #[.int .i64 (n1), .int .i64 (n2), .int .i64 (n3), .int .i64 (n4), .int .i64 (n5), .int .i64 (0)]) ?_ 5 _ rfl; (with_reducible repeat (first | refine blk_drewN ?_ _ | refine blk_drew ?_ | refine blk_alloc ?_ _)); refine blk_put (cs := #[.int .i64 (n1), .int .i64 (n2), .int .i64 (n3), .int .i64 (n4), .int .i64 (0), .int .i64 (0)]) ?_ 4 _ rfl; (with_reducible repeat (first | refine blk_drewN ?_ _ | refine blk_drew ?_ | refine blk_alloc ?_ _)); refine blk_put (cs := #[.int .i64 (n1), .int .i64 (n2), .int .i64 (n3), .int .i64 (0), .int .i64 (0), .int .i64 (0)]) ?_ 3 _ rfl; (with_reducible repeat (first | refine blk_drewN ?_ _ | refine blk_drew ?_ | refine blk_alloc ?_ _)); refine blk_put (cs := #[.int .i64 (n1), .int .i64 (n2), .int .i64 (0), .int .i64 (0), .int .i64 (0), .int .i64 (0)]) ?_ 2 _ rfl; (with_reducible repeat (first | refine blk_drewN ?_ _ | refine blk_drew ?_ | refine blk_alloc ?_ _)); refine blk_put (cs := #[.int .i64 (n1), .int .i64 (0), .int .i64 (0), .int .i64 (0), .int .i64 (0), .int .i64 (0)]) ?_ 1 _ rfl; (with_reducible repeat (first | refine blk_drewN ?_ _ | refine blk_drew ?_ | refine blk_alloc ?_ _)); refine blk_put (cs := #[.int .i64 (0), .int .i64 (0), .int .i64 (0), .int .i64 (0), .int .i64 (0), .int .i64 (0)]) ?_ 0 _ rfl; (with_reducible repeat (first | refine blk_drewN ?_ _ | refine blk_drew ?_ | refine blk_alloc ?_ _)); exact HZ6.out) Tryd.underlying23 rfl (by kernel_rfl)) rfl ?_
        exact ⟨rfl, by repeat (first | (with_reducible first | exact HW6.out | apply below_alloc | apply pw_below_drewN | apply below_drew1 | refine below_set ?_ (Nat.le_refl _)) | exact HW6.out)⟩
      · have d2 : (t.toList == a0.toList) = false := beq_eq_false_iff_ne.mpr e1
        have d2' : (t.toList != a0.toList) = true := bne_iff_ne.mpr e1
        rw [if_neg e1] at h
        obtain ⟨rfl, rfl, rfl, rfl, rfl, rfl, rfl⟩ : (0 : Int) = r1 ∧ (0 : Int) = r2 ∧ (0 : Int) = r3 ∧ (0 : Int) = r4 ∧ (0 : Int) = r5 ∧ (0 : Int) = r6 ∧ (2 : Int) = r7 := by simp only [Option.some.injEq, Prod.mk.injEq] at h; exact h
        clear h e1
        go_upto_region 5 with (first | (go_at_call 10; (with_reducible refine (montageref41_May.calls k n1 n2 n3 n4 n5 n6 true _ HM.out).mono ?_); rintro e w5 ⟨rfl, hb⟩; have HB5 := Aside0.mk hb; clear hb; have HN5 : Aside0 (w5.heap[w2.heap.size]? = some (.cells #[.int .i64 n1, .int .i64 n2, .int .i64 n3, .int .i64 n4, .int .i64 n5, .int .i64 n6] 23 (0, 0))) := ⟨(HB5.out.block _ (blk_lt HNc.out)).trans HNc.out⟩; have HZ5 : Aside0 (w5.heap[w.heap.size]? = some (.cells #[.int .i64 0, .int .i64 0, .int .i64 0, .int .i64 0, .int .i64 0, .int .i64 0] 23 (0, 0))) := ⟨(HB5.out.block _ HLc.out).trans HZc.out⟩; have HW5 : Aside0 (Below w.heap.size w w5) := ⟨HWc.out.trans (HB5.out.mono (Nat.le_of_lt HLc.out))⟩; have hy0 : w5.cell? ⟨w2.heap.size, 0, none⟩ = some (.int .i64 n1) := (blk_cell HN5.out 0).trans rfl; have hy1 : w5.cell? ⟨w2.heap.size, 1, none⟩ = some (.int .i64 n2) := (blk_cell HN5.out 1).trans rfl; have hy2 : w5.cell? ⟨w2.heap.size, 2, none⟩ = some (.int .i64 n3) := (blk_cell HN5.out 2).trans rfl; have hy3 : w5.cell? ⟨w2.heap.size, 3, none⟩ = some (.int .i64 n4) := (blk_cell HN5.out 3).trans rfl; have hy4 : w5.cell? ⟨w2.heap.size, 4, none⟩ = some (.int .i64 n5) := (blk_cell HN5.out 4).trans rfl; have hy5 : w5.cell? ⟨w2.heap.size, 5, none⟩ = some (.int .i64 n6) := (blk_cell HN5.out 5).trans rfl) | (go_at_call 13; (with_reducible refine (montageref41_Text.calls k n1 n2 n3 n4 n5 n6 t _ HT.out).mono ?_); rintro e w6 ⟨rfl, hb⟩; have HB6 := Aside0.mk hb; clear hb; have HN6 : Aside0 (w6.heap[w2.heap.size]? = some (.cells #[.int .i64 n1, .int .i64 n2, .int .i64 n3, .int .i64 n4, .int .i64 n5, .int .i64 n6] 23 (0, 0))) := ⟨(HB6.out.block _ (blk_lt HN5.out)).trans HN5.out⟩; have HZ6 : Aside0 (w6.heap[w.heap.size]? = some (.cells #[.int .i64 0, .int .i64 0, .int .i64 0, .int .i64 0, .int .i64 0, .int .i64 0] 23 (0, 0))) := ⟨(HB6.out.block _ (blk_lt HZ5.out)).trans HZ5.out⟩; have HW6 : Aside0 (Below w.heap.size w w6) := ⟨HW5.out.trans (HB6.out.mono HW5.out.size)⟩; have hx0 : w6.cell? ⟨w2.heap.size, 0, none⟩ = some (.int .i64 n1) := (blk_cell HN6.out 0).trans rfl; have hx1 : w6.cell? ⟨w2.heap.size, 1, none⟩ = some (.int .i64 n2) := (blk_cell HN6.out 1).trans rfl; have hx2 : w6.cell? ⟨w2.heap.size, 2, none⟩ = some (.int .i64 n3) := (blk_cell HN6.out 2).trans rfl; have hx3 : w6.cell? ⟨w2.heap.size, 3, none⟩ = some (.int .i64 n4) := (blk_cell HN6.out 3).trans rfl; have hx4 : w6.cell? ⟨w2.heap.size, 4, none⟩ = some (.int .i64 n5) := (blk_cell HN6.out 4).trans rfl; have hx5 : w6.cell? ⟨w2.heap.size, 5, none⟩ = some (.int .i64 n6) := (blk_cell HN6.out 5).trans rfl))
        have hv0 : w6.cell? ⟨w.heap.size, 0, none⟩ = some (.int .i64 0) := (blk_cell HZ6.out 0).trans rfl
        have hf0 := blk_frozen HZ6.out 0
        have hv1 : w6.cell? ⟨w.heap.size, 1, none⟩ = some (.int .i64 0) := (blk_cell HZ6.out 1).trans rfl
        have hf1 := blk_frozen HZ6.out 1
        have hv2 : w6.cell? ⟨w.heap.size, 2, none⟩ = some (.int .i64 0) := (blk_cell HZ6.out 2).trans rfl
        have hf2 := blk_frozen HZ6.out 2
        have hv3 : w6.cell? ⟨w.heap.size, 3, none⟩ = some (.int .i64 0) := (blk_cell HZ6.out 3).trans rfl
        have hf3 := blk_frozen HZ6.out 3
        have hv4 : w6.cell? ⟨w.heap.size, 4, none⟩ = some (.int .i64 0) := (blk_cell HZ6.out 4).trans rfl
        have hf4 := blk_frozen HZ6.out 4
        have hv5 : w6.cell? ⟨w.heap.size, 5, none⟩ = some (.int .i64 0) := (blk_cell HZ6.out 5).trans rfl
        have hf5 := blk_frozen HZ6.out 5
        go_wp2
        refine bodyPost_ret (results_ct rfl _ _ (w.heap.size) 23 #[.int .i64 (0), .int .i64 (0), .int .i64 (0), .int .i64 (0), .int .i64 (0), .int .i64 (0)] (0, 0) _ rfl (by (with_reducible repeat (first | refine blk_drewN ?_ _ | refine blk_drew ?_ | refine blk_alloc ?_ _)); refine blk_put (cs := #[.int .i64 (0), .int .i64 (0), .int .i64 (0), .int .i64 (0), .int .i64 (0), .int .i64 (0)]) ?_ 5 _ rfl; (with_reducible repeat (first | refine blk_drewN ?_ _ | refine blk_drew ?_ | refine blk_alloc ?_ _)); refine blk_put (cs := #[.int .i64 (0), .int .i64 (0), .int .i64 (0), .int .i64 (0), .int .i64 (0), .int .i64 (0)]) ?_ 4 _ rfl; (with_reducible repeat (first | refine blk_drewN ?_ _ | refine blk_drew ?_ | refine blk_alloc ?_ _)); refine blk_put (cs := #[.int .i64 (0), .int .i64 (0), .int .i64 (0), .int .i64 (0), .int .i64 (0), .int .i64 (0)]) ?_ 3 _ rfl; (with_reducible repeat (first | refine blk_drewN ?_ _ | refine blk_drew ?_ | refine blk_alloc ?_ _)); refine blk_put (cs := #[.int .i64 (0), .int .i64 (0), .int .i64 (0), .int .i64 (0), .int .i64 (0), .int .i64 (0)]) ?_ 2 _ rfl; (with_reducible repeat (first | refine blk_drewN ?_ _ | refine blk_drew ?_ | refine blk_alloc ?_ _)); refine blk_put (cs := #[.int .i64 (0), .int .i64 (0), .int .i64 (0), .int .i64 (0), .int .i64 (0), .int .i64 (0)]) ?_ 1 _ rfl; (with_reducible repeat (first | refine blk_drewN ?_ _ | refine blk_drew ?_ | refine blk_alloc ?_ _)); refine blk_put (cs := #[.int .i64 (0), .int .i64 (0), .int .i64 (0), .int .i64 (0), .int .i64 (0), .int .i64 (0)]) ?_ 0 _ rfl; (with_reducible repeat (first | refine blk_drewN ?_ _ | refine blk_drew ?_ | refine blk_alloc ?_ _)); exact HZ6.out) Tryd.underlying23 rfl (by kernel_rfl)) rfl ?_
        exact ⟨rfl, by repeat (first | (with_reducible first | exact HW6.out | apply below_alloc | apply pw_below_drewN | apply below_drew1 | refine below_set ?_ (Nat.le_refl _)) | exact HW6.out)⟩
  · rw [if_neg hs] at h
    have d0 : ((a0.size : Int) != 19) = true := bne_iff_ne.mpr (by omega)
    obtain ⟨rfl, rfl, rfl, rfl, rfl, rfl, rfl⟩ : (0 : Int) = r1 ∧ (0 : Int) = r2 ∧ (0 : Int) = r3 ∧ (0 : Int) = r4 ∧ (0 : Int) = r5 ∧ (0 : Int) = r6 ∧ (2 : Int) = r7 := by simp only [Option.some.injEq, Prod.mk.injEq] at h; exact h
    clear h hs
    go_enter Tryd.func19, Tryd.ntmps19
    go_upto_region 1 with (fail)
    have hw2 : ∃ w2 : World, w2 = w.alloc (.cells #[.int .i64 0, .int .i64 0, .int .i64 0, .int .i64 0, .int .i64 0, .int .i64 0] 23) := ⟨_, rfl⟩
    obtain ⟨w2, hw2⟩ := hw2
    rw [← hw2]
    have HB2 : Aside0 (Below w.heap.size w w2) := ⟨by rw [hw2]; exact ((Below.refl _ w).alloc (Nat.le_refl _) _)⟩
    have HC0 : Aside0 (w2.heap[w.heap.size]? = some (.cells #[.int .i64 0, .int .i64 0, .int .i64 0, .int .i64 0, .int .i64 0, .int .i64 0] 23 (0, 0))) := ⟨by rw [hw2]; show (Array.push _ _)[w.heap.size]? = _; rw [Array.getElem?_push, if_pos rfl]⟩
    have HLT : Aside0 (w.heap.size < w2.heap.size) := ⟨by rw [hw2]; simp⟩
    clear hw2
    have hy0 : w2.cell? ⟨w.heap.size, 0, none⟩ = some (.int .i64 0) := (blk_cell HC0.out 0 |> fun _ => blk_cell HC0.out 0).trans rfl
    have hf0 := blk_frozen HC0.out 0
    have hy1 : w2.cell? ⟨w.heap.size, 1, none⟩ = some (.int .i64 0) := (blk_cell HC0.out 0 |> fun _ => blk_cell HC0.out 1).trans rfl
    have hf1 := blk_frozen HC0.out 1
    have hy2 : w2.cell? ⟨w.heap.size, 2, none⟩ = some (.int .i64 0) := (blk_cell HC0.out 0 |> fun _ => blk_cell HC0.out 2).trans rfl
    have hf2 := blk_frozen HC0.out 2
    have hy3 : w2.cell? ⟨w.heap.size, 3, none⟩ = some (.int .i64 0) := (blk_cell HC0.out 0 |> fun _ => blk_cell HC0.out 3).trans rfl
    have hf3 := blk_frozen HC0.out 3
    have hy4 : w2.cell? ⟨w.heap.size, 4, none⟩ = some (.int .i64 0) := (blk_cell HC0.out 0 |> fun _ => blk_cell HC0.out 4).trans rfl
    have hf4 := blk_frozen HC0.out 4
    have hy5 : w2.cell? ⟨w.heap.size, 5, none⟩ = some (.int .i64 0) := (blk_cell HC0.out 0 |> fun _ => blk_cell HC0.out 5).trans rfl
    have hf5 := blk_frozen HC0.out 5
    go_wp2
    refine bodyPost_ret (results_ct rfl _ _ (w.heap.size) 23 #[.int .i64 (0), .int .i64 (0), .int .i64 (0), .int .i64 (0), .int .i64 (0), .int .i64 (0)] (0, 0) _ rfl (by (with_reducible repeat (first | refine blk_drewN ?_ _ | refine blk_drew ?_ | refine blk_alloc ?_ _)); refine blk_put (cs := #[.int .i64 (0), .int .i64 (0), .int .i64 (0), .int .i64 (0), .int .i64 (0), .int .i64 (0)]) ?_ 5 _ rfl; (with_reducible repeat (first | refine blk_drewN ?_ _ | refine blk_drew ?_ | refine blk_alloc ?_ _)); refine blk_put (cs := #[.int .i64 (0), .int .i64 (0), .int .i64 (0), .int .i64 (0), .int .i64 (0), .int .i64 (0)]) ?_ 4 _ rfl; (with_reducible repeat (first | refine blk_drewN ?_ _ | refine blk_drew ?_ | refine blk_alloc ?_ _)); refine blk_put (cs := #[.int .i64 (0), .int .i64 (0), .int .i64 (0), .int .i64 (0), .int .i64 (0), .int .i64 (0)]) ?_ 3 _ rfl; (with_reducible repeat (first | refine blk_drewN ?_ _ | refine blk_drew ?_ | refine blk_alloc ?_ _)); refine blk_put (cs := #[.int .i64 (0), .int .i64 (0), .int .i64 (0), .int .i64 (0), .int .i64 (0), .int .i64 (0)]) ?_ 2 _ rfl; (with_reducible repeat (first | refine blk_drewN ?_ _ | refine blk_drew ?_ | refine blk_alloc ?_ _)); refine blk_put (cs := #[.int .i64 (0), .int .i64 (0), .int .i64 (0), .int .i64 (0), .int .i64 (0), .int .i64 (0)]) ?_ 1 _ rfl; (with_reducible repeat (first | refine blk_drewN ?_ _ | refine blk_drew ?_ | refine blk_alloc ?_ _)); refine blk_put (cs := #[.int .i64 (0), .int .i64 (0), .int .i64 (0), .int .i64 (0), .int .i64 (0), .int .i64 (0)]) ?_ 0 _ rfl; (with_reducible repeat (first | refine blk_drewN ?_ _ | refine blk_drew ?_ | refine blk_alloc ?_ _)); exact HC0.out) Tryd.underlying23 rfl (by kernel_rfl)) rfl ?_
    exact ⟨rfl, by repeat (first | (with_reducible first | exact HB2.out | apply below_alloc | apply pw_below_drewN | apply below_drew1 | refine below_set ?_ (Nat.le_refl _)) | exact HB2.out)⟩


-- NOT PRINTED: function 5 (montagelaw41_ClockSeconds)

end Go.Proofs.YtodeagijmfoojaaDoor.PClock
