-- Written by wip/xprint of this repo (not trusted: Lean checks it).
import Derived.Test.YtodeagijmfoojaaDoorPClockx4
import Derived.Test.YtodeagijmfoojaaDoorPClockx5
import Derived.Test.YtodeagijmfoojaaDoorPClockx7
import Derived.Test.YtodeagijmfoojaaDoorPClockx8
namespace Go.Proofs.YtodeagijmfoojaaDoor.PClock
open Go.RowKit Go.Proofs.YtodeagijmfoojaaDoorW.PrintWords Go.Proofs.YtodeagijmfoojaaDoorW.PrintLast Go.Proofs.YtodeagijmfoojaaDoorW.PrintMore
attribute [local go_sem] max2_int min2_int max_two min_two max_three min_three max_four min_four   -- for this text's walks alone
set_option linter.unusedVariables false
set_option linter.unusedSimpArgs false

attribute [local go_sem high] eqA23
/-! ### montagelaw41_ClockSeconds: function 5 -/
mutual
def montagelaw41_ClockSeconds.j0 : Nat → Int → Bool → Int → Int → Int → Int → Int → Int → Int → Int → Option (Bool)
  | 0, _, _, _, _, _, _, _, _, _, _ => none
  | k + 1, x6, x63, x175000, x175001, x184000, x184001, x184002, x184003, x184004, x184005 => if x63 = true then (some false) else ((clock_At.f k x175001).bind fun bt208 => (if x6 = 0 then (montagelaw41_ClockSeconds.j1 k (bt208.2.2.2.2.2.2 != 0) x175000 x175001 x184000 x184001 x184002 x184003 x184004 x184005 bt208.1 bt208.2.1 bt208.2.2.1 bt208.2.2.2.1 bt208.2.2.2.2.1 bt208.2.2.2.2.2.1) else (montagelaw41_ClockSeconds.j1 k true x175000 x175001 x184000 x184001 x184002 x184003 x184004 x184005 bt208.1 bt208.2.1 bt208.2.2.1 bt208.2.2.2.1 bt208.2.2.2.2.1 bt208.2.2.2.2.2.1)))
def montagelaw41_ClockSeconds.j1 : Nat → Bool → Int → Int → Int → Int → Int → Int → Int → Int → Int → Int → Int → Int → Int → Int → Option (Bool)
  | 0, _, _, _, _, _, _, _, _, _, _, _, _, _, _, _ => none
  | k + 1, x75, x175000, x175001, x184000, x184001, x184002, x184003, x184004, x184005, x216000, x216001, x216002, x216003, x216004, x216005 => if x75 = true then (some true) else ((clock_Put.f k x184000 x184001 x184002 x184003 x184004 x184005).bind fun bt216 => ((clock_Put.f k x216000 x216001 x216002 x216003 x216004 x216005).bind fun bt218 => (some ((decide ((wrap64 (Int.tdiv x175000 2)) < (wrap64 (Int.tdiv x175001 2)))) == (decide (bt216.1 < bt218.1))))))
end
def montagelaw41_ClockSeconds.f (k : Nat) (a0_0 : Int) (a0_1 : Int) (a1 : ByteArray) : Option (Bool) := (montagelaw41_awake.f k).bind fun t175 => (if t175 = true then (if (a1.size : Int) > 30 then (some true) else ((clock_At.f k a0_0).bind fun bt176 => ((montageref41_At.f k a0_0).bind fun bt184 => ((clock_Parse.f k a1).bind fun bt192 => ((montageref41_Parse.f k a1).bind fun bt200 => (if (!(bt176.1 == bt184.1) || (!(bt176.2.1 == bt184.2.1) || (!(bt176.2.2.1 == bt184.2.2.1) || (!(bt176.2.2.2.1 == bt184.2.2.2.1) || (!(bt176.2.2.2.2.1 == bt184.2.2.2.2.1) || (!(bt176.2.2.2.2.2.1 == bt184.2.2.2.2.2.1))))))) = true then (montagelaw41_ClockSeconds.j0 k bt176.2.2.2.2.2.2 true a0_0 a0_1 bt176.1 bt176.2.1 bt176.2.2.1 bt176.2.2.2.1 bt176.2.2.2.2.1 bt176.2.2.2.2.2.1) else (if bt176.2.2.2.2.2.2 = bt184.2.2.2.2.2.2 then (if (!(bt192.1 == bt200.1) || (!(bt192.2.1 == bt200.2.1) || (!(bt192.2.2.1 == bt200.2.2.1) || (!(bt192.2.2.2.1 == bt200.2.2.2.1) || (!(bt192.2.2.2.2.1 == bt200.2.2.2.2.1) || (!(bt192.2.2.2.2.2.1 == bt200.2.2.2.2.2.1))))))) = true then (montagelaw41_ClockSeconds.j0 k bt176.2.2.2.2.2.2 true a0_0 a0_1 bt176.1 bt176.2.1 bt176.2.2.1 bt176.2.2.2.1 bt176.2.2.2.2.1 bt176.2.2.2.2.2.1) else (montagelaw41_ClockSeconds.j0 k bt176.2.2.2.2.2.2 (bt192.2.2.2.2.2.2 != bt200.2.2.2.2.2.2) a0_0 a0_1 bt176.1 bt176.2.1 bt176.2.2.1 bt176.2.2.2.1 bt176.2.2.2.2.1 bt176.2.2.2.2.2.1)) else (montagelaw41_ClockSeconds.j0 k bt176.2.2.2.2.2.2 true a0_0 a0_1 bt176.1 bt176.2.1 bt176.2.2.1 bt176.2.2.2.1 bt176.2.2.2.2.1 bt176.2.2.2.2.2.1)))))))) else (some false))
theorem montagelaw41_ClockSeconds.mono_l : ∀ k, (∀ y0 y1 y2 y3 y4 y5 y6 y7 y8 y9, LeO (montagelaw41_ClockSeconds.j0 k y0 y1 y2 y3 y4 y5 y6 y7 y8 y9) (montagelaw41_ClockSeconds.j0 (k + 1) y0 y1 y2 y3 y4 y5 y6 y7 y8 y9)) ∧ (∀ y0 y1 y2 y3 y4 y5 y6 y7 y8 y9 y10 y11 y12 y13 y14, LeO (montagelaw41_ClockSeconds.j1 k y0 y1 y2 y3 y4 y5 y6 y7 y8 y9 y10 y11 y12 y13 y14) (montagelaw41_ClockSeconds.j1 (k + 1) y0 y1 y2 y3 y4 y5 y6 y7 y8 y9 y10 y11 y12 y13 y14))
  | 0 => ⟨fun _ _ _ _ _ _ _ _ _ _ r h => by simp [montagelaw41_ClockSeconds.j0] at h, fun _ _ _ _ _ _ _ _ _ _ _ _ _ _ _ r h => by simp [montagelaw41_ClockSeconds.j1] at h⟩
  | k + 1 => by
    obtain ⟨ih0, ih1⟩ := montagelaw41_ClockSeconds.mono_l k
    refine ⟨?_, ?_⟩
    · intro y0 y1 y2 y3 y4 y5 y6 y7 y8 y9
      unfold montagelaw41_ClockSeconds.j0
      repeat' first
      | (with_reducible exact ih0 _ _ _ _ _ _ _ _ _ _)
      | (with_reducible exact ih1 _ _ _ _ _ _ _ _ _ _ _ _ _ _ _)
      | (with_reducible exact clock_At.mono _ _)
      | (with_reducible exact clock_Parse.mono _ _)
      | (with_reducible exact clock_Put.mono _ _ _ _ _ _ _)
      | (with_reducible exact montagelaw41_awake.mono _)
      | (with_reducible exact montageref41_At.mono _ _)
      | (with_reducible exact montageref41_Parse.mono _ _)
      | (with_reducible exact LeO.refl _)
      | (with_reducible exact LeO.none _)
      | (with_reducible refine LeO.ite ?_ ?_)
      | (with_reducible refine LeO.bind ?_ (fun _ => ?_))
      | exact ih0 _ _ _ _ _ _ _ _ _ _
      | exact ih1 _ _ _ _ _ _ _ _ _ _ _ _ _ _ _
      | exact clock_At.mono _ _
      | exact clock_Parse.mono _ _
      | exact clock_Put.mono _ _ _ _ _ _ _
      | exact montagelaw41_awake.mono _
      | exact montageref41_At.mono _ _
      | exact montageref41_Parse.mono _ _
      | exact LeO.none _
      | refine LeO.ite ?_ ?_
      | refine LeO.bind ?_ (fun _ => ?_)
    · intro y0 y1 y2 y3 y4 y5 y6 y7 y8 y9 y10 y11 y12 y13 y14
      unfold montagelaw41_ClockSeconds.j1
      repeat' first
      | (with_reducible exact ih0 _ _ _ _ _ _ _ _ _ _)
      | (with_reducible exact ih1 _ _ _ _ _ _ _ _ _ _ _ _ _ _ _)
      | (with_reducible exact clock_At.mono _ _)
      | (with_reducible exact clock_Parse.mono _ _)
      | (with_reducible exact clock_Put.mono _ _ _ _ _ _ _)
      | (with_reducible exact montagelaw41_awake.mono _)
      | (with_reducible exact montageref41_At.mono _ _)
      | (with_reducible exact montageref41_Parse.mono _ _)
      | (with_reducible exact LeO.refl _)
      | (with_reducible exact LeO.none _)
      | (with_reducible refine LeO.ite ?_ ?_)
      | (with_reducible refine LeO.bind ?_ (fun _ => ?_))
      | exact ih0 _ _ _ _ _ _ _ _ _ _
      | exact ih1 _ _ _ _ _ _ _ _ _ _ _ _ _ _ _
      | exact clock_At.mono _ _
      | exact clock_Parse.mono _ _
      | exact clock_Put.mono _ _ _ _ _ _ _
      | exact montagelaw41_awake.mono _
      | exact montageref41_At.mono _ _
      | exact montageref41_Parse.mono _ _
      | exact LeO.none _
      | refine LeO.ite ?_ ?_
      | refine LeO.bind ?_ (fun _ => ?_)
theorem montagelaw41_ClockSeconds.mono : ∀ a0 a1 a2 k, LeO (montagelaw41_ClockSeconds.f k a0 a1 a2) (montagelaw41_ClockSeconds.f (k + 1) a0 a1 a2) := by
  intro a0 a1 a2 k
  obtain ⟨ih0, ih1⟩ := montagelaw41_ClockSeconds.mono_l k
  unfold montagelaw41_ClockSeconds.f
  repeat' first
      | (with_reducible exact ih0 _ _ _ _ _ _ _ _ _ _)
      | (with_reducible exact ih1 _ _ _ _ _ _ _ _ _ _ _ _ _ _ _)
      | (with_reducible exact clock_At.mono _ _)
      | (with_reducible exact clock_Parse.mono _ _)
      | (with_reducible exact clock_Put.mono _ _ _ _ _ _ _)
      | (with_reducible exact montagelaw41_awake.mono _)
      | (with_reducible exact montageref41_At.mono _ _)
      | (with_reducible exact montageref41_Parse.mono _ _)
      | (with_reducible exact LeO.refl _)
      | (with_reducible exact LeO.none _)
      | (with_reducible refine LeO.ite ?_ ?_)
      | (with_reducible refine LeO.bind ?_ (fun _ => ?_))
      | exact ih0 _ _ _ _ _ _ _ _ _ _
      | exact ih1 _ _ _ _ _ _ _ _ _ _ _ _ _ _ _
      | exact clock_At.mono _ _
      | exact clock_Parse.mono _ _
      | exact clock_Put.mono _ _ _ _ _ _ _
      | exact montagelaw41_awake.mono _
      | exact montageref41_At.mono _ _
      | exact montageref41_Parse.mono _ _
      | exact LeO.none _
      | refine LeO.ite ?_ ?_
      | refine LeO.bind ?_ (fun _ => ?_)
set_option maxHeartbeats 8000000 in
set_option maxRecDepth 100000 in
theorem montagelaw41_ClockSeconds.calls (k : Nat) (a0_0 : Int) (a0_1 : Int) (a1 : ByteArray) (r : Bool) (w : World) (hG : Good w) (h : montagelaw41_ClockSeconds.f k a0_0 a0_1 a1 = some r) (hr_ : r = true) :
    Calls Tryd.prog 5 #[.agg #[.int .i64 a0_0, .int .i64 a0_1], .string a1] w fun e w' => e = .returned (.bool r) ∧ Below w.heap.size w w' := by
  have hu39 := Tryd.underlying39
  have hu23 := Tryd.underlying23
  have HB := Aside0.mk (Below.refl w.heap.size w)
  have HG := Aside0.mk hG
  clear hG
  have H : ((montagelaw41_awake.f k).bind fun t175 => (if t175 = true then (if (a1.size : Int) > 30 then (some true) else ((clock_At.f k a0_0).bind fun bt176 => ((montageref41_At.f k a0_0).bind fun bt184 => ((clock_Parse.f k a1).bind fun bt192 => ((montageref41_Parse.f k a1).bind fun bt200 => (if (!(bt176.1 == bt184.1) || (!(bt176.2.1 == bt184.2.1) || (!(bt176.2.2.1 == bt184.2.2.1) || (!(bt176.2.2.2.1 == bt184.2.2.2.1) || (!(bt176.2.2.2.2.1 == bt184.2.2.2.2.1) || (!(bt176.2.2.2.2.2.1 == bt184.2.2.2.2.2.1))))))) = true then (montagelaw41_ClockSeconds.j0 k bt176.2.2.2.2.2.2 true a0_0 a0_1 bt176.1 bt176.2.1 bt176.2.2.1 bt176.2.2.2.1 bt176.2.2.2.2.1 bt176.2.2.2.2.2.1) else (if bt176.2.2.2.2.2.2 = bt184.2.2.2.2.2.2 then (if (!(bt192.1 == bt200.1) || (!(bt192.2.1 == bt200.2.1) || (!(bt192.2.2.1 == bt200.2.2.1) || (!(bt192.2.2.2.1 == bt200.2.2.2.1) || (!(bt192.2.2.2.2.1 == bt200.2.2.2.2.1) || (!(bt192.2.2.2.2.2.1 == bt200.2.2.2.2.2.1))))))) = true then (montagelaw41_ClockSeconds.j0 k bt176.2.2.2.2.2.2 true a0_0 a0_1 bt176.1 bt176.2.1 bt176.2.2.1 bt176.2.2.2.1 bt176.2.2.2.2.1 bt176.2.2.2.2.2.1) else (montagelaw41_ClockSeconds.j0 k bt176.2.2.2.2.2.2 (bt192.2.2.2.2.2.2 != bt200.2.2.2.2.2.2) a0_0 a0_1 bt176.1 bt176.2.1 bt176.2.2.1 bt176.2.2.2.1 bt176.2.2.2.2.1 bt176.2.2.2.2.2.1)) else (montagelaw41_ClockSeconds.j0 k bt176.2.2.2.2.2.2 true a0_0 a0_1 bt176.1 bt176.2.1 bt176.2.2.1 bt176.2.2.2.1 bt176.2.2.2.2.1 bt176.2.2.2.2.2.1)))))))) else (some false))) = some r := h
  clear h
  replace H := Option.bind_eq_some_iff.mp H
  obtain ⟨t175, A30, H⟩ := H
  replace H : (if t175 = true then (if (a1.size : Int) > 30 then (some true) else ((clock_At.f k a0_0).bind fun bt176 => ((montageref41_At.f k a0_0).bind fun bt184 => ((clock_Parse.f k a1).bind fun bt192 => ((montageref41_Parse.f k a1).bind fun bt200 => (if (!(bt176.1 == bt184.1) || (!(bt176.2.1 == bt184.2.1) || (!(bt176.2.2.1 == bt184.2.2.1) || (!(bt176.2.2.2.1 == bt184.2.2.2.1) || (!(bt176.2.2.2.2.1 == bt184.2.2.2.2.1) || (!(bt176.2.2.2.2.2.1 == bt184.2.2.2.2.2.1))))))) = true then (montagelaw41_ClockSeconds.j0 k bt176.2.2.2.2.2.2 true a0_0 a0_1 bt176.1 bt176.2.1 bt176.2.2.1 bt176.2.2.2.1 bt176.2.2.2.2.1 bt176.2.2.2.2.2.1) else (if bt176.2.2.2.2.2.2 = bt184.2.2.2.2.2.2 then (if (!(bt192.1 == bt200.1) || (!(bt192.2.1 == bt200.2.1) || (!(bt192.2.2.1 == bt200.2.2.1) || (!(bt192.2.2.2.1 == bt200.2.2.2.1) || (!(bt192.2.2.2.2.1 == bt200.2.2.2.2.1) || (!(bt192.2.2.2.2.2.1 == bt200.2.2.2.2.2.1))))))) = true then (montagelaw41_ClockSeconds.j0 k bt176.2.2.2.2.2.2 true a0_0 a0_1 bt176.1 bt176.2.1 bt176.2.2.1 bt176.2.2.2.1 bt176.2.2.2.2.1 bt176.2.2.2.2.2.1) else (montagelaw41_ClockSeconds.j0 k bt176.2.2.2.2.2.2 (bt192.2.2.2.2.2.2 != bt200.2.2.2.2.2.2) a0_0 a0_1 bt176.1 bt176.2.1 bt176.2.2.1 bt176.2.2.2.1 bt176.2.2.2.2.1 bt176.2.2.2.2.2.1)) else (montagelaw41_ClockSeconds.j0 k bt176.2.2.2.2.2.2 true a0_0 a0_1 bt176.1 bt176.2.1 bt176.2.2.1 bt176.2.2.2.1 bt176.2.2.2.2.1 bt176.2.2.2.2.2.1)))))))) else (some false)) = some r := H
  have A3 := Aside0.mk A30
  clear A30
  by_cases c4 : t175 = true
  · subst c4
    have H1 : (if (a1.size : Int) > 30 then (some true) else ((clock_At.f k a0_0).bind fun bt176 => ((montageref41_At.f k a0_0).bind fun bt184 => ((clock_Parse.f k a1).bind fun bt192 => ((montageref41_Parse.f k a1).bind fun bt200 => (if (!(bt176.1 == bt184.1) || (!(bt176.2.1 == bt184.2.1) || (!(bt176.2.2.1 == bt184.2.2.1) || (!(bt176.2.2.2.1 == bt184.2.2.2.1) || (!(bt176.2.2.2.2.1 == bt184.2.2.2.2.1) || (!(bt176.2.2.2.2.2.1 == bt184.2.2.2.2.2.1))))))) = true then (montagelaw41_ClockSeconds.j0 k bt176.2.2.2.2.2.2 true a0_0 a0_1 bt176.1 bt176.2.1 bt176.2.2.1 bt176.2.2.2.1 bt176.2.2.2.2.1 bt176.2.2.2.2.2.1) else (if bt176.2.2.2.2.2.2 = bt184.2.2.2.2.2.2 then (if (!(bt192.1 == bt200.1) || (!(bt192.2.1 == bt200.2.1) || (!(bt192.2.2.1 == bt200.2.2.1) || (!(bt192.2.2.2.1 == bt200.2.2.2.1) || (!(bt192.2.2.2.2.1 == bt200.2.2.2.2.1) || (!(bt192.2.2.2.2.2.1 == bt200.2.2.2.2.2.1))))))) = true then (montagelaw41_ClockSeconds.j0 k bt176.2.2.2.2.2.2 true a0_0 a0_1 bt176.1 bt176.2.1 bt176.2.2.1 bt176.2.2.2.1 bt176.2.2.2.2.1 bt176.2.2.2.2.2.1) else (montagelaw41_ClockSeconds.j0 k bt176.2.2.2.2.2.2 (bt192.2.2.2.2.2.2 != bt200.2.2.2.2.2.2) a0_0 a0_1 bt176.1 bt176.2.1 bt176.2.2.1 bt176.2.2.2.1 bt176.2.2.2.2.1 bt176.2.2.2.2.2.1)) else (montagelaw41_ClockSeconds.j0 k bt176.2.2.2.2.2.2 true a0_0 a0_1 bt176.1 bt176.2.1 bt176.2.2.1 bt176.2.2.2.1 bt176.2.2.2.2.1 bt176.2.2.2.2.2.1)))))))) = some r := by rw [if_pos rfl] at H; exact H
    clear H
    have H := H1
    clear H1
    by_cases c5 : (a1.size : Int) > 30
    · rw [if_pos c5] at H
      have c5b0 : decide (30 < (a1.size : Int)) = true := decide_eq_true c5
      have c5b1 : decide (30 < a1.size) = true := decide_eq_true (by omega)
      clear c5
      obtain rfl := Option.some.inj H
      clear hr_
      go_enter Tryd.func5, Tryd.ntmps5
      go_wp2_with (first | ((with_reducible refine gate_dst (N := 2) rfl ?_); refine box_event ?hg (N := 2) ?hd (cs := #[.int .i64 a0_0, .int .i64 a0_1]) (t := 39) ?hr ?_; (case hd => rfl); (case hg => rfl); (case hr => first | (go_simp; done) | (go_simp; rfl)); intro gb174 hg w6 hbox hb; have n0_ := Aside0.mk (below_step (by repeat (first | (with_reducible first | exact HB.out | apply below_alloc | apply pw_below_drewN | apply below_drew1) | exact HB.out)) hb); have n1_ := Aside0.mk (hbox); have n2_ := Aside0.mk ((by rw [hg]; exact (below_size (by repeat (first | (with_reducible first | exact HB.out | apply below_alloc | apply pw_below_drewN | apply below_drew1) | exact HB.out))) : w.heap.size ≤ gb174)); have n3_ := Aside0.mk ((by rw [hg]; exact (below_size (by repeat (first | (with_reducible first | exact HB.out | apply below_alloc | apply pw_below_drewN | apply below_drew1) | exact HB.out))) : w.heap.size ≤ gb174)); clear HB; have HB := n0_; have BK174 := n1_; have GW174 := n2_; have GE174 := n3_; clear n0_ n1_ n2_ n3_; clear hb hbox hg) | ((with_reducible refine gate_callee (f := 6) rfl ?_); refine goesL_ (some 19) rfl rfl Tryd.func6 (by kernel_rfl) rfl #[] rfl (by (try simp only [List.map_toArray, List.map_cons, List.map_nil]); first | done | rfl | (simp only [List.length_drop, List.length_take]; rfl)) ?_; (with_reducible refine (montagelaw41_awake.calls k  true _ ?side1 A3.out).mono ?_); (case side1 => exact Good.below HG.out (by repeat (first | (with_reducible first | exact HB.out | apply below_alloc | apply pw_below_drewN | apply below_drew1 | refine below_set ?_ GE174.out) | exact HB.out))); rintro e w7 ⟨rfl, hb⟩; refine ⟨_, rfl, ?_⟩; have n0_ := Aside0.mk (blk_below (g := gb174) (o := .cells #[.int .i64 a0_0, .int .i64 a0_1] 39 (0, 0)) (by (with_reducible repeat (first | refine blk_drewN ?_ _ | refine blk_drew ?_ | refine blk_alloc ?_ _)); exact BK174.out) hb); have n1_ := Aside0.mk (below_step (by repeat (first | (with_reducible first | exact HB.out | apply below_alloc | apply pw_below_drewN | apply below_drew1 | refine below_set ?_ GE174.out) | exact HB.out)) hb); clear BK174; clear HB; have BK174 := n0_; have HB := n1_; clear n0_ n1_; (try clear hb); (try clear hb2); (try clear hk); (try clear hi)))
      go_ret
      exact ⟨by first | rfl | (simp [errW_none, errW_some] <;> rfl) | (simp [*, errW_none, errW_some] <;> rfl), by repeat (first | (with_reducible first | exact HB.out | apply below_alloc | apply pw_below_drewN | apply below_drew1 | refine below_set ?_ GE174.out) | exact HB.out)⟩
    · rw [if_neg c5] at H
      have c5b0 : decide (30 < (a1.size : Int)) = false := decide_eq_false c5
      have c5b1 : decide (30 < a1.size) = false := decide_eq_false (by omega)
      clear c5
      replace H := Option.bind_eq_some_iff.mp H
      obtain ⟨⟨t176, t177, t178, t179, t180, t181, t182⟩, A80, H⟩ := H
      replace H : ((montageref41_At.f k a0_0).bind fun bt184 => ((clock_Parse.f k a1).bind fun bt192 => ((montageref41_Parse.f k a1).bind fun bt200 => (if (!(t176 == bt184.1) || (!(t177 == bt184.2.1) || (!(t178 == bt184.2.2.1) || (!(t179 == bt184.2.2.2.1) || (!(t180 == bt184.2.2.2.2.1) || (!(t181 == bt184.2.2.2.2.2.1))))))) = true then (montagelaw41_ClockSeconds.j0 k t182 true a0_0 a0_1 t176 t177 t178 t179 t180 t181) else (if t182 = bt184.2.2.2.2.2.2 then (if (!(bt192.1 == bt200.1) || (!(bt192.2.1 == bt200.2.1) || (!(bt192.2.2.1 == bt200.2.2.1) || (!(bt192.2.2.2.1 == bt200.2.2.2.1) || (!(bt192.2.2.2.2.1 == bt200.2.2.2.2.1) || (!(bt192.2.2.2.2.2.1 == bt200.2.2.2.2.2.1))))))) = true then (montagelaw41_ClockSeconds.j0 k t182 true a0_0 a0_1 t176 t177 t178 t179 t180 t181) else (montagelaw41_ClockSeconds.j0 k t182 (bt192.2.2.2.2.2.2 != bt200.2.2.2.2.2.2) a0_0 a0_1 t176 t177 t178 t179 t180 t181)) else (montagelaw41_ClockSeconds.j0 k t182 true a0_0 a0_1 t176 t177 t178 t179 t180 t181)))))) = some r := H
      have A8 := Aside0.mk A80
      clear A80
      replace H := Option.bind_eq_some_iff.mp H
      obtain ⟨⟨t184, t185, t186, t187, t188, t189, t190⟩, A90, H⟩ := H
      replace H : ((clock_Parse.f k a1).bind fun bt192 => ((montageref41_Parse.f k a1).bind fun bt200 => (if (!(t176 == t184) || (!(t177 == t185) || (!(t178 == t186) || (!(t179 == t187) || (!(t180 == t188) || (!(t181 == t189))))))) = true then (montagelaw41_ClockSeconds.j0 k t182 true a0_0 a0_1 t176 t177 t178 t179 t180 t181) else (if t182 = t190 then (if (!(bt192.1 == bt200.1) || (!(bt192.2.1 == bt200.2.1) || (!(bt192.2.2.1 == bt200.2.2.1) || (!(bt192.2.2.2.1 == bt200.2.2.2.1) || (!(bt192.2.2.2.2.1 == bt200.2.2.2.2.1) || (!(bt192.2.2.2.2.2.1 == bt200.2.2.2.2.2.1))))))) = true then (montagelaw41_ClockSeconds.j0 k t182 true a0_0 a0_1 t176 t177 t178 t179 t180 t181) else (montagelaw41_ClockSeconds.j0 k t182 (bt192.2.2.2.2.2.2 != bt200.2.2.2.2.2.2) a0_0 a0_1 t176 t177 t178 t179 t180 t181)) else (montagelaw41_ClockSeconds.j0 k t182 true a0_0 a0_1 t176 t177 t178 t179 t180 t181))))) = some r := H
      have A9 := Aside0.mk A90
      clear A90
      replace H := Option.bind_eq_some_iff.mp H
      obtain ⟨⟨t192, t193, t194, t195, t196, t197, t198⟩, A100, H⟩ := H
      replace H : ((montageref41_Parse.f k a1).bind fun bt200 => (if (!(t176 == t184) || (!(t177 == t185) || (!(t178 == t186) || (!(t179 == t187) || (!(t180 == t188) || (!(t181 == t189))))))) = true then (montagelaw41_ClockSeconds.j0 k t182 true a0_0 a0_1 t176 t177 t178 t179 t180 t181) else (if t182 = t190 then (if (!(t192 == bt200.1) || (!(t193 == bt200.2.1) || (!(t194 == bt200.2.2.1) || (!(t195 == bt200.2.2.2.1) || (!(t196 == bt200.2.2.2.2.1) || (!(t197 == bt200.2.2.2.2.2.1))))))) = true then (montagelaw41_ClockSeconds.j0 k t182 true a0_0 a0_1 t176 t177 t178 t179 t180 t181) else (montagelaw41_ClockSeconds.j0 k t182 (t198 != bt200.2.2.2.2.2.2) a0_0 a0_1 t176 t177 t178 t179 t180 t181)) else (montagelaw41_ClockSeconds.j0 k t182 true a0_0 a0_1 t176 t177 t178 t179 t180 t181)))) = some r := H
      have A10 := Aside0.mk A100
      clear A100
      replace H := Option.bind_eq_some_iff.mp H
      obtain ⟨⟨t200, t201, t202, t203, t204, t205, t206⟩, A110, H⟩ := H
      replace H : (if (!(t176 == t184) || (!(t177 == t185) || (!(t178 == t186) || (!(t179 == t187) || (!(t180 == t188) || (!(t181 == t189))))))) = true then (montagelaw41_ClockSeconds.j0 k t182 true a0_0 a0_1 t176 t177 t178 t179 t180 t181) else (if t182 = t190 then (if (!(t192 == t200) || (!(t193 == t201) || (!(t194 == t202) || (!(t195 == t203) || (!(t196 == t204) || (!(t197 == t205))))))) = true then (montagelaw41_ClockSeconds.j0 k t182 true a0_0 a0_1 t176 t177 t178 t179 t180 t181) else (montagelaw41_ClockSeconds.j0 k t182 (t198 != t206) a0_0 a0_1 t176 t177 t178 t179 t180 t181)) else (montagelaw41_ClockSeconds.j0 k t182 true a0_0 a0_1 t176 t177 t178 t179 t180 t181))) = some r := H
      have A11 := Aside0.mk A110
      clear A110
      have HC12 := Aside0.mk H
      clear H
      go_enter Tryd.func5, Tryd.ntmps5
      go_upto_region 9 with (first | ((with_reducible refine gate_dst (N := 2) rfl ?_); refine box_event ?hg (N := 2) ?hd (cs := #[.int .i64 a0_0, .int .i64 a0_1]) (t := 39) ?hr ?_; (case hd => rfl); (case hg => rfl); (case hr => first | (go_simp; done) | (go_simp; rfl)); intro gb174 hg w13 hbox hb; have n0_ := Aside0.mk (below_step (by repeat (first | (with_reducible first | exact HB.out | apply below_alloc | apply pw_below_drewN | apply below_drew1) | exact HB.out)) hb); have n1_ := Aside0.mk (hbox); have n2_ := Aside0.mk ((by rw [hg]; exact (below_size (by repeat (first | (with_reducible first | exact HB.out | apply below_alloc | apply pw_below_drewN | apply below_drew1) | exact HB.out))) : w.heap.size ≤ gb174)); have n3_ := Aside0.mk ((by rw [hg]; exact (below_size (by repeat (first | (with_reducible first | exact HB.out | apply below_alloc | apply pw_below_drewN | apply below_drew1) | exact HB.out))) : w.heap.size ≤ gb174)); clear HB; have HB := n0_; have BK174 := n1_; have GW174 := n2_; have GE174 := n3_; clear n0_ n1_ n2_ n3_; clear hb hbox hg) | ((with_reducible refine gate_callee (f := 6) rfl ?_); refine goesL_ (some 19) rfl rfl Tryd.func6 (by kernel_rfl) rfl #[] rfl (by (try simp only [List.map_toArray, List.map_cons, List.map_nil]); first | done | rfl | (simp only [List.length_drop, List.length_take]; rfl)) ?_; (with_reducible refine (montagelaw41_awake.calls k  true _ ?side1 A3.out).mono ?_); (case side1 => exact Good.below HG.out (by repeat (first | (with_reducible first | exact HB.out | apply below_alloc | apply pw_below_drewN | apply below_drew1 | refine below_set ?_ GE174.out) | exact HB.out))); rintro e w14 ⟨rfl, hb⟩; refine ⟨_, rfl, ?_⟩; have n0_ := Aside0.mk (blk_below (g := gb174) (o := .cells #[.int .i64 a0_0, .int .i64 a0_1] 39 (0, 0)) (by (with_reducible repeat (first | refine blk_drewN ?_ _ | refine blk_drew ?_ | refine blk_alloc ?_ _)); exact BK174.out) hb); have n1_ := Aside0.mk (below_step (by repeat (first | (with_reducible first | exact HB.out | apply below_alloc | apply pw_below_drewN | apply below_drew1 | refine below_set ?_ GE174.out) | exact HB.out)) hb); clear BK174; clear HB; have BK174 := n0_; have HB := n1_; clear n0_ n1_; (try clear hb); (try clear hb2); (try clear hk); (try clear hi); have hcz15_0 : w14.cell? ⟨gb174, 0, none⟩ = some (.int .i64 a0_0) := (blk_cell BK174.out 0).trans rfl; have hcz15_1 : w14.cell? ⟨gb174, 1, none⟩ = some (.int .i64 a0_1) := (blk_cell BK174.out 1).trans rfl; have hfz15_0 := blk_frozen BK174.out 0; have hfz15_1 := blk_frozen BK174.out 1) | ((with_reducible refine gate_callee (f := 16) rfl ?_); refine goesL_ (some 27) rfl rfl Tryd.func16 (by kernel_rfl) rfl #[.int .i64 a0_0] rfl (by (try simp only [List.map_toArray, List.map_cons, List.map_nil]); first | done | rfl | (simp only [List.length_drop, List.length_take]; rfl)) ?_; (with_reducible refine (clock_At.calls k a0_0 t176 t177 t178 t179 t180 t181 t182 _ A8.out).mono ?_); rintro e w16 ⟨rfl, hb⟩; refine ⟨_, rfl, ?_⟩; have n0_ := Aside0.mk (blk_below (g := gb174) (o := .cells #[.int .i64 a0_0, .int .i64 a0_1] 39 (0, 0)) (by (with_reducible repeat (first | refine blk_drewN ?_ _ | refine blk_drew ?_ | refine blk_alloc ?_ _)); exact BK174.out) hb); have n1_ := Aside0.mk (below_step (by repeat (first | (with_reducible first | exact HB.out | apply below_alloc | apply pw_below_drewN | apply below_drew1 | refine below_set ?_ GE174.out) | exact HB.out)) hb); clear BK174; clear HB; have BK174 := n0_; have HB := n1_; clear n0_ n1_; (try clear hb); (try clear hb2); (try clear hk); (try clear hi)) | ((with_reducible refine gate_dst (N := 5) rfl ?_); refine box_event ?hg (N := 5) ?hd (cs := #[.int .i64 0, .int .i64 0, .int .i64 0, .int .i64 0, .int .i64 0, .int .i64 0]) (t := 23) ?hr ?_; (case hd => rfl); (case hg => rfl); (case hr => first | (go_simp; done) | (go_simp; rfl)); intro gb183 hg w17 hbox hb; have n0_ := Aside0.mk (blk_below (g := gb174) (o := .cells #[.int .i64 a0_0, .int .i64 a0_1] 39 (0, 0)) (by (with_reducible repeat (first | refine blk_drewN ?_ _ | refine blk_drew ?_ | refine blk_alloc ?_ _)); exact BK174.out) hb); have n1_ := Aside0.mk (below_step (by repeat (first | (with_reducible first | exact HB.out | apply below_alloc | apply pw_below_drewN | apply below_drew1 | refine below_set ?_ GE174.out) | exact HB.out)) hb); have n2_ := Aside0.mk (hbox); have n3_ := Aside0.mk ((by rw [hg]; exact (below_size (by repeat (first | (with_reducible first | exact HB.out | apply below_alloc | apply pw_below_drewN | apply below_drew1 | refine below_set ?_ GE174.out) | exact HB.out))) : w.heap.size ≤ gb183)); have n4_ := Aside0.mk ((by rw [hg]; exact (below_size (by repeat (first | (with_reducible first | exact HB.out | apply below_alloc | apply pw_below_drewN | apply below_drew1 | refine below_set ?_ GE174.out) | exact HB.out))) : w.heap.size ≤ gb183)); have n5_ := Aside0.mk ((by rw [hg]; exact Nat.ne_of_lt (blk_lt (g := gb174) (o := .cells #[.int .i64 a0_0, .int .i64 a0_1] 39 (0, 0)) (by (with_reducible repeat (first | refine blk_drewN ?_ _ | refine blk_drew ?_ | refine blk_alloc ?_ _)); exact BK174.out)) : gb174 ≠ gb183)); have n6_ := Aside0.mk ((by rw [hg]; exact Nat.ne_of_gt (blk_lt (g := gb174) (o := .cells #[.int .i64 a0_0, .int .i64 a0_1] 39 (0, 0)) (by (with_reducible repeat (first | refine blk_drewN ?_ _ | refine blk_drew ?_ | refine blk_alloc ?_ _)); exact BK174.out)) : gb183 ≠ gb174)); clear BK174; clear HB; have BK174 := n0_; have HB := n1_; have BK183 := n2_; have GW183 := n3_; have GE183 := n4_; have NB174_183 := n5_; have NB183_174 := n6_; clear n0_ n1_ n2_ n3_ n4_ n5_ n6_; clear hb hbox hg; have hnb18 := NB183_174.out; have hnc18 := NB174_183.out; have hcz19_0 : w17.cell? ⟨gb183, 0, none⟩ = some (.int .i64 0) := (blk_cell BK183.out 0).trans rfl; have hcz19_1 : w17.cell? ⟨gb183, 1, none⟩ = some (.int .i64 0) := (blk_cell BK183.out 1).trans rfl; have hcz19_2 : w17.cell? ⟨gb183, 2, none⟩ = some (.int .i64 0) := (blk_cell BK183.out 2).trans rfl; have hcz19_3 : w17.cell? ⟨gb183, 3, none⟩ = some (.int .i64 0) := (blk_cell BK183.out 3).trans rfl; have hcz19_4 : w17.cell? ⟨gb183, 4, none⟩ = some (.int .i64 0) := (blk_cell BK183.out 4).trans rfl; have hcz19_5 : w17.cell? ⟨gb183, 5, none⟩ = some (.int .i64 0) := (blk_cell BK183.out 5).trans rfl; have hfz19_0 := blk_frozen BK183.out 0; have hfz19_1 := blk_frozen BK183.out 1; have hfz19_2 := blk_frozen BK183.out 2; have hfz19_3 := blk_frozen BK183.out 3; have hfz19_4 := blk_frozen BK183.out 4; have hfz19_5 := blk_frozen BK183.out 5; have hcz20_0 : w17.cell? ⟨gb174, 0, none⟩ = some (.int .i64 a0_0) := (blk_cell BK174.out 0).trans rfl; have hcz20_1 : w17.cell? ⟨gb174, 1, none⟩ = some (.int .i64 a0_1) := (blk_cell BK174.out 1).trans rfl; have hfz20_0 := blk_frozen BK174.out 0; have hfz20_1 := blk_frozen BK174.out 1) | ((with_reducible refine gate_callee (f := 18) rfl ?_); refine goesL_ (some 33) rfl rfl Tryd.func18 (by kernel_rfl) rfl #[.int .i64 a0_0] rfl (by (try simp only [List.map_toArray, List.map_cons, List.map_nil]); first | done | rfl | (simp only [List.length_drop, List.length_take]; rfl)) ?_; (with_reducible refine (montageref41_At.calls k a0_0 t184 t185 t186 t187 t188 t189 t190 _ A9.out).mono ?_); rintro e w21 ⟨rfl, hb⟩; refine ⟨_, rfl, ?_⟩; have n0_ := Aside0.mk (blk_below (g := gb174) (o := .cells #[.int .i64 a0_0, .int .i64 a0_1] 39 (0, 0)) (by (with_reducible repeat (first | refine blk_drewN ?_ _ | refine blk_drew ?_ | refine blk_alloc ?_ _)); refine blk_far ?_ NB174_183.out _; (with_reducible repeat (first | refine blk_drewN ?_ _ | refine blk_drew ?_ | refine blk_alloc ?_ _)); refine blk_far ?_ NB174_183.out _; (with_reducible repeat (first | refine blk_drewN ?_ _ | refine blk_drew ?_ | refine blk_alloc ?_ _)); refine blk_far ?_ NB174_183.out _; (with_reducible repeat (first | refine blk_drewN ?_ _ | refine blk_drew ?_ | refine blk_alloc ?_ _)); refine blk_far ?_ NB174_183.out _; (with_reducible repeat (first | refine blk_drewN ?_ _ | refine blk_drew ?_ | refine blk_alloc ?_ _)); refine blk_far ?_ NB174_183.out _; (with_reducible repeat (first | refine blk_drewN ?_ _ | refine blk_drew ?_ | refine blk_alloc ?_ _)); refine blk_far ?_ NB174_183.out _; (with_reducible repeat (first | refine blk_drewN ?_ _ | refine blk_drew ?_ | refine blk_alloc ?_ _)); exact BK174.out) hb); have n1_ := Aside0.mk (blk_below (g := gb183) (o := .cells #[.int .i64 t176, .int .i64 t177, .int .i64 t178, .int .i64 t179, .int .i64 t180, .int .i64 t181] 23 (0, 0)) (by (with_reducible repeat (first | refine blk_drewN ?_ _ | refine blk_drew ?_ | refine blk_alloc ?_ _)); refine blk_put (cs := #[.int .i64 t176, .int .i64 t177, .int .i64 t178, .int .i64 t179, .int .i64 t180, .int .i64 0]) ?_ 5 _ rfl; (with_reducible repeat (first | refine blk_drewN ?_ _ | refine blk_drew ?_ | refine blk_alloc ?_ _)); refine blk_put (cs := #[.int .i64 t176, .int .i64 t177, .int .i64 t178, .int .i64 t179, .int .i64 0, .int .i64 0]) ?_ 4 _ rfl; (with_reducible repeat (first | refine blk_drewN ?_ _ | refine blk_drew ?_ | refine blk_alloc ?_ _)); refine blk_put (cs := #[.int .i64 t176, .int .i64 t177, .int .i64 t178, .int .i64 0, .int .i64 0, .int .i64 0]) ?_ 3 _ rfl; (with_reducible repeat (first | refine blk_drewN ?_ _ | refine blk_drew ?_ | refine blk_alloc ?_ _)); refine blk_put (cs := #[.int .i64 t176, .int .i64 t177, .int .i64 0, .int .i64 0, .int .i64 0, .int .i64 0]) ?_ 2 _ rfl; (with_reducible repeat (first | refine blk_drewN ?_ _ | refine blk_drew ?_ | refine blk_alloc ?_ _)); refine blk_put (cs := #[.int .i64 t176, .int .i64 0, .int .i64 0, .int .i64 0, .int .i64 0, .int .i64 0]) ?_ 1 _ rfl; (with_reducible repeat (first | refine blk_drewN ?_ _ | refine blk_drew ?_ | refine blk_alloc ?_ _)); refine blk_put (cs := #[.int .i64 0, .int .i64 0, .int .i64 0, .int .i64 0, .int .i64 0, .int .i64 0]) ?_ 0 _ rfl; (with_reducible repeat (first | refine blk_drewN ?_ _ | refine blk_drew ?_ | refine blk_alloc ?_ _)); exact BK183.out) hb); have n2_ := Aside0.mk (below_step (by repeat (first | (with_reducible first | exact HB.out | apply below_alloc | apply pw_below_drewN | apply below_drew1 | refine below_set ?_ GE174.out | refine below_set ?_ GE183.out) | exact HB.out)) hb); clear BK174; clear BK183; clear HB; have BK174 := n0_; have BK183 := n1_; have HB := n2_; clear n0_ n1_ n2_; (try clear hb); (try clear hb2); (try clear hk); (try clear hi)) | ((with_reducible refine gate_dst (N := 7) rfl ?_); refine box_event ?hg (N := 7) ?hd (cs := #[.int .i64 0, .int .i64 0, .int .i64 0, .int .i64 0, .int .i64 0, .int .i64 0]) (t := 23) ?hr ?_; (case hd => rfl); (case hg => rfl); (case hr => first | (go_simp; done) | (go_simp; rfl)); intro gb191 hg w22 hbox hb; have n0_ := Aside0.mk (blk_below (g := gb174) (o := .cells #[.int .i64 a0_0, .int .i64 a0_1] 39 (0, 0)) (by (with_reducible repeat (first | refine blk_drewN ?_ _ | refine blk_drew ?_ | refine blk_alloc ?_ _)); exact BK174.out) hb); have n1_ := Aside0.mk (blk_below (g := gb183) (o := .cells #[.int .i64 t176, .int .i64 t177, .int .i64 t178, .int .i64 t179, .int .i64 t180, .int .i64 t181] 23 (0, 0)) (by (with_reducible repeat (first | refine blk_drewN ?_ _ | refine blk_drew ?_ | refine blk_alloc ?_ _)); exact BK183.out) hb); have n2_ := Aside0.mk (below_step (by repeat (first | (with_reducible first | exact HB.out | apply below_alloc | apply pw_below_drewN | apply below_drew1 | refine below_set ?_ GE174.out | refine below_set ?_ GE183.out) | exact HB.out)) hb); have n3_ := Aside0.mk (hbox); have n4_ := Aside0.mk ((by rw [hg]; exact (below_size (by repeat (first | (with_reducible first | exact HB.out | apply below_alloc | apply pw_below_drewN | apply below_drew1 | refine below_set ?_ GE174.out | refine below_set ?_ GE183.out) | exact HB.out))) : w.heap.size ≤ gb191)); have n5_ := Aside0.mk ((by rw [hg]; exact (below_size (by repeat (first | (with_reducible first | exact HB.out | apply below_alloc | apply pw_below_drewN | apply below_drew1 | refine below_set ?_ GE174.out | refine below_set ?_ GE183.out) | exact HB.out))) : w.heap.size ≤ gb191)); have n6_ := Aside0.mk ((by rw [hg]; exact Nat.ne_of_lt (blk_lt (g := gb174) (o := .cells #[.int .i64 a0_0, .int .i64 a0_1] 39 (0, 0)) (by (with_reducible repeat (first | refine blk_drewN ?_ _ | refine blk_drew ?_ | refine blk_alloc ?_ _)); exact BK174.out)) : gb174 ≠ gb191)); have n7_ := Aside0.mk ((by rw [hg]; exact Nat.ne_of_gt (blk_lt (g := gb174) (o := .cells #[.int .i64 a0_0, .int .i64 a0_1] 39 (0, 0)) (by (with_reducible repeat (first | refine blk_drewN ?_ _ | refine blk_drew ?_ | refine blk_alloc ?_ _)); exact BK174.out)) : gb191 ≠ gb174)); have n8_ := Aside0.mk ((by rw [hg]; exact Nat.ne_of_lt (blk_lt (g := gb183) (o := .cells #[.int .i64 t176, .int .i64 t177, .int .i64 t178, .int .i64 t179, .int .i64 t180, .int .i64 t181] 23 (0, 0)) (by (with_reducible repeat (first | refine blk_drewN ?_ _ | refine blk_drew ?_ | refine blk_alloc ?_ _)); exact BK183.out)) : gb183 ≠ gb191)); have n9_ := Aside0.mk ((by rw [hg]; exact Nat.ne_of_gt (blk_lt (g := gb183) (o := .cells #[.int .i64 t176, .int .i64 t177, .int .i64 t178, .int .i64 t179, .int .i64 t180, .int .i64 t181] 23 (0, 0)) (by (with_reducible repeat (first | refine blk_drewN ?_ _ | refine blk_drew ?_ | refine blk_alloc ?_ _)); exact BK183.out)) : gb191 ≠ gb183)); clear BK174; clear BK183; clear HB; have BK174 := n0_; have BK183 := n1_; have HB := n2_; have BK191 := n3_; have GW191 := n4_; have GE191 := n5_; have NB174_191 := n6_; have NB191_174 := n7_; have NB183_191 := n8_; have NB191_183 := n9_; clear n0_ n1_ n2_ n3_ n4_ n5_ n6_ n7_ n8_ n9_; clear hb hbox hg; have hnb23 := NB191_174.out; have hnc23 := NB174_191.out; have hnb24 := NB191_183.out; have hnc24 := NB183_191.out; have hcz25_0 : w22.cell? ⟨gb191, 0, none⟩ = some (.int .i64 0) := (blk_cell BK191.out 0).trans rfl; have hcz25_1 : w22.cell? ⟨gb191, 1, none⟩ = some (.int .i64 0) := (blk_cell BK191.out 1).trans rfl; have hcz25_2 : w22.cell? ⟨gb191, 2, none⟩ = some (.int .i64 0) := (blk_cell BK191.out 2).trans rfl; have hcz25_3 : w22.cell? ⟨gb191, 3, none⟩ = some (.int .i64 0) := (blk_cell BK191.out 3).trans rfl; have hcz25_4 : w22.cell? ⟨gb191, 4, none⟩ = some (.int .i64 0) := (blk_cell BK191.out 4).trans rfl; have hcz25_5 : w22.cell? ⟨gb191, 5, none⟩ = some (.int .i64 0) := (blk_cell BK191.out 5).trans rfl; have hfz25_0 := blk_frozen BK191.out 0; have hfz25_1 := blk_frozen BK191.out 1; have hfz25_2 := blk_frozen BK191.out 2; have hfz25_3 := blk_frozen BK191.out 3; have hfz25_4 := blk_frozen BK191.out 4; have hfz25_5 := blk_frozen BK191.out 5) | ((with_reducible refine gate_callee (f := 17) rfl ?_); refine goesL_ (some 38) rfl rfl Tryd.func17 (by kernel_rfl) rfl #[.string a1] rfl (by (try simp only [List.map_toArray, List.map_cons, List.map_nil]); first | done | rfl | (simp only [List.length_drop, List.length_take]; rfl)) ?_; (with_reducible refine (clock_Parse.calls k a1 t192 t193 t194 t195 t196 t197 t198 _ ?side1 A10.out).mono ?_); (case side1 => exact Good.below HG.out (by repeat (first | (with_reducible first | exact HB.out | apply below_alloc | apply pw_below_drewN | apply below_drew1 | refine below_set ?_ GE174.out | refine below_set ?_ GE183.out | refine below_set ?_ GE191.out) | exact HB.out))); rintro e w26 ⟨rfl, hb⟩; refine ⟨_, rfl, ?_⟩; have n0_ := Aside0.mk (blk_below (g := gb174) (o := .cells #[.int .i64 a0_0, .int .i64 a0_1] 39 (0, 0)) (by (with_reducible repeat (first | refine blk_drewN ?_ _ | refine blk_drew ?_ | refine blk_alloc ?_ _)); refine blk_far ?_ NB174_191.out _; (with_reducible repeat (first | refine blk_drewN ?_ _ | refine blk_drew ?_ | refine blk_alloc ?_ _)); refine blk_far ?_ NB174_191.out _; (with_reducible repeat (first | refine blk_drewN ?_ _ | refine blk_drew ?_ | refine blk_alloc ?_ _)); refine blk_far ?_ NB174_191.out _; (with_reducible repeat (first | refine blk_drewN ?_ _ | refine blk_drew ?_ | refine blk_alloc ?_ _)); refine blk_far ?_ NB174_191.out _; (with_reducible repeat (first | refine blk_drewN ?_ _ | refine blk_drew ?_ | refine blk_alloc ?_ _)); refine blk_far ?_ NB174_191.out _; (with_reducible repeat (first | refine blk_drewN ?_ _ | refine blk_drew ?_ | refine blk_alloc ?_ _)); refine blk_far ?_ NB174_191.out _; (with_reducible repeat (first | refine blk_drewN ?_ _ | refine blk_drew ?_ | refine blk_alloc ?_ _)); exact BK174.out) hb); have n1_ := Aside0.mk (blk_below (g := gb183) (o := .cells #[.int .i64 t176, .int .i64 t177, .int .i64 t178, .int .i64 t179, .int .i64 t180, .int .i64 t181] 23 (0, 0)) (by (with_reducible repeat (first | refine blk_drewN ?_ _ | refine blk_drew ?_ | refine blk_alloc ?_ _)); refine blk_far ?_ NB183_191.out _; (with_reducible repeat (first | refine blk_drewN ?_ _ | refine blk_drew ?_ | refine blk_alloc ?_ _)); refine blk_far ?_ NB183_191.out _; (with_reducible repeat (first | refine blk_drewN ?_ _ | refine blk_drew ?_ | refine blk_alloc ?_ _)); refine blk_far ?_ NB183_191.out _; (with_reducible repeat (first | refine blk_drewN ?_ _ | refine blk_drew ?_ | refine blk_alloc ?_ _)); refine blk_far ?_ NB183_191.out _; (with_reducible repeat (first | refine blk_drewN ?_ _ | refine blk_drew ?_ | refine blk_alloc ?_ _)); refine blk_far ?_ NB183_191.out _; (with_reducible repeat (first | refine blk_drewN ?_ _ | refine blk_drew ?_ | refine blk_alloc ?_ _)); refine blk_far ?_ NB183_191.out _; (with_reducible repeat (first | refine blk_drewN ?_ _ | refine blk_drew ?_ | refine blk_alloc ?_ _)); exact BK183.out) hb); have n2_ := Aside0.mk (blk_below (g := gb191) (o := .cells #[.int .i64 t184, .int .i64 t185, .int .i64 t186, .int .i64 t187, .int .i64 t188, .int .i64 t189] 23 (0, 0)) (by (with_reducible repeat (first | refine blk_drewN ?_ _ | refine blk_drew ?_ | refine blk_alloc ?_ _)); refine blk_put (cs := #[.int .i64 t184, .int .i64 t185, .int .i64 t186, .int .i64 t187, .int .i64 t188, .int .i64 0]) ?_ 5 _ rfl; (with_reducible repeat (first | refine blk_drewN ?_ _ | refine blk_drew ?_ | refine blk_alloc ?_ _)); refine blk_put (cs := #[.int .i64 t184, .int .i64 t185, .int .i64 t186, .int .i64 t187, .int .i64 0, .int .i64 0]) ?_ 4 _ rfl; (with_reducible repeat (first | refine blk_drewN ?_ _ | refine blk_drew ?_ | refine blk_alloc ?_ _)); refine blk_put (cs := #[.int .i64 t184, .int .i64 t185, .int .i64 t186, .int .i64 0, .int .i64 0, .int .i64 0]) ?_ 3 _ rfl; (with_reducible repeat (first | refine blk_drewN ?_ _ | refine blk_drew ?_ | refine blk_alloc ?_ _)); refine blk_put (cs := #[.int .i64 t184, .int .i64 t185, .int .i64 0, .int .i64 0, .int .i64 0, .int .i64 0]) ?_ 2 _ rfl; (with_reducible repeat (first | refine blk_drewN ?_ _ | refine blk_drew ?_ | refine blk_alloc ?_ _)); refine blk_put (cs := #[.int .i64 t184, .int .i64 0, .int .i64 0, .int .i64 0, .int .i64 0, .int .i64 0]) ?_ 1 _ rfl; (with_reducible repeat (first | refine blk_drewN ?_ _ | refine blk_drew ?_ | refine blk_alloc ?_ _)); refine blk_put (cs := #[.int .i64 0, .int .i64 0, .int .i64 0, .int .i64 0, .int .i64 0, .int .i64 0]) ?_ 0 _ rfl; (with_reducible repeat (first | refine blk_drewN ?_ _ | refine blk_drew ?_ | refine blk_alloc ?_ _)); exact BK191.out) hb); have n3_ := Aside0.mk (below_step (by repeat (first | (with_reducible first | exact HB.out | apply below_alloc | apply pw_below_drewN | apply below_drew1 | refine below_set ?_ GE174.out | refine below_set ?_ GE183.out | refine below_set ?_ GE191.out) | exact HB.out)) hb); clear BK174; clear BK183; clear BK191; clear HB; have BK174 := n0_; have BK183 := n1_; have BK191 := n2_; have HB := n3_; clear n0_ n1_ n2_ n3_; (try clear hb); (try clear hb2); (try clear hk); (try clear hi)) | ((with_reducible refine gate_dst (N := 9) rfl ?_); refine box_event ?hg (N := 9) ?hd (cs := #[.int .i64 0, .int .i64 0, .int .i64 0, .int .i64 0, .int .i64 0, .int .i64 0]) (t := 23) ?hr ?_; (case hd => rfl); (case hg => rfl); (case hr => first | (go_simp; done) | (go_simp; rfl)); intro gb199 hg w27 hbox hb; have n0_ := Aside0.mk (blk_below (g := gb174) (o := .cells #[.int .i64 a0_0, .int .i64 a0_1] 39 (0, 0)) (by (with_reducible repeat (first | refine blk_drewN ?_ _ | refine blk_drew ?_ | refine blk_alloc ?_ _)); exact BK174.out) hb); have n1_ := Aside0.mk (blk_below (g := gb183) (o := .cells #[.int .i64 t176, .int .i64 t177, .int .i64 t178, .int .i64 t179, .int .i64 t180, .int .i64 t181] 23 (0, 0)) (by (with_reducible repeat (first | refine blk_drewN ?_ _ | refine blk_drew ?_ | refine blk_alloc ?_ _)); exact BK183.out) hb); have n2_ := Aside0.mk (blk_below (g := gb191) (o := .cells #[.int .i64 t184, .int .i64 t185, .int .i64 t186, .int .i64 t187, .int .i64 t188, .int .i64 t189] 23 (0, 0)) (by (with_reducible repeat (first | refine blk_drewN ?_ _ | refine blk_drew ?_ | refine blk_alloc ?_ _)); exact BK191.out) hb); have n3_ := Aside0.mk (below_step (by repeat (first | (with_reducible first | exact HB.out | apply below_alloc | apply pw_below_drewN | apply below_drew1 | refine below_set ?_ GE174.out | refine below_set ?_ GE183.out | refine below_set ?_ GE191.out) | exact HB.out)) hb); have n4_ := Aside0.mk (hbox); have n5_ := Aside0.mk ((by rw [hg]; exact (below_size (by repeat (first | (with_reducible first | exact HB.out | apply below_alloc | apply pw_below_drewN | apply below_drew1 | refine below_set ?_ GE174.out | refine below_set ?_ GE183.out | refine below_set ?_ GE191.out) | exact HB.out))) : w.heap.size ≤ gb199)); have n6_ := Aside0.mk ((by rw [hg]; exact (below_size (by repeat (first | (with_reducible first | exact HB.out | apply below_alloc | apply pw_below_drewN | apply below_drew1 | refine below_set ?_ GE174.out | refine below_set ?_ GE183.out | refine below_set ?_ GE191.out) | exact HB.out))) : w.heap.size ≤ gb199)); have n7_ := Aside0.mk ((by rw [hg]; exact Nat.ne_of_lt (blk_lt (g := gb174) (o := .cells #[.int .i64 a0_0, .int .i64 a0_1] 39 (0, 0)) (by (with_reducible repeat (first | refine blk_drewN ?_ _ | refine blk_drew ?_ | refine blk_alloc ?_ _)); exact BK174.out)) : gb174 ≠ gb199)); have n8_ := Aside0.mk ((by rw [hg]; exact Nat.ne_of_gt (blk_lt (g := gb174) (o := .cells #[.int .i64 a0_0, .int .i64 a0_1] 39 (0, 0)) (by (with_reducible repeat (first | refine blk_drewN ?_ _ | refine blk_drew ?_ | refine blk_alloc ?_ _)); exact BK174.out)) : gb199 ≠ gb174)); have n9_ := Aside0.mk ((by rw [hg]; exact Nat.ne_of_lt (blk_lt (g := gb183) (o := .cells #[.int .i64 t176, .int .i64 t177, .int .i64 t178, .int .i64 t179, .int .i64 t180, .int .i64 t181] 23 (0, 0)) (by (with_reducible repeat (first | refine blk_drewN ?_ _ | refine blk_drew ?_ | refine blk_alloc ?_ _)); exact BK183.out)) : gb183 ≠ gb199)); have n10_ := Aside0.mk ((by rw [hg]; exact Nat.ne_of_gt (blk_lt (g := gb183) (o := .cells #[.int .i64 t176, .int .i64 t177, .int .i64 t178, .int .i64 t179, .int .i64 t180, .int .i64 t181] 23 (0, 0)) (by (with_reducible repeat (first | refine blk_drewN ?_ _ | refine blk_drew ?_ | refine blk_alloc ?_ _)); exact BK183.out)) : gb199 ≠ gb183)); have n11_ := Aside0.mk ((by rw [hg]; exact Nat.ne_of_lt (blk_lt (g := gb191) (o := .cells #[.int .i64 t184, .int .i64 t185, .int .i64 t186, .int .i64 t187, .int .i64 t188, .int .i64 t189] 23 (0, 0)) (by (with_reducible repeat (first | refine blk_drewN ?_ _ | refine blk_drew ?_ | refine blk_alloc ?_ _)); exact BK191.out)) : gb191 ≠ gb199)); have n12_ := Aside0.mk ((by rw [hg]; exact Nat.ne_of_gt (blk_lt (g := gb191) (o := .cells #[.int .i64 t184, .int .i64 t185, .int .i64 t186, .int .i64 t187, .int .i64 t188, .int .i64 t189] 23 (0, 0)) (by (with_reducible repeat (first | refine blk_drewN ?_ _ | refine blk_drew ?_ | refine blk_alloc ?_ _)); exact BK191.out)) : gb199 ≠ gb191)); clear BK174; clear BK183; clear BK191; clear HB; have BK174 := n0_; have BK183 := n1_; have BK191 := n2_; have HB := n3_; have BK199 := n4_; have GW199 := n5_; have GE199 := n6_; have NB174_199 := n7_; have NB199_174 := n8_; have NB183_199 := n9_; have NB199_183 := n10_; have NB191_199 := n11_; have NB199_191 := n12_; clear n0_ n1_ n2_ n3_ n4_ n5_ n6_ n7_ n8_ n9_ n10_ n11_ n12_; clear hb hbox hg; have hnb28 := NB199_174.out; have hnc28 := NB174_199.out; have hnb29 := NB199_183.out; have hnc29 := NB183_199.out; have hnb30 := NB199_191.out; have hnc30 := NB191_199.out; have hcz31_0 : w27.cell? ⟨gb199, 0, none⟩ = some (.int .i64 0) := (blk_cell BK199.out 0).trans rfl; have hcz31_1 : w27.cell? ⟨gb199, 1, none⟩ = some (.int .i64 0) := (blk_cell BK199.out 1).trans rfl; have hcz31_2 : w27.cell? ⟨gb199, 2, none⟩ = some (.int .i64 0) := (blk_cell BK199.out 2).trans rfl; have hcz31_3 : w27.cell? ⟨gb199, 3, none⟩ = some (.int .i64 0) := (blk_cell BK199.out 3).trans rfl; have hcz31_4 : w27.cell? ⟨gb199, 4, none⟩ = some (.int .i64 0) := (blk_cell BK199.out 4).trans rfl; have hcz31_5 : w27.cell? ⟨gb199, 5, none⟩ = some (.int .i64 0) := (blk_cell BK199.out 5).trans rfl; have hfz31_0 := blk_frozen BK199.out 0; have hfz31_1 := blk_frozen BK199.out 1; have hfz31_2 := blk_frozen BK199.out 2; have hfz31_3 := blk_frozen BK199.out 3; have hfz31_4 := blk_frozen BK199.out 4; have hfz31_5 := blk_frozen BK199.out 5) | ((with_reducible refine gate_callee (f := 19) rfl ?_); refine goesL_ (some 43) rfl rfl Tryd.func19 (by kernel_rfl) rfl #[.string a1] rfl (by (try simp only [List.map_toArray, List.map_cons, List.map_nil]); first | done | rfl | (simp only [List.length_drop, List.length_take]; rfl)) ?_; (with_reducible refine (montageref41_Parse.calls k a1 t200 t201 t202 t203 t204 t205 t206 _ A11.out).mono ?_); rintro e w32 ⟨rfl, hb⟩; refine ⟨_, rfl, ?_⟩; have n0_ := Aside0.mk (blk_below (g := gb174) (o := .cells #[.int .i64 a0_0, .int .i64 a0_1] 39 (0, 0)) (by (with_reducible repeat (first | refine blk_drewN ?_ _ | refine blk_drew ?_ | refine blk_alloc ?_ _)); refine blk_far ?_ NB174_199.out _; (with_reducible repeat (first | refine blk_drewN ?_ _ | refine blk_drew ?_ | refine blk_alloc ?_ _)); refine blk_far ?_ NB174_199.out _; (with_reducible repeat (first | refine blk_drewN ?_ _ | refine blk_drew ?_ | refine blk_alloc ?_ _)); refine blk_far ?_ NB174_199.out _; (with_reducible repeat (first | refine blk_drewN ?_ _ | refine blk_drew ?_ | refine blk_alloc ?_ _)); refine blk_far ?_ NB174_199.out _; (with_reducible repeat (first | refine blk_drewN ?_ _ | refine blk_drew ?_ | refine blk_alloc ?_ _)); refine blk_far ?_ NB174_199.out _; (with_reducible repeat (first | refine blk_drewN ?_ _ | refine blk_drew ?_ | refine blk_alloc ?_ _)); refine blk_far ?_ NB174_199.out _; (with_reducible repeat (first | refine blk_drewN ?_ _ | refine blk_drew ?_ | refine blk_alloc ?_ _)); exact BK174.out) hb); have n1_ := Aside0.mk (blk_below (g := gb183) (o := .cells #[.int .i64 t176, .int .i64 t177, .int .i64 t178, .int .i64 t179, .int .i64 t180, .int .i64 t181] 23 (0, 0)) (by (with_reducible repeat (first | refine blk_drewN ?_ _ | refine blk_drew ?_ | refine blk_alloc ?_ _)); refine blk_far ?_ NB183_199.out _; (with_reducible repeat (first | refine blk_drewN ?_ _ | refine blk_drew ?_ | refine blk_alloc ?_ _)); refine blk_far ?_ NB183_199.out _; (with_reducible repeat (first | refine blk_drewN ?_ _ | refine blk_drew ?_ | refine blk_alloc ?_ _)); refine blk_far ?_ NB183_199.out _; (with_reducible repeat (first | refine blk_drewN ?_ _ | refine blk_drew ?_ | refine blk_alloc ?_ _)); refine blk_far ?_ NB183_199.out _; (with_reducible repeat (first | refine blk_drewN ?_ _ | refine blk_drew ?_ | refine blk_alloc ?_ _)); refine blk_far ?_ NB183_199.out _; (with_reducible repeat (first | refine blk_drewN ?_ _ | refine blk_drew ?_ | refine blk_alloc ?_ _)); refine blk_far ?_ NB183_199.out _; (with_reducible repeat (first | refine blk_drewN ?_ _ | refine blk_drew ?_ | refine blk_alloc ?_ _)); exact BK183.out) hb); have n2_ := Aside0.mk (blk_below (g := gb191) (o := .cells #[.int .i64 t184, .int .i64 t185, .int .i64 t186, .int .i64 t187, .int .i64 t188, .int .i64 t189] 23 (0, 0)) (by (with_reducible repeat (first | refine blk_drewN ?_ _ | refine blk_drew ?_ | refine blk_alloc ?_ _)); refine blk_far ?_ NB191_199.out _; (with_reducible repeat (first | refine blk_drewN ?_ _ | refine blk_drew ?_ | refine blk_alloc ?_ _)); refine blk_far ?_ NB191_199.out _; (with_reducible repeat (first | refine blk_drewN ?_ _ | refine blk_drew ?_ | refine blk_alloc ?_ _)); refine blk_far ?_ NB191_199.out _; (with_reducible repeat (first | refine blk_drewN ?_ _ | refine blk_drew ?_ | refine blk_alloc ?_ _)); refine blk_far ?_ NB191_199.out _; (with_reducible repeat (first | refine blk_drewN ?_ _ | refine blk_drew ?_ | refine blk_alloc ?_ _)); refine blk_far ?_ NB191_199.out _; (with_reducible repeat (first | refine blk_drewN ?_ _ | refine blk_drew ?_ | refine blk_alloc ?_ _)); refine blk_far ?_ NB191_199.out _; (with_reducible repeat (first | refine blk_drewN ?_ _ | refine blk_drew ?_ | refine blk_alloc ?_ _)); exact BK191.out) hb); have n3_ := Aside0.mk (blk_below (g := gb199) (o := .cells #[.int .i64 t192, .int .i64 t193, .int .i64 t194, .int .i64 t195, .int .i64 t196, .int .i64 t197] 23 (0, 0)) (by (with_reducible repeat (first | refine blk_drewN ?_ _ | refine blk_drew ?_ | refine blk_alloc ?_ _)); refine blk_put (cs := #[.int .i64 t192, .int .i64 t193, .int .i64 t194, .int .i64 t195, .int .i64 t196, .int .i64 0]) ?_ 5 _ rfl; (with_reducible repeat (first | refine blk_drewN ?_ _ | refine blk_drew ?_ | refine blk_alloc ?_ _)); refine blk_put (cs := #[.int .i64 t192, .int .i64 t193, .int .i64 t194, .int .i64 t195, .int .i64 0, .int .i64 0]) ?_ 4 _ rfl; (with_reducible repeat (first | refine blk_drewN ?_ _ | refine blk_drew ?_ | refine blk_alloc ?_ _)); refine blk_put (cs := #[.int .i64 t192, .int .i64 t193, .int .i64 t194, .int .i64 0, .int .i64 0, .int .i64 0]) ?_ 3 _ rfl; (with_reducible repeat (first | refine blk_drewN ?_ _ | refine blk_drew ?_ | refine blk_alloc ?_ _)); refine blk_put (cs := #[.int .i64 t192, .int .i64 t193, .int .i64 0, .int .i64 0, .int .i64 0, .int .i64 0]) ?_ 2 _ rfl; (with_reducible repeat (first | refine blk_drewN ?_ _ | refine blk_drew ?_ | refine blk_alloc ?_ _)); refine blk_put (cs := #[.int .i64 t192, .int .i64 0, .int .i64 0, .int .i64 0, .int .i64 0, .int .i64 0]) ?_ 1 _ rfl; (with_reducible repeat (first | refine blk_drewN ?_ _ | refine blk_drew ?_ | refine blk_alloc ?_ _)); refine blk_put (cs := #[.int .i64 0, .int .i64 0, .int .i64 0, .int .i64 0, .int .i64 0, .int .i64 0]) ?_ 0 _ rfl; (with_reducible repeat (first | refine blk_drewN ?_ _ | refine blk_drew ?_ | refine blk_alloc ?_ _)); exact BK199.out) hb); have n4_ := Aside0.mk (below_step (by repeat (first | (with_reducible first | exact HB.out | apply below_alloc | apply pw_below_drewN | apply below_drew1 | refine below_set ?_ GE174.out | refine below_set ?_ GE183.out | refine below_set ?_ GE191.out | refine below_set ?_ GE199.out) | exact HB.out)) hb); clear BK174; clear BK183; clear BK191; clear BK199; clear HB; have BK174 := n0_; have BK183 := n1_; have BK191 := n2_; have BK199 := n3_; have HB := n4_; clear n0_ n1_ n2_ n3_ n4_; (try clear hb); (try clear hb2); (try clear hk); (try clear hi)) | ((with_reducible refine gate_dst (N := 11) rfl ?_); refine box_event ?hg (N := 11) ?hd (cs := #[.int .i64 0, .int .i64 0, .int .i64 0, .int .i64 0, .int .i64 0, .int .i64 0]) (t := 23) ?hr ?_; (case hd => rfl); (case hg => rfl); (case hr => first | (go_simp; done) | (go_simp; rfl)); intro gb207 hg w33 hbox hb; have n0_ := Aside0.mk (blk_below (g := gb174) (o := .cells #[.int .i64 a0_0, .int .i64 a0_1] 39 (0, 0)) (by (with_reducible repeat (first | refine blk_drewN ?_ _ | refine blk_drew ?_ | refine blk_alloc ?_ _)); exact BK174.out) hb); have n1_ := Aside0.mk (blk_below (g := gb183) (o := .cells #[.int .i64 t176, .int .i64 t177, .int .i64 t178, .int .i64 t179, .int .i64 t180, .int .i64 t181] 23 (0, 0)) (by (with_reducible repeat (first | refine blk_drewN ?_ _ | refine blk_drew ?_ | refine blk_alloc ?_ _)); exact BK183.out) hb); have n2_ := Aside0.mk (blk_below (g := gb191) (o := .cells #[.int .i64 t184, .int .i64 t185, .int .i64 t186, .int .i64 t187, .int .i64 t188, .int .i64 t189] 23 (0, 0)) (by (with_reducible repeat (first | refine blk_drewN ?_ _ | refine blk_drew ?_ | refine blk_alloc ?_ _)); exact BK191.out) hb); have n3_ := Aside0.mk (blk_below (g := gb199) (o := .cells #[.int .i64 t192, .int .i64 t193, .int .i64 t194, .int .i64 t195, .int .i64 t196, .int .i64 t197] 23 (0, 0)) (by (with_reducible repeat (first | refine blk_drewN ?_ _ | refine blk_drew ?_ | refine blk_alloc ?_ _)); exact BK199.out) hb); have n4_ := Aside0.mk (below_step (by repeat (first | (with_reducible first | exact HB.out | apply below_alloc | apply pw_below_drewN | apply below_drew1 | refine below_set ?_ GE174.out | refine below_set ?_ GE183.out | refine below_set ?_ GE191.out | refine below_set ?_ GE199.out) | exact HB.out)) hb); have n5_ := Aside0.mk (hbox); have n6_ := Aside0.mk ((by rw [hg]; exact (below_size (by repeat (first | (with_reducible first | exact HB.out | apply below_alloc | apply pw_below_drewN | apply below_drew1 | refine below_set ?_ GE174.out | refine below_set ?_ GE183.out | refine below_set ?_ GE191.out | refine below_set ?_ GE199.out) | exact HB.out))) : w.heap.size ≤ gb207)); have n7_ := Aside0.mk ((by rw [hg]; exact (below_size (by repeat (first | (with_reducible first | exact HB.out | apply below_alloc | apply pw_below_drewN | apply below_drew1 | refine below_set ?_ GE174.out | refine below_set ?_ GE183.out | refine below_set ?_ GE191.out | refine below_set ?_ GE199.out) | exact HB.out))) : w.heap.size ≤ gb207)); have n8_ := Aside0.mk ((by rw [hg]; exact Nat.ne_of_lt (blk_lt (g := gb174) (o := .cells #[.int .i64 a0_0, .int .i64 a0_1] 39 (0, 0)) (by (with_reducible repeat (first | refine blk_drewN ?_ _ | refine blk_drew ?_ | refine blk_alloc ?_ _)); exact BK174.out)) : gb174 ≠ gb207)); have n9_ := Aside0.mk ((by rw [hg]; exact Nat.ne_of_gt (blk_lt (g := gb174) (o := .cells #[.int .i64 a0_0, .int .i64 a0_1] 39 (0, 0)) (by (with_reducible repeat (first | refine blk_drewN ?_ _ | refine blk_drew ?_ | refine blk_alloc ?_ _)); exact BK174.out)) : gb207 ≠ gb174)); have n10_ := Aside0.mk ((by rw [hg]; exact Nat.ne_of_lt (blk_lt (g := gb183) (o := .cells #[.int .i64 t176, .int .i64 t177, .int .i64 t178, .int .i64 t179, .int .i64 t180, .int .i64 t181] 23 (0, 0)) (by (with_reducible repeat (first | refine blk_drewN ?_ _ | refine blk_drew ?_ | refine blk_alloc ?_ _)); exact BK183.out)) : gb183 ≠ gb207)); have n11_ := Aside0.mk ((by rw [hg]; exact Nat.ne_of_gt (blk_lt (g := gb183) (o := .cells #[.int .i64 t176, .int .i64 t177, .int .i64 t178, .int .i64 t179, .int .i64 t180, .int .i64 t181] 23 (0, 0)) (by (with_reducible repeat (first | refine blk_drewN ?_ _ | refine blk_drew ?_ | refine blk_alloc ?_ _)); exact BK183.out)) : gb207 ≠ gb183)); have n12_ := Aside0.mk ((by rw [hg]; exact Nat.ne_of_lt (blk_lt (g := gb191) (o := .cells #[.int .i64 t184, .int .i64 t185, .int .i64 t186, .int .i64 t187, .int .i64 t188, .int .i64 t189] 23 (0, 0)) (by (with_reducible repeat (first | refine blk_drewN ?_ _ | refine blk_drew ?_ | refine blk_alloc ?_ _)); exact BK191.out)) : gb191 ≠ gb207)); have n13_ := Aside0.mk ((by rw [hg]; exact Nat.ne_of_gt (blk_lt (g := gb191) (o := .cells #[.int .i64 t184, .int .i64 t185, .int .i64 t186, .int .i64 t187, .int .i64 t188, .int .i64 t189] 23 (0, 0)) (by (with_reducible repeat (first | refine blk_drewN ?_ _ | refine blk_drew ?_ | refine blk_alloc ?_ _)); exact BK191.out)) : gb207 ≠ gb191)); have n14_ := Aside0.mk ((by rw [hg]; exact Nat.ne_of_lt (blk_lt (g := gb199) (o := .cells #[.int .i64 t192, .int .i64 t193, .int .i64 t194, .int .i64 t195, .int .i64 t196, .int .i64 t197] 23 (0, 0)) (by (with_reducible repeat (first | refine blk_drewN ?_ _ | refine blk_drew ?_ | refine blk_alloc ?_ _)); exact BK199.out)) : gb199 ≠ gb207)); have n15_ := Aside0.mk ((by rw [hg]; exact Nat.ne_of_gt (blk_lt (g := gb199) (o := .cells #[.int .i64 t192, .int .i64 t193, .int .i64 t194, .int .i64 t195, .int .i64 t196, .int .i64 t197] 23 (0, 0)) (by (with_reducible repeat (first | refine blk_drewN ?_ _ | refine blk_drew ?_ | refine blk_alloc ?_ _)); exact BK199.out)) : gb207 ≠ gb199)); clear BK174; clear BK183; clear BK191; clear BK199; clear HB; have BK174 := n0_; have BK183 := n1_; have BK191 := n2_; have BK199 := n3_; have HB := n4_; have BK207 := n5_; have GW207 := n6_; have GE207 := n7_; have NB174_207 := n8_; have NB207_174 := n9_; have NB183_207 := n10_; have NB207_183 := n11_; have NB191_207 := n12_; have NB207_191 := n13_; have NB199_207 := n14_; have NB207_199 := n15_; clear n0_ n1_ n2_ n3_ n4_ n5_ n6_ n7_ n8_ n9_ n10_ n11_ n12_ n13_ n14_ n15_; clear hb hbox hg; have hnb34 := NB207_174.out; have hnc34 := NB174_207.out; have hnb35 := NB207_183.out; have hnc35 := NB183_207.out; have hnb36 := NB207_191.out; have hnc36 := NB191_207.out; have hnb37 := NB207_199.out; have hnc37 := NB199_207.out; have hcz38_0 : w33.cell? ⟨gb207, 0, none⟩ = some (.int .i64 0) := (blk_cell BK207.out 0).trans rfl; have hcz38_1 : w33.cell? ⟨gb207, 1, none⟩ = some (.int .i64 0) := (blk_cell BK207.out 1).trans rfl; have hcz38_2 : w33.cell? ⟨gb207, 2, none⟩ = some (.int .i64 0) := (blk_cell BK207.out 2).trans rfl; have hcz38_3 : w33.cell? ⟨gb207, 3, none⟩ = some (.int .i64 0) := (blk_cell BK207.out 3).trans rfl; have hcz38_4 : w33.cell? ⟨gb207, 4, none⟩ = some (.int .i64 0) := (blk_cell BK207.out 4).trans rfl; have hcz38_5 : w33.cell? ⟨gb207, 5, none⟩ = some (.int .i64 0) := (blk_cell BK207.out 5).trans rfl; have hfz38_0 := blk_frozen BK207.out 0; have hfz38_1 := blk_frozen BK207.out 1; have hfz38_2 := blk_frozen BK207.out 2; have hfz38_3 := blk_frozen BK207.out 3; have hfz38_4 := blk_frozen BK207.out 4; have hfz38_5 := blk_frozen BK207.out 5))
      (try simp only [Act.put, List.setIfInBounds_toArray, List.set_cons_zero, List.set_cons_succ])
      go_cut [63] (fun v63 wc => ∃ (kq : Nat) (x63_11 : Bool), v63 = .bool x63_11 ∧ Aside0 (montagelaw41_ClockSeconds.j0 kq t182 x63_11 a0_0 a0_1 t176 t177 t178 t179 t180 t181 = some r) ∧ Aside0 (kq ≤ k) ∧ Aside0 (wc.heap[gb174]? = some (.cells #[.int .i64 a0_0, .int .i64 a0_1] 39 (0, 0))) ∧ Aside0 (wc.heap[gb183]? = some (.cells #[.int .i64 t176, .int .i64 t177, .int .i64 t178, .int .i64 t179, .int .i64 t180, .int .i64 t181] 23 (0, 0))) ∧ Aside0 (wc.heap[gb191]? = some (.cells #[.int .i64 t184, .int .i64 t185, .int .i64 t186, .int .i64 t187, .int .i64 t188, .int .i64 t189] 23 (0, 0))) ∧ Aside0 (wc.heap[gb199]? = some (.cells #[.int .i64 t192, .int .i64 t193, .int .i64 t194, .int .i64 t195, .int .i64 t196, .int .i64 t197] 23 (0, 0))) ∧ Aside0 (wc.heap[gb207]? = some (.cells #[.int .i64 t200, .int .i64 t201, .int .i64 t202, .int .i64 t203, .int .i64 t204, .int .i64 t205] 23 (0, 0))) ∧ Aside0 (Below w.heap.size w wc))
      case first =>
        have H := HC12.out
        clear HC12
        by_cases c39 : (!(t176 == t184) || (!(t177 == t185) || (!(t178 == t186) || (!(t179 == t187) || (!(t180 == t188) || (!(t181 == t189))))))) = true
        · rw [if_pos c39] at H
          have c39b0 : (!(t176 == t184) || (!(t177 == t185) || (!(t178 == t186) || (!(t179 == t187) || (!(t180 == t188) || (!(t181 == t189))))))) = true := c39
          clear c39
          (first | rw [c39b0] | (simp only [i64_w, i32_w]; rw [c39b0]) | skip)
          have H' := Aside0.mk H
          clear H
          have hnb40 := NB183_174.out
          have hnc40 := NB174_183.out
          have hnb41 := NB183_191.out
          have hnc41 := NB191_183.out
          have hnb42 := NB183_199.out
          have hnc42 := NB199_183.out
          have hnb43 := NB183_207.out
          have hnc43 := NB207_183.out
          have hcz44_0 : w33.cell? ⟨gb183, 0, none⟩ = some (.int .i64 t176) := (blk_cell BK183.out 0).trans rfl
          have hcz44_1 : w33.cell? ⟨gb183, 1, none⟩ = some (.int .i64 t177) := (blk_cell BK183.out 1).trans rfl
          have hcz44_2 : w33.cell? ⟨gb183, 2, none⟩ = some (.int .i64 t178) := (blk_cell BK183.out 2).trans rfl
          have hcz44_3 : w33.cell? ⟨gb183, 3, none⟩ = some (.int .i64 t179) := (blk_cell BK183.out 3).trans rfl
          have hcz44_4 : w33.cell? ⟨gb183, 4, none⟩ = some (.int .i64 t180) := (blk_cell BK183.out 4).trans rfl
          have hcz44_5 : w33.cell? ⟨gb183, 5, none⟩ = some (.int .i64 t181) := (blk_cell BK183.out 5).trans rfl
          have hfz44_0 := blk_frozen BK183.out 0
          have hfz44_1 := blk_frozen BK183.out 1
          have hfz44_2 := blk_frozen BK183.out 2
          have hfz44_3 := blk_frozen BK183.out 3
          have hfz44_4 := blk_frozen BK183.out 4
          have hfz44_5 := blk_frozen BK183.out 5
          have hnb45 := NB191_174.out
          have hnc45 := NB174_191.out
          have hnb46 := NB191_199.out
          have hnc46 := NB199_191.out
          have hnb47 := NB191_207.out
          have hnc47 := NB207_191.out
          have hcz48_0 : w33.cell? ⟨gb191, 0, none⟩ = some (.int .i64 t184) := (blk_cell BK191.out 0).trans rfl
          have hcz48_1 : w33.cell? ⟨gb191, 1, none⟩ = some (.int .i64 t185) := (blk_cell BK191.out 1).trans rfl
          have hcz48_2 : w33.cell? ⟨gb191, 2, none⟩ = some (.int .i64 t186) := (blk_cell BK191.out 2).trans rfl
          have hcz48_3 : w33.cell? ⟨gb191, 3, none⟩ = some (.int .i64 t187) := (blk_cell BK191.out 3).trans rfl
          have hcz48_4 : w33.cell? ⟨gb191, 4, none⟩ = some (.int .i64 t188) := (blk_cell BK191.out 4).trans rfl
          have hcz48_5 : w33.cell? ⟨gb191, 5, none⟩ = some (.int .i64 t189) := (blk_cell BK191.out 5).trans rfl
          have hfz48_0 := blk_frozen BK191.out 0
          have hfz48_1 := blk_frozen BK191.out 1
          have hfz48_2 := blk_frozen BK191.out 2
          have hfz48_3 := blk_frozen BK191.out 3
          have hfz48_4 := blk_frozen BK191.out 4
          have hfz48_5 := blk_frozen BK191.out 5
          go_wp2
          go_meet
          case rel => exact ⟨_, (true), (by first | rfl | (simp; done) | (simp [*]; done)), H', ⟨by first | omega | exact Nat.le_refl _⟩, ⟨by (with_reducible repeat (first | refine blk_drewN ?_ _ | refine blk_drew ?_ | refine blk_alloc ?_ _)); refine blk_far ?_ NB174_207.out _; (with_reducible repeat (first | refine blk_drewN ?_ _ | refine blk_drew ?_ | refine blk_alloc ?_ _)); refine blk_far ?_ NB174_207.out _; (with_reducible repeat (first | refine blk_drewN ?_ _ | refine blk_drew ?_ | refine blk_alloc ?_ _)); refine blk_far ?_ NB174_207.out _; (with_reducible repeat (first | refine blk_drewN ?_ _ | refine blk_drew ?_ | refine blk_alloc ?_ _)); refine blk_far ?_ NB174_207.out _; (with_reducible repeat (first | refine blk_drewN ?_ _ | refine blk_drew ?_ | refine blk_alloc ?_ _)); refine blk_far ?_ NB174_207.out _; (with_reducible repeat (first | refine blk_drewN ?_ _ | refine blk_drew ?_ | refine blk_alloc ?_ _)); refine blk_far ?_ NB174_207.out _; (with_reducible repeat (first | refine blk_drewN ?_ _ | refine blk_drew ?_ | refine blk_alloc ?_ _)); exact BK174.out⟩, ⟨by (with_reducible repeat (first | refine blk_drewN ?_ _ | refine blk_drew ?_ | refine blk_alloc ?_ _)); refine blk_far ?_ NB183_207.out _; (with_reducible repeat (first | refine blk_drewN ?_ _ | refine blk_drew ?_ | refine blk_alloc ?_ _)); refine blk_far ?_ NB183_207.out _; (with_reducible repeat (first | refine blk_drewN ?_ _ | refine blk_drew ?_ | refine blk_alloc ?_ _)); refine blk_far ?_ NB183_207.out _; (with_reducible repeat (first | refine blk_drewN ?_ _ | refine blk_drew ?_ | refine blk_alloc ?_ _)); refine blk_far ?_ NB183_207.out _; (with_reducible repeat (first | refine blk_drewN ?_ _ | refine blk_drew ?_ | refine blk_alloc ?_ _)); refine blk_far ?_ NB183_207.out _; (with_reducible repeat (first | refine blk_drewN ?_ _ | refine blk_drew ?_ | refine blk_alloc ?_ _)); refine blk_far ?_ NB183_207.out _; (with_reducible repeat (first | refine blk_drewN ?_ _ | refine blk_drew ?_ | refine blk_alloc ?_ _)); exact BK183.out⟩, ⟨by (with_reducible repeat (first | refine blk_drewN ?_ _ | refine blk_drew ?_ | refine blk_alloc ?_ _)); refine blk_far ?_ NB191_207.out _; (with_reducible repeat (first | refine blk_drewN ?_ _ | refine blk_drew ?_ | refine blk_alloc ?_ _)); refine blk_far ?_ NB191_207.out _; (with_reducible repeat (first | refine blk_drewN ?_ _ | refine blk_drew ?_ | refine blk_alloc ?_ _)); refine blk_far ?_ NB191_207.out _; (with_reducible repeat (first | refine blk_drewN ?_ _ | refine blk_drew ?_ | refine blk_alloc ?_ _)); refine blk_far ?_ NB191_207.out _; (with_reducible repeat (first | refine blk_drewN ?_ _ | refine blk_drew ?_ | refine blk_alloc ?_ _)); refine blk_far ?_ NB191_207.out _; (with_reducible repeat (first | refine blk_drewN ?_ _ | refine blk_drew ?_ | refine blk_alloc ?_ _)); refine blk_far ?_ NB191_207.out _; (with_reducible repeat (first | refine blk_drewN ?_ _ | refine blk_drew ?_ | refine blk_alloc ?_ _)); exact BK191.out⟩, ⟨by (with_reducible repeat (first | refine blk_drewN ?_ _ | refine blk_drew ?_ | refine blk_alloc ?_ _)); refine blk_far ?_ NB199_207.out _; (with_reducible repeat (first | refine blk_drewN ?_ _ | refine blk_drew ?_ | refine blk_alloc ?_ _)); refine blk_far ?_ NB199_207.out _; (with_reducible repeat (first | refine blk_drewN ?_ _ | refine blk_drew ?_ | refine blk_alloc ?_ _)); refine blk_far ?_ NB199_207.out _; (with_reducible repeat (first | refine blk_drewN ?_ _ | refine blk_drew ?_ | refine blk_alloc ?_ _)); refine blk_far ?_ NB199_207.out _; (with_reducible repeat (first | refine blk_drewN ?_ _ | refine blk_drew ?_ | refine blk_alloc ?_ _)); refine blk_far ?_ NB199_207.out _; (with_reducible repeat (first | refine blk_drewN ?_ _ | refine blk_drew ?_ | refine blk_alloc ?_ _)); refine blk_far ?_ NB199_207.out _; (with_reducible repeat (first | refine blk_drewN ?_ _ | refine blk_drew ?_ | refine blk_alloc ?_ _)); exact BK199.out⟩, ⟨by (with_reducible repeat (first | refine blk_drewN ?_ _ | refine blk_drew ?_ | refine blk_alloc ?_ _)); refine blk_put (cs := #[.int .i64 t200, .int .i64 t201, .int .i64 t202, .int .i64 t203, .int .i64 t204, .int .i64 0]) ?_ 5 _ rfl; (with_reducible repeat (first | refine blk_drewN ?_ _ | refine blk_drew ?_ | refine blk_alloc ?_ _)); refine blk_put (cs := #[.int .i64 t200, .int .i64 t201, .int .i64 t202, .int .i64 t203, .int .i64 0, .int .i64 0]) ?_ 4 _ rfl; (with_reducible repeat (first | refine blk_drewN ?_ _ | refine blk_drew ?_ | refine blk_alloc ?_ _)); refine blk_put (cs := #[.int .i64 t200, .int .i64 t201, .int .i64 t202, .int .i64 0, .int .i64 0, .int .i64 0]) ?_ 3 _ rfl; (with_reducible repeat (first | refine blk_drewN ?_ _ | refine blk_drew ?_ | refine blk_alloc ?_ _)); refine blk_put (cs := #[.int .i64 t200, .int .i64 t201, .int .i64 0, .int .i64 0, .int .i64 0, .int .i64 0]) ?_ 2 _ rfl; (with_reducible repeat (first | refine blk_drewN ?_ _ | refine blk_drew ?_ | refine blk_alloc ?_ _)); refine blk_put (cs := #[.int .i64 t200, .int .i64 0, .int .i64 0, .int .i64 0, .int .i64 0, .int .i64 0]) ?_ 1 _ rfl; (with_reducible repeat (first | refine blk_drewN ?_ _ | refine blk_drew ?_ | refine blk_alloc ?_ _)); refine blk_put (cs := #[.int .i64 0, .int .i64 0, .int .i64 0, .int .i64 0, .int .i64 0, .int .i64 0]) ?_ 0 _ rfl; (with_reducible repeat (first | refine blk_drewN ?_ _ | refine blk_drew ?_ | refine blk_alloc ?_ _)); exact BK207.out⟩, ⟨by repeat (first | (with_reducible first | exact HB.out | apply below_alloc | apply pw_below_drewN | apply below_drew1 | refine below_set ?_ GE174.out | refine below_set ?_ GE183.out | refine below_set ?_ GE191.out | refine below_set ?_ GE199.out | refine below_set ?_ GE207.out) | exact HB.out)⟩⟩
        · rw [if_neg c39] at H
          have c39b0 : (!(t176 == t184) || (!(t177 == t185) || (!(t178 == t186) || (!(t179 == t187) || (!(t180 == t188) || (!(t181 == t189))))))) = false := by simpa using c39
          clear c39
          (first | rw [c39b0] | (simp only [i64_w, i32_w]; rw [c39b0]) | skip)
          by_cases c49 : t182 = t190
          · rw [if_pos c49] at H
            have c49b0 : (t182 == t190) = true := beq_iff_eq.mpr c49
            have c49b1 : (t182 != t190) = false := bne_eq_false_iff_eq.mpr c49
            clear c49
            by_cases c50 : (!(t192 == t200) || (!(t193 == t201) || (!(t194 == t202) || (!(t195 == t203) || (!(t196 == t204) || (!(t197 == t205))))))) = true
            · rw [if_pos c50] at H
              have c50b0 : (!(t192 == t200) || (!(t193 == t201) || (!(t194 == t202) || (!(t195 == t203) || (!(t196 == t204) || (!(t197 == t205))))))) = true := c50
              clear c50
              have H' := Aside0.mk H
              clear H
              have hnb51 := NB183_174.out
              have hnc51 := NB174_183.out
              have hnb52 := NB183_191.out
              have hnc52 := NB191_183.out
              have hnb53 := NB183_199.out
              have hnc53 := NB199_183.out
              have hnb54 := NB183_207.out
              have hnc54 := NB207_183.out
              have hcz55_0 : w33.cell? ⟨gb183, 0, none⟩ = some (.int .i64 t176) := (blk_cell BK183.out 0).trans rfl
              have hcz55_1 : w33.cell? ⟨gb183, 1, none⟩ = some (.int .i64 t177) := (blk_cell BK183.out 1).trans rfl
              have hcz55_2 : w33.cell? ⟨gb183, 2, none⟩ = some (.int .i64 t178) := (blk_cell BK183.out 2).trans rfl
              have hcz55_3 : w33.cell? ⟨gb183, 3, none⟩ = some (.int .i64 t179) := (blk_cell BK183.out 3).trans rfl
              have hcz55_4 : w33.cell? ⟨gb183, 4, none⟩ = some (.int .i64 t180) := (blk_cell BK183.out 4).trans rfl
              have hcz55_5 : w33.cell? ⟨gb183, 5, none⟩ = some (.int .i64 t181) := (blk_cell BK183.out 5).trans rfl
              have hfz55_0 := blk_frozen BK183.out 0
              have hfz55_1 := blk_frozen BK183.out 1
              have hfz55_2 := blk_frozen BK183.out 2
              have hfz55_3 := blk_frozen BK183.out 3
              have hfz55_4 := blk_frozen BK183.out 4
              have hfz55_5 := blk_frozen BK183.out 5
              have hnb56 := NB191_174.out
              have hnc56 := NB174_191.out
              have hnb57 := NB191_199.out
              have hnc57 := NB199_191.out
              have hnb58 := NB191_207.out
              have hnc58 := NB207_191.out
              have hcz59_0 : w33.cell? ⟨gb191, 0, none⟩ = some (.int .i64 t184) := (blk_cell BK191.out 0).trans rfl
              have hcz59_1 : w33.cell? ⟨gb191, 1, none⟩ = some (.int .i64 t185) := (blk_cell BK191.out 1).trans rfl
              have hcz59_2 : w33.cell? ⟨gb191, 2, none⟩ = some (.int .i64 t186) := (blk_cell BK191.out 2).trans rfl
              have hcz59_3 : w33.cell? ⟨gb191, 3, none⟩ = some (.int .i64 t187) := (blk_cell BK191.out 3).trans rfl
              have hcz59_4 : w33.cell? ⟨gb191, 4, none⟩ = some (.int .i64 t188) := (blk_cell BK191.out 4).trans rfl
              have hcz59_5 : w33.cell? ⟨gb191, 5, none⟩ = some (.int .i64 t189) := (blk_cell BK191.out 5).trans rfl
              have hfz59_0 := blk_frozen BK191.out 0
              have hfz59_1 := blk_frozen BK191.out 1
              have hfz59_2 := blk_frozen BK191.out 2
              have hfz59_3 := blk_frozen BK191.out 3
              have hfz59_4 := blk_frozen BK191.out 4
              have hfz59_5 := blk_frozen BK191.out 5
              have hnb60 := NB199_174.out
              have hnc60 := NB174_199.out
              have hnb61 := NB199_207.out
              have hnc61 := NB207_199.out
              have hcz62_0 : w33.cell? ⟨gb199, 0, none⟩ = some (.int .i64 t192) := (blk_cell BK199.out 0).trans rfl
              have hcz62_1 : w33.cell? ⟨gb199, 1, none⟩ = some (.int .i64 t193) := (blk_cell BK199.out 1).trans rfl
              have hcz62_2 : w33.cell? ⟨gb199, 2, none⟩ = some (.int .i64 t194) := (blk_cell BK199.out 2).trans rfl
              have hcz62_3 : w33.cell? ⟨gb199, 3, none⟩ = some (.int .i64 t195) := (blk_cell BK199.out 3).trans rfl
              have hcz62_4 : w33.cell? ⟨gb199, 4, none⟩ = some (.int .i64 t196) := (blk_cell BK199.out 4).trans rfl
              have hcz62_5 : w33.cell? ⟨gb199, 5, none⟩ = some (.int .i64 t197) := (blk_cell BK199.out 5).trans rfl
              have hfz62_0 := blk_frozen BK199.out 0
              have hfz62_1 := blk_frozen BK199.out 1
              have hfz62_2 := blk_frozen BK199.out 2
              have hfz62_3 := blk_frozen BK199.out 3
              have hfz62_4 := blk_frozen BK199.out 4
              have hfz62_5 := blk_frozen BK199.out 5
              have hnb63 := NB207_174.out
              have hnc63 := NB174_207.out
              have hcz64_0 : w33.cell? ⟨gb207, 0, none⟩ = some (.int .i64 0) := (blk_cell BK207.out 0).trans rfl
              have hcz64_1 : w33.cell? ⟨gb207, 1, none⟩ = some (.int .i64 0) := (blk_cell BK207.out 1).trans rfl
              have hcz64_2 : w33.cell? ⟨gb207, 2, none⟩ = some (.int .i64 0) := (blk_cell BK207.out 2).trans rfl
              have hcz64_3 : w33.cell? ⟨gb207, 3, none⟩ = some (.int .i64 0) := (blk_cell BK207.out 3).trans rfl
              have hcz64_4 : w33.cell? ⟨gb207, 4, none⟩ = some (.int .i64 0) := (blk_cell BK207.out 4).trans rfl
              have hcz64_5 : w33.cell? ⟨gb207, 5, none⟩ = some (.int .i64 0) := (blk_cell BK207.out 5).trans rfl
              have hfz64_0 := blk_frozen BK207.out 0
              have hfz64_1 := blk_frozen BK207.out 1
              have hfz64_2 := blk_frozen BK207.out 2
              have hfz64_3 := blk_frozen BK207.out 3
              have hfz64_4 := blk_frozen BK207.out 4
              have hfz64_5 := blk_frozen BK207.out 5
              go_wp2
              go_meet
              case rel => exact ⟨_, (true), (by first | rfl | (simp; done) | (simp [*]; done)), H', ⟨by first | omega | exact Nat.le_refl _⟩, ⟨by (with_reducible repeat (first | refine blk_drewN ?_ _ | refine blk_drew ?_ | refine blk_alloc ?_ _)); refine blk_far ?_ NB174_207.out _; (with_reducible repeat (first | refine blk_drewN ?_ _ | refine blk_drew ?_ | refine blk_alloc ?_ _)); refine blk_far ?_ NB174_207.out _; (with_reducible repeat (first | refine blk_drewN ?_ _ | refine blk_drew ?_ | refine blk_alloc ?_ _)); refine blk_far ?_ NB174_207.out _; (with_reducible repeat (first | refine blk_drewN ?_ _ | refine blk_drew ?_ | refine blk_alloc ?_ _)); refine blk_far ?_ NB174_207.out _; (with_reducible repeat (first | refine blk_drewN ?_ _ | refine blk_drew ?_ | refine blk_alloc ?_ _)); refine blk_far ?_ NB174_207.out _; (with_reducible repeat (first | refine blk_drewN ?_ _ | refine blk_drew ?_ | refine blk_alloc ?_ _)); refine blk_far ?_ NB174_207.out _; (with_reducible repeat (first | refine blk_drewN ?_ _ | refine blk_drew ?_ | refine blk_alloc ?_ _)); exact BK174.out⟩, ⟨by (with_reducible repeat (first | refine blk_drewN ?_ _ | refine blk_drew ?_ | refine blk_alloc ?_ _)); refine blk_far ?_ NB183_207.out _; (with_reducible repeat (first | refine blk_drewN ?_ _ | refine blk_drew ?_ | refine blk_alloc ?_ _)); refine blk_far ?_ NB183_207.out _; (with_reducible repeat (first | refine blk_drewN ?_ _ | refine blk_drew ?_ | refine blk_alloc ?_ _)); refine blk_far ?_ NB183_207.out _; (with_reducible repeat (first | refine blk_drewN ?_ _ | refine blk_drew ?_ | refine blk_alloc ?_ _)); refine blk_far ?_ NB183_207.out _; (with_reducible repeat (first | refine blk_drewN ?_ _ | refine blk_drew ?_ | refine blk_alloc ?_ _)); refine blk_far ?_ NB183_207.out _; (with_reducible repeat (first | refine blk_drewN ?_ _ | refine blk_drew ?_ | refine blk_alloc ?_ _)); refine blk_far ?_ NB183_207.out _; (with_reducible repeat (first | refine blk_drewN ?_ _ | refine blk_drew ?_ | refine blk_alloc ?_ _)); exact BK183.out⟩, ⟨by (with_reducible repeat (first | refine blk_drewN ?_ _ | refine blk_drew ?_ | refine blk_alloc ?_ _)); refine blk_far ?_ NB191_207.out _; (with_reducible repeat (first | refine blk_drewN ?_ _ | refine blk_drew ?_ | refine blk_alloc ?_ _)); refine blk_far ?_ NB191_207.out _; (with_reducible repeat (first | refine blk_drewN ?_ _ | refine blk_drew ?_ | refine blk_alloc ?_ _)); refine blk_far ?_ NB191_207.out _; (with_reducible repeat (first | refine blk_drewN ?_ _ | refine blk_drew ?_ | refine blk_alloc ?_ _)); refine blk_far ?_ NB191_207.out _; (with_reducible repeat (first | refine blk_drewN ?_ _ | refine blk_drew ?_ | refine blk_alloc ?_ _)); refine blk_far ?_ NB191_207.out _; (with_reducible repeat (first | refine blk_drewN ?_ _ | refine blk_drew ?_ | refine blk_alloc ?_ _)); refine blk_far ?_ NB191_207.out _; (with_reducible repeat (first | refine blk_drewN ?_ _ | refine blk_drew ?_ | refine blk_alloc ?_ _)); exact BK191.out⟩, ⟨by (with_reducible repeat (first | refine blk_drewN ?_ _ | refine blk_drew ?_ | refine blk_alloc ?_ _)); refine blk_far ?_ NB199_207.out _; (with_reducible repeat (first | refine blk_drewN ?_ _ | refine blk_drew ?_ | refine blk_alloc ?_ _)); refine blk_far ?_ NB199_207.out _; (with_reducible repeat (first | refine blk_drewN ?_ _ | refine blk_drew ?_ | refine blk_alloc ?_ _)); refine blk_far ?_ NB199_207.out _; (with_reducible repeat (first | refine blk_drewN ?_ _ | refine blk_drew ?_ | refine blk_alloc ?_ _)); refine blk_far ?_ NB199_207.out _; (with_reducible repeat (first | refine blk_drewN ?_ _ | refine blk_drew ?_ | refine blk_alloc ?_ _)); refine blk_far ?_ NB199_207.out _; (with_reducible repeat (first | refine blk_drewN ?_ _ | refine blk_drew ?_ | refine blk_alloc ?_ _)); refine blk_far ?_ NB199_207.out _; (with_reducible repeat (first | refine blk_drewN ?_ _ | refine blk_drew ?_ | refine blk_alloc ?_ _)); exact BK199.out⟩, ⟨by (with_reducible repeat (first | refine blk_drewN ?_ _ | refine blk_drew ?_ | refine blk_alloc ?_ _)); refine blk_put (cs := #[.int .i64 t200, .int .i64 t201, .int .i64 t202, .int .i64 t203, .int .i64 t204, .int .i64 0]) ?_ 5 _ rfl; (with_reducible repeat (first | refine blk_drewN ?_ _ | refine blk_drew ?_ | refine blk_alloc ?_ _)); refine blk_put (cs := #[.int .i64 t200, .int .i64 t201, .int .i64 t202, .int .i64 t203, .int .i64 0, .int .i64 0]) ?_ 4 _ rfl; (with_reducible repeat (first | refine blk_drewN ?_ _ | refine blk_drew ?_ | refine blk_alloc ?_ _)); refine blk_put (cs := #[.int .i64 t200, .int .i64 t201, .int .i64 t202, .int .i64 0, .int .i64 0, .int .i64 0]) ?_ 3 _ rfl; (with_reducible repeat (first | refine blk_drewN ?_ _ | refine blk_drew ?_ | refine blk_alloc ?_ _)); refine blk_put (cs := #[.int .i64 t200, .int .i64 t201, .int .i64 0, .int .i64 0, .int .i64 0, .int .i64 0]) ?_ 2 _ rfl; (with_reducible repeat (first | refine blk_drewN ?_ _ | refine blk_drew ?_ | refine blk_alloc ?_ _)); refine blk_put (cs := #[.int .i64 t200, .int .i64 0, .int .i64 0, .int .i64 0, .int .i64 0, .int .i64 0]) ?_ 1 _ rfl; (with_reducible repeat (first | refine blk_drewN ?_ _ | refine blk_drew ?_ | refine blk_alloc ?_ _)); refine blk_put (cs := #[.int .i64 0, .int .i64 0, .int .i64 0, .int .i64 0, .int .i64 0, .int .i64 0]) ?_ 0 _ rfl; (with_reducible repeat (first | refine blk_drewN ?_ _ | refine blk_drew ?_ | refine blk_alloc ?_ _)); exact BK207.out⟩, ⟨by repeat (first | (with_reducible first | exact HB.out | apply below_alloc | apply pw_below_drewN | apply below_drew1 | refine below_set ?_ GE174.out | refine below_set ?_ GE183.out | refine below_set ?_ GE191.out | refine below_set ?_ GE199.out | refine below_set ?_ GE207.out) | exact HB.out)⟩⟩
            · rw [if_neg c50] at H
              have c50b0 : (!(t192 == t200) || (!(t193 == t201) || (!(t194 == t202) || (!(t195 == t203) || (!(t196 == t204) || (!(t197 == t205))))))) = false := by simpa using c50
              clear c50
              have H' := Aside0.mk H
              clear H
              have hnb65 := NB183_174.out
              have hnc65 := NB174_183.out
              have hnb66 := NB183_191.out
              have hnc66 := NB191_183.out
              have hnb67 := NB183_199.out
              have hnc67 := NB199_183.out
              have hnb68 := NB183_207.out
              have hnc68 := NB207_183.out
              have hcz69_0 : w33.cell? ⟨gb183, 0, none⟩ = some (.int .i64 t176) := (blk_cell BK183.out 0).trans rfl
              have hcz69_1 : w33.cell? ⟨gb183, 1, none⟩ = some (.int .i64 t177) := (blk_cell BK183.out 1).trans rfl
              have hcz69_2 : w33.cell? ⟨gb183, 2, none⟩ = some (.int .i64 t178) := (blk_cell BK183.out 2).trans rfl
              have hcz69_3 : w33.cell? ⟨gb183, 3, none⟩ = some (.int .i64 t179) := (blk_cell BK183.out 3).trans rfl
              have hcz69_4 : w33.cell? ⟨gb183, 4, none⟩ = some (.int .i64 t180) := (blk_cell BK183.out 4).trans rfl
              have hcz69_5 : w33.cell? ⟨gb183, 5, none⟩ = some (.int .i64 t181) := (blk_cell BK183.out 5).trans rfl
              have hfz69_0 := blk_frozen BK183.out 0
              have hfz69_1 := blk_frozen BK183.out 1
              have hfz69_2 := blk_frozen BK183.out 2
              have hfz69_3 := blk_frozen BK183.out 3
              have hfz69_4 := blk_frozen BK183.out 4
              have hfz69_5 := blk_frozen BK183.out 5
              have hnb70 := NB191_174.out
              have hnc70 := NB174_191.out
              have hnb71 := NB191_199.out
              have hnc71 := NB199_191.out
              have hnb72 := NB191_207.out
              have hnc72 := NB207_191.out
              have hcz73_0 : w33.cell? ⟨gb191, 0, none⟩ = some (.int .i64 t184) := (blk_cell BK191.out 0).trans rfl
              have hcz73_1 : w33.cell? ⟨gb191, 1, none⟩ = some (.int .i64 t185) := (blk_cell BK191.out 1).trans rfl
              have hcz73_2 : w33.cell? ⟨gb191, 2, none⟩ = some (.int .i64 t186) := (blk_cell BK191.out 2).trans rfl
              have hcz73_3 : w33.cell? ⟨gb191, 3, none⟩ = some (.int .i64 t187) := (blk_cell BK191.out 3).trans rfl
              have hcz73_4 : w33.cell? ⟨gb191, 4, none⟩ = some (.int .i64 t188) := (blk_cell BK191.out 4).trans rfl
              have hcz73_5 : w33.cell? ⟨gb191, 5, none⟩ = some (.int .i64 t189) := (blk_cell BK191.out 5).trans rfl
              have hfz73_0 := blk_frozen BK191.out 0
              have hfz73_1 := blk_frozen BK191.out 1
              have hfz73_2 := blk_frozen BK191.out 2
              have hfz73_3 := blk_frozen BK191.out 3
              have hfz73_4 := blk_frozen BK191.out 4
              have hfz73_5 := blk_frozen BK191.out 5
              have hnb74 := NB199_174.out
              have hnc74 := NB174_199.out
              have hnb75 := NB199_207.out
              have hnc75 := NB207_199.out
              have hcz76_0 : w33.cell? ⟨gb199, 0, none⟩ = some (.int .i64 t192) := (blk_cell BK199.out 0).trans rfl
              have hcz76_1 : w33.cell? ⟨gb199, 1, none⟩ = some (.int .i64 t193) := (blk_cell BK199.out 1).trans rfl
              have hcz76_2 : w33.cell? ⟨gb199, 2, none⟩ = some (.int .i64 t194) := (blk_cell BK199.out 2).trans rfl
              have hcz76_3 : w33.cell? ⟨gb199, 3, none⟩ = some (.int .i64 t195) := (blk_cell BK199.out 3).trans rfl
              have hcz76_4 : w33.cell? ⟨gb199, 4, none⟩ = some (.int .i64 t196) := (blk_cell BK199.out 4).trans rfl
              have hcz76_5 : w33.cell? ⟨gb199, 5, none⟩ = some (.int .i64 t197) := (blk_cell BK199.out 5).trans rfl
              have hfz76_0 := blk_frozen BK199.out 0
              have hfz76_1 := blk_frozen BK199.out 1
              have hfz76_2 := blk_frozen BK199.out 2
              have hfz76_3 := blk_frozen BK199.out 3
              have hfz76_4 := blk_frozen BK199.out 4
              have hfz76_5 := blk_frozen BK199.out 5
              have hnb77 := NB207_174.out
              have hnc77 := NB174_207.out
              have hcz78_0 : w33.cell? ⟨gb207, 0, none⟩ = some (.int .i64 0) := (blk_cell BK207.out 0).trans rfl
              have hcz78_1 : w33.cell? ⟨gb207, 1, none⟩ = some (.int .i64 0) := (blk_cell BK207.out 1).trans rfl
              have hcz78_2 : w33.cell? ⟨gb207, 2, none⟩ = some (.int .i64 0) := (blk_cell BK207.out 2).trans rfl
              have hcz78_3 : w33.cell? ⟨gb207, 3, none⟩ = some (.int .i64 0) := (blk_cell BK207.out 3).trans rfl
              have hcz78_4 : w33.cell? ⟨gb207, 4, none⟩ = some (.int .i64 0) := (blk_cell BK207.out 4).trans rfl
              have hcz78_5 : w33.cell? ⟨gb207, 5, none⟩ = some (.int .i64 0) := (blk_cell BK207.out 5).trans rfl
              have hfz78_0 := blk_frozen BK207.out 0
              have hfz78_1 := blk_frozen BK207.out 1
              have hfz78_2 := blk_frozen BK207.out 2
              have hfz78_3 := blk_frozen BK207.out 3
              have hfz78_4 := blk_frozen BK207.out 4
              have hfz78_5 := blk_frozen BK207.out 5
              go_wp2
              go_meet
              case rel => exact ⟨_, ((t198 != t206)), (by first | rfl | (simp; done) | (simp [*]; done)), H', ⟨by first | omega | exact Nat.le_refl _⟩, ⟨by (with_reducible repeat (first | refine blk_drewN ?_ _ | refine blk_drew ?_ | refine blk_alloc ?_ _)); refine blk_far ?_ NB174_207.out _; (with_reducible repeat (first | refine blk_drewN ?_ _ | refine blk_drew ?_ | refine blk_alloc ?_ _)); refine blk_far ?_ NB174_207.out _; (with_reducible repeat (first | refine blk_drewN ?_ _ | refine blk_drew ?_ | refine blk_alloc ?_ _)); refine blk_far ?_ NB174_207.out _; (with_reducible repeat (first | refine blk_drewN ?_ _ | refine blk_drew ?_ | refine blk_alloc ?_ _)); refine blk_far ?_ NB174_207.out _; (with_reducible repeat (first | refine blk_drewN ?_ _ | refine blk_drew ?_ | refine blk_alloc ?_ _)); refine blk_far ?_ NB174_207.out _; (with_reducible repeat (first | refine blk_drewN ?_ _ | refine blk_drew ?_ | refine blk_alloc ?_ _)); refine blk_far ?_ NB174_207.out _; (with_reducible repeat (first | refine blk_drewN ?_ _ | refine blk_drew ?_ | refine blk_alloc ?_ _)); exact BK174.out⟩, ⟨by (with_reducible repeat (first | refine blk_drewN ?_ _ | refine blk_drew ?_ | refine blk_alloc ?_ _)); refine blk_far ?_ NB183_207.out _; (with_reducible repeat (first | refine blk_drewN ?_ _ | refine blk_drew ?_ | refine blk_alloc ?_ _)); refine blk_far ?_ NB183_207.out _; (with_reducible repeat (first | refine blk_drewN ?_ _ | refine blk_drew ?_ | refine blk_alloc ?_ _)); refine blk_far ?_ NB183_207.out _; (with_reducible repeat (first | refine blk_drewN ?_ _ | refine blk_drew ?_ | refine blk_alloc ?_ _)); refine blk_far ?_ NB183_207.out _; (with_reducible repeat (first | refine blk_drewN ?_ _ | refine blk_drew ?_ | refine blk_alloc ?_ _)); refine blk_far ?_ NB183_207.out _; (with_reducible repeat (first | refine blk_drewN ?_ _ | refine blk_drew ?_ | refine blk_alloc ?_ _)); refine blk_far ?_ NB183_207.out _; (with_reducible repeat (first | refine blk_drewN ?_ _ | refine blk_drew ?_ | refine blk_alloc ?_ _)); exact BK183.out⟩, ⟨by (with_reducible repeat (first | refine blk_drewN ?_ _ | refine blk_drew ?_ | refine blk_alloc ?_ _)); refine blk_far ?_ NB191_207.out _; (with_reducible repeat (first | refine blk_drewN ?_ _ | refine blk_drew ?_ | refine blk_alloc ?_ _)); refine blk_far ?_ NB191_207.out _; (with_reducible repeat (first | refine blk_drewN ?_ _ | refine blk_drew ?_ | refine blk_alloc ?_ _)); refine blk_far ?_ NB191_207.out _; (with_reducible repeat (first | refine blk_drewN ?_ _ | refine blk_drew ?_ | refine blk_alloc ?_ _)); refine blk_far ?_ NB191_207.out _; (with_reducible repeat (first | refine blk_drewN ?_ _ | refine blk_drew ?_ | refine blk_alloc ?_ _)); refine blk_far ?_ NB191_207.out _; (with_reducible repeat (first | refine blk_drewN ?_ _ | refine blk_drew ?_ | refine blk_alloc ?_ _)); refine blk_far ?_ NB191_207.out _; (with_reducible repeat (first | refine blk_drewN ?_ _ | refine blk_drew ?_ | refine blk_alloc ?_ _)); exact BK191.out⟩, ⟨by (with_reducible repeat (first | refine blk_drewN ?_ _ | refine blk_drew ?_ | refine blk_alloc ?_ _)); refine blk_far ?_ NB199_207.out _; (with_reducible repeat (first | refine blk_drewN ?_ _ | refine blk_drew ?_ | refine blk_alloc ?_ _)); refine blk_far ?_ NB199_207.out _; (with_reducible repeat (first | refine blk_drewN ?_ _ | refine blk_drew ?_ | refine blk_alloc ?_ _)); refine blk_far ?_ NB199_207.out _; (with_reducible repeat (first | refine blk_drewN ?_ _ | refine blk_drew ?_ | refine blk_alloc ?_ _)); refine blk_far ?_ NB199_207.out _; (with_reducible repeat (first | refine blk_drewN ?_ _ | refine blk_drew ?_ | refine blk_alloc ?_ _)); refine blk_far ?_ NB199_207.out _; (with_reducible repeat (first | refine blk_drewN ?_ _ | refine blk_drew ?_ | refine blk_alloc ?_ _)); refine blk_far ?_ NB199_207.out _; (with_reducible repeat (first | refine blk_drewN ?_ _ | refine blk_drew ?_ | refine blk_alloc ?_ _)); exact BK199.out⟩, ⟨by (with_reducible repeat (first | refine blk_drewN ?_ _ | refine blk_drew ?_ | refine blk_alloc ?_ _)); refine blk_put (cs := #[.int .i64 t200, .int .i64 t201, .int .i64 t202, .int .i64 t203, .int .i64 t204, .int .i64 0]) ?_ 5 _ rfl; (with_reducible repeat (first | refine blk_drewN ?_ _ | refine blk_drew ?_ | refine blk_alloc ?_ _)); refine blk_put (cs := #[.int .i64 t200, .int .i64 t201, .int .i64 t202, .int .i64 t203, .int .i64 0, .int .i64 0]) ?_ 4 _ rfl; (with_reducible repeat (first | refine blk_drewN ?_ _ | refine blk_drew ?_ | refine blk_alloc ?_ _)); refine blk_put (cs := #[.int .i64 t200, .int .i64 t201, .int .i64 t202, .int .i64 0, .int .i64 0, .int .i64 0]) ?_ 3 _ rfl; (with_reducible repeat (first | refine blk_drewN ?_ _ | refine blk_drew ?_ | refine blk_alloc ?_ _)); refine blk_put (cs := #[.int .i64 t200, .int .i64 t201, .int .i64 0, .int .i64 0, .int .i64 0, .int .i64 0]) ?_ 2 _ rfl; (with_reducible repeat (first | refine blk_drewN ?_ _ | refine blk_drew ?_ | refine blk_alloc ?_ _)); refine blk_put (cs := #[.int .i64 t200, .int .i64 0, .int .i64 0, .int .i64 0, .int .i64 0, .int .i64 0]) ?_ 1 _ rfl; (with_reducible repeat (first | refine blk_drewN ?_ _ | refine blk_drew ?_ | refine blk_alloc ?_ _)); refine blk_put (cs := #[.int .i64 0, .int .i64 0, .int .i64 0, .int .i64 0, .int .i64 0, .int .i64 0]) ?_ 0 _ rfl; (with_reducible repeat (first | refine blk_drewN ?_ _ | refine blk_drew ?_ | refine blk_alloc ?_ _)); exact BK207.out⟩, ⟨by repeat (first | (with_reducible first | exact HB.out | apply below_alloc | apply pw_below_drewN | apply below_drew1 | refine below_set ?_ GE174.out | refine below_set ?_ GE183.out | refine below_set ?_ GE191.out | refine below_set ?_ GE199.out | refine below_set ?_ GE207.out) | exact HB.out)⟩⟩
          · rw [if_neg c49] at H
            have c49b0 : (t182 == t190) = false := beq_eq_false_iff_ne.mpr c49
            have c49b1 : (t182 != t190) = true := bne_iff_ne.mpr c49
            have H' := Aside0.mk H
            clear H
            have hnb79 := NB183_174.out
            have hnc79 := NB174_183.out
            have hnb80 := NB183_191.out
            have hnc80 := NB191_183.out
            have hnb81 := NB183_199.out
            have hnc81 := NB199_183.out
            have hnb82 := NB183_207.out
            have hnc82 := NB207_183.out
            have hcz83_0 : w33.cell? ⟨gb183, 0, none⟩ = some (.int .i64 t176) := (blk_cell BK183.out 0).trans rfl
            have hcz83_1 : w33.cell? ⟨gb183, 1, none⟩ = some (.int .i64 t177) := (blk_cell BK183.out 1).trans rfl
            have hcz83_2 : w33.cell? ⟨gb183, 2, none⟩ = some (.int .i64 t178) := (blk_cell BK183.out 2).trans rfl
            have hcz83_3 : w33.cell? ⟨gb183, 3, none⟩ = some (.int .i64 t179) := (blk_cell BK183.out 3).trans rfl
            have hcz83_4 : w33.cell? ⟨gb183, 4, none⟩ = some (.int .i64 t180) := (blk_cell BK183.out 4).trans rfl
            have hcz83_5 : w33.cell? ⟨gb183, 5, none⟩ = some (.int .i64 t181) := (blk_cell BK183.out 5).trans rfl
            have hfz83_0 := blk_frozen BK183.out 0
            have hfz83_1 := blk_frozen BK183.out 1
            have hfz83_2 := blk_frozen BK183.out 2
            have hfz83_3 := blk_frozen BK183.out 3
            have hfz83_4 := blk_frozen BK183.out 4
            have hfz83_5 := blk_frozen BK183.out 5
            have hnb84 := NB191_174.out
            have hnc84 := NB174_191.out
            have hnb85 := NB191_199.out
            have hnc85 := NB199_191.out
            have hnb86 := NB191_207.out
            have hnc86 := NB207_191.out
            have hcz87_0 : w33.cell? ⟨gb191, 0, none⟩ = some (.int .i64 t184) := (blk_cell BK191.out 0).trans rfl
            have hcz87_1 : w33.cell? ⟨gb191, 1, none⟩ = some (.int .i64 t185) := (blk_cell BK191.out 1).trans rfl
            have hcz87_2 : w33.cell? ⟨gb191, 2, none⟩ = some (.int .i64 t186) := (blk_cell BK191.out 2).trans rfl
            have hcz87_3 : w33.cell? ⟨gb191, 3, none⟩ = some (.int .i64 t187) := (blk_cell BK191.out 3).trans rfl
            have hcz87_4 : w33.cell? ⟨gb191, 4, none⟩ = some (.int .i64 t188) := (blk_cell BK191.out 4).trans rfl
            have hcz87_5 : w33.cell? ⟨gb191, 5, none⟩ = some (.int .i64 t189) := (blk_cell BK191.out 5).trans rfl
            have hfz87_0 := blk_frozen BK191.out 0
            have hfz87_1 := blk_frozen BK191.out 1
            have hfz87_2 := blk_frozen BK191.out 2
            have hfz87_3 := blk_frozen BK191.out 3
            have hfz87_4 := blk_frozen BK191.out 4
            have hfz87_5 := blk_frozen BK191.out 5
            go_wp2
            go_meet
            case rel => exact ⟨_, (true), (by first | rfl | (simp; done) | (simp [*]; done)), H', ⟨by first | omega | exact Nat.le_refl _⟩, ⟨by (with_reducible repeat (first | refine blk_drewN ?_ _ | refine blk_drew ?_ | refine blk_alloc ?_ _)); refine blk_far ?_ NB174_207.out _; (with_reducible repeat (first | refine blk_drewN ?_ _ | refine blk_drew ?_ | refine blk_alloc ?_ _)); refine blk_far ?_ NB174_207.out _; (with_reducible repeat (first | refine blk_drewN ?_ _ | refine blk_drew ?_ | refine blk_alloc ?_ _)); refine blk_far ?_ NB174_207.out _; (with_reducible repeat (first | refine blk_drewN ?_ _ | refine blk_drew ?_ | refine blk_alloc ?_ _)); refine blk_far ?_ NB174_207.out _; (with_reducible repeat (first | refine blk_drewN ?_ _ | refine blk_drew ?_ | refine blk_alloc ?_ _)); refine blk_far ?_ NB174_207.out _; (with_reducible repeat (first | refine blk_drewN ?_ _ | refine blk_drew ?_ | refine blk_alloc ?_ _)); refine blk_far ?_ NB174_207.out _; (with_reducible repeat (first | refine blk_drewN ?_ _ | refine blk_drew ?_ | refine blk_alloc ?_ _)); exact BK174.out⟩, ⟨by (with_reducible repeat (first | refine blk_drewN ?_ _ | refine blk_drew ?_ | refine blk_alloc ?_ _)); refine blk_far ?_ NB183_207.out _; (with_reducible repeat (first | refine blk_drewN ?_ _ | refine blk_drew ?_ | refine blk_alloc ?_ _)); refine blk_far ?_ NB183_207.out _; (with_reducible repeat (first | refine blk_drewN ?_ _ | refine blk_drew ?_ | refine blk_alloc ?_ _)); refine blk_far ?_ NB183_207.out _; (with_reducible repeat (first | refine blk_drewN ?_ _ | refine blk_drew ?_ | refine blk_alloc ?_ _)); refine blk_far ?_ NB183_207.out _; (with_reducible repeat (first | refine blk_drewN ?_ _ | refine blk_drew ?_ | refine blk_alloc ?_ _)); refine blk_far ?_ NB183_207.out _; (with_reducible repeat (first | refine blk_drewN ?_ _ | refine blk_drew ?_ | refine blk_alloc ?_ _)); refine blk_far ?_ NB183_207.out _; (with_reducible repeat (first | refine blk_drewN ?_ _ | refine blk_drew ?_ | refine blk_alloc ?_ _)); exact BK183.out⟩, ⟨by (with_reducible repeat (first | refine blk_drewN ?_ _ | refine blk_drew ?_ | refine blk_alloc ?_ _)); refine blk_far ?_ NB191_207.out _; (with_reducible repeat (first | refine blk_drewN ?_ _ | refine blk_drew ?_ | refine blk_alloc ?_ _)); refine blk_far ?_ NB191_207.out _; (with_reducible repeat (first | refine blk_drewN ?_ _ | refine blk_drew ?_ | refine blk_alloc ?_ _)); refine blk_far ?_ NB191_207.out _; (with_reducible repeat (first | refine blk_drewN ?_ _ | refine blk_drew ?_ | refine blk_alloc ?_ _)); refine blk_far ?_ NB191_207.out _; (with_reducible repeat (first | refine blk_drewN ?_ _ | refine blk_drew ?_ | refine blk_alloc ?_ _)); refine blk_far ?_ NB191_207.out _; (with_reducible repeat (first | refine blk_drewN ?_ _ | refine blk_drew ?_ | refine blk_alloc ?_ _)); refine blk_far ?_ NB191_207.out _; (with_reducible repeat (first | refine blk_drewN ?_ _ | refine blk_drew ?_ | refine blk_alloc ?_ _)); exact BK191.out⟩, ⟨by (with_reducible repeat (first | refine blk_drewN ?_ _ | refine blk_drew ?_ | refine blk_alloc ?_ _)); refine blk_far ?_ NB199_207.out _; (with_reducible repeat (first | refine blk_drewN ?_ _ | refine blk_drew ?_ | refine blk_alloc ?_ _)); refine blk_far ?_ NB199_207.out _; (with_reducible repeat (first | refine blk_drewN ?_ _ | refine blk_drew ?_ | refine blk_alloc ?_ _)); refine blk_far ?_ NB199_207.out _; (with_reducible repeat (first | refine blk_drewN ?_ _ | refine blk_drew ?_ | refine blk_alloc ?_ _)); refine blk_far ?_ NB199_207.out _; (with_reducible repeat (first | refine blk_drewN ?_ _ | refine blk_drew ?_ | refine blk_alloc ?_ _)); refine blk_far ?_ NB199_207.out _; (with_reducible repeat (first | refine blk_drewN ?_ _ | refine blk_drew ?_ | refine blk_alloc ?_ _)); refine blk_far ?_ NB199_207.out _; (with_reducible repeat (first | refine blk_drewN ?_ _ | refine blk_drew ?_ | refine blk_alloc ?_ _)); exact BK199.out⟩, ⟨by (with_reducible repeat (first | refine blk_drewN ?_ _ | refine blk_drew ?_ | refine blk_alloc ?_ _)); refine blk_put (cs := #[.int .i64 t200, .int .i64 t201, .int .i64 t202, .int .i64 t203, .int .i64 t204, .int .i64 0]) ?_ 5 _ rfl; (with_reducible repeat (first | refine blk_drewN ?_ _ | refine blk_drew ?_ | refine blk_alloc ?_ _)); refine blk_put (cs := #[.int .i64 t200, .int .i64 t201, .int .i64 t202, .int .i64 t203, .int .i64 0, .int .i64 0]) ?_ 4 _ rfl; (with_reducible repeat (first | refine blk_drewN ?_ _ | refine blk_drew ?_ | refine blk_alloc ?_ _)); refine blk_put (cs := #[.int .i64 t200, .int .i64 t201, .int .i64 t202, .int .i64 0, .int .i64 0, .int .i64 0]) ?_ 3 _ rfl; (with_reducible repeat (first | refine blk_drewN ?_ _ | refine blk_drew ?_ | refine blk_alloc ?_ _)); refine blk_put (cs := #[.int .i64 t200, .int .i64 t201, .int .i64 0, .int .i64 0, .int .i64 0, .int .i64 0]) ?_ 2 _ rfl; (with_reducible repeat (first | refine blk_drewN ?_ _ | refine blk_drew ?_ | refine blk_alloc ?_ _)); refine blk_put (cs := #[.int .i64 t200, .int .i64 0, .int .i64 0, .int .i64 0, .int .i64 0, .int .i64 0]) ?_ 1 _ rfl; (with_reducible repeat (first | refine blk_drewN ?_ _ | refine blk_drew ?_ | refine blk_alloc ?_ _)); refine blk_put (cs := #[.int .i64 0, .int .i64 0, .int .i64 0, .int .i64 0, .int .i64 0, .int .i64 0]) ?_ 0 _ rfl; (with_reducible repeat (first | refine blk_drewN ?_ _ | refine blk_drew ?_ | refine blk_alloc ?_ _)); exact BK207.out⟩, ⟨by repeat (first | (with_reducible first | exact HB.out | apply below_alloc | apply pw_below_drewN | apply below_drew1 | refine below_set ?_ GE174.out | refine below_set ?_ GE183.out | refine below_set ?_ GE191.out | refine below_set ?_ GE199.out | refine below_set ?_ GE207.out) | exact HB.out)⟩⟩
      case rest =>
        clear HC12
        try clear c1
        try clear c2
        try clear p2
        try clear c3
        try clear c4
        try clear c5
        try clear c5b0
        try clear c5b1
        try clear c6
        try clear c7
        try clear c8
        try clear c16
        try clear c17
        try clear c18
        try clear c19
        try clear c23
        try clear c24
        try clear c28
        try clear c29
        try clear c30
        try clear c34
        try clear c35
        try clear c36
        try clear c37
        try clear c39
        try clear c39b0
        try clear c40
        try clear c41
        try clear c42
        try clear c43
        try clear c45
        try clear c46
        try clear c47
        try clear c49
        try clear c49b0
        try clear c49b1
        try clear c50
        try clear c50b0
        try clear c51
        try clear c52
        try clear c53
        try clear c54
        try clear c56
        try clear c57
        try clear c58
        try clear c60
        try clear c61
        try clear c63
        try clear c65
        try clear c66
        try clear c67
        try clear c68
        try clear c70
        try clear c71
        try clear c72
        try clear c74
        try clear c75
        try clear c77
        try clear c79
        try clear c80
        try clear c81
        try clear c82
        try clear c84
        try clear c85
        try clear c86
        try clear hcz15_0
        try clear hcz15_1
        try clear hcz19_0
        try clear hcz19_1
        try clear hcz19_2
        try clear hcz19_3
        try clear hcz19_4
        try clear hcz19_5
        try clear hcz20_0
        try clear hcz20_1
        try clear hcz25_0
        try clear hcz25_1
        try clear hcz25_2
        try clear hcz25_3
        try clear hcz25_4
        try clear hcz25_5
        try clear hcz31_0
        try clear hcz31_1
        try clear hcz31_2
        try clear hcz31_3
        try clear hcz31_4
        try clear hcz31_5
        try clear hcz38_0
        try clear hcz38_1
        try clear hcz38_2
        try clear hcz38_3
        try clear hcz38_4
        try clear hcz38_5
        try clear hcz44_0
        try clear hcz44_1
        try clear hcz44_2
        try clear hcz44_3
        try clear hcz44_4
        try clear hcz44_5
        try clear hcz48_0
        try clear hcz48_1
        try clear hcz48_2
        try clear hcz48_3
        try clear hcz48_4
        try clear hcz48_5
        try clear hcz55_0
        try clear hcz55_1
        try clear hcz55_2
        try clear hcz55_3
        try clear hcz55_4
        try clear hcz55_5
        try clear hcz59_0
        try clear hcz59_1
        try clear hcz59_2
        try clear hcz59_3
        try clear hcz59_4
        try clear hcz59_5
        try clear hcz62_0
        try clear hcz62_1
        try clear hcz62_2
        try clear hcz62_3
        try clear hcz62_4
        try clear hcz62_5
        try clear hcz64_0
        try clear hcz64_1
        try clear hcz64_2
        try clear hcz64_3
        try clear hcz64_4
        try clear hcz64_5
        try clear hcz69_0
        try clear hcz69_1
        try clear hcz69_2
        try clear hcz69_3
        try clear hcz69_4
        try clear hcz69_5
        try clear hcz73_0
        try clear hcz73_1
        try clear hcz73_2
        try clear hcz73_3
        try clear hcz73_4
        try clear hcz73_5
        try clear hcz76_0
        try clear hcz76_1
        try clear hcz76_2
        try clear hcz76_3
        try clear hcz76_4
        try clear hcz76_5
        try clear hcz78_0
        try clear hcz78_1
        try clear hcz78_2
        try clear hcz78_3
        try clear hcz78_4
        try clear hcz78_5
        try clear hcz83_0
        try clear hcz83_1
        try clear hcz83_2
        try clear hcz83_3
        try clear hcz83_4
        try clear hcz83_5
        try clear hcz87_0
        try clear hcz87_1
        try clear hcz87_2
        try clear hcz87_3
        try clear hcz87_4
        try clear hcz87_5
        try clear hfz15_0
        try clear hfz15_1
        try clear hfz19_0
        try clear hfz19_1
        try clear hfz19_2
        try clear hfz19_3
        try clear hfz19_4
        try clear hfz19_5
        try clear hfz20_0
        try clear hfz20_1
        try clear hfz25_0
        try clear hfz25_1
        try clear hfz25_2
        try clear hfz25_3
        try clear hfz25_4
        try clear hfz25_5
        try clear hfz31_0
        try clear hfz31_1
        try clear hfz31_2
        try clear hfz31_3
        try clear hfz31_4
        try clear hfz31_5
        try clear hfz38_0
        try clear hfz38_1
        try clear hfz38_2
        try clear hfz38_3
        try clear hfz38_4
        try clear hfz38_5
        try clear hfz44_0
        try clear hfz44_1
        try clear hfz44_2
        try clear hfz44_3
        try clear hfz44_4
        try clear hfz44_5
        try clear hfz48_0
        try clear hfz48_1
        try clear hfz48_2
        try clear hfz48_3
        try clear hfz48_4
        try clear hfz48_5
        try clear hfz55_0
        try clear hfz55_1
        try clear hfz55_2
        try clear hfz55_3
        try clear hfz55_4
        try clear hfz55_5
        try clear hfz59_0
        try clear hfz59_1
        try clear hfz59_2
        try clear hfz59_3
        try clear hfz59_4
        try clear hfz59_5
        try clear hfz62_0
        try clear hfz62_1
        try clear hfz62_2
        try clear hfz62_3
        try clear hfz62_4
        try clear hfz62_5
        try clear hfz64_0
        try clear hfz64_1
        try clear hfz64_2
        try clear hfz64_3
        try clear hfz64_4
        try clear hfz64_5
        try clear hfz69_0
        try clear hfz69_1
        try clear hfz69_2
        try clear hfz69_3
        try clear hfz69_4
        try clear hfz69_5
        try clear hfz73_0
        try clear hfz73_1
        try clear hfz73_2
        try clear hfz73_3
        try clear hfz73_4
        try clear hfz73_5
        try clear hfz76_0
        try clear hfz76_1
        try clear hfz76_2
        try clear hfz76_3
        try clear hfz76_4
        try clear hfz76_5
        try clear hfz78_0
        try clear hfz78_1
        try clear hfz78_2
        try clear hfz78_3
        try clear hfz78_4
        try clear hfz78_5
        try clear hfz83_0
        try clear hfz83_1
        try clear hfz83_2
        try clear hfz83_3
        try clear hfz83_4
        try clear hfz83_5
        try clear hfz87_0
        try clear hfz87_1
        try clear hfz87_2
        try clear hfz87_3
        try clear hfz87_4
        try clear hfz87_5
        obtain ⟨kq, x63_11, rfl, HA, HJ11, BK174, BK183, BK191, BK199, BK207, HB⟩ := hcut
        cases kq with
        | zero => exact absurd HA.out (by simp [montagelaw41_ClockSeconds.j0])
        | succ kj11 =>
          have H := HA.out
          clear HA
          simp only [montagelaw41_ClockSeconds.j0] at H
          by_cases c88 : x63_11 = true
          · subst c88
            have H1 : (some false) = some r := by rw [if_pos rfl] at H; exact H
            clear H
            have H := H1
            clear H1
            obtain rfl := Option.some.inj H
            cases hr_
          · replace c88 := Bool.eq_false_iff.mpr c88
            subst c88
            have H1 : ((clock_At.f kj11 a0_1).bind fun bt208 => (if t182 = 0 then (montagelaw41_ClockSeconds.j1 kj11 (bt208.2.2.2.2.2.2 != 0) a0_0 a0_1 t176 t177 t178 t179 t180 t181 bt208.1 bt208.2.1 bt208.2.2.1 bt208.2.2.2.1 bt208.2.2.2.2.1 bt208.2.2.2.2.2.1) else (montagelaw41_ClockSeconds.j1 kj11 true a0_0 a0_1 t176 t177 t178 t179 t180 t181 bt208.1 bt208.2.1 bt208.2.2.1 bt208.2.2.2.1 bt208.2.2.2.2.1 bt208.2.2.2.2.2.1))) = some r := by rw [if_neg (show ¬ (false = true) by decide)] at H; exact H
            clear H
            have H := H1
            clear H1
            replace H := Option.bind_eq_some_iff.mp H
            obtain ⟨⟨t208, t209, t210, t211, t212, t213, t214⟩, A890, H⟩ := H
            replace H : (if t182 = 0 then (montagelaw41_ClockSeconds.j1 kj11 (t214 != 0) a0_0 a0_1 t176 t177 t178 t179 t180 t181 t208 t209 t210 t211 t212 t213) else (montagelaw41_ClockSeconds.j1 kj11 true a0_0 a0_1 t176 t177 t178 t179 t180 t181 t208 t209 t210 t211 t212 t213)) = some r := H
            have A89 := Aside0.mk A890
            clear A890
            have HC90 := Aside0.mk H
            clear H
            have hnb91 := NB174_183.out
            have hnc91 := NB183_174.out
            have hnb92 := NB174_191.out
            have hnc92 := NB191_174.out
            have hnb93 := NB174_199.out
            have hnc93 := NB199_174.out
            have hnb94 := NB174_207.out
            have hnc94 := NB207_174.out
            have hcz95_0 : wc.cell? ⟨gb174, 0, none⟩ = some (.int .i64 a0_0) := (blk_cell BK174.out 0).trans rfl
            have hcz95_1 : wc.cell? ⟨gb174, 1, none⟩ = some (.int .i64 a0_1) := (blk_cell BK174.out 1).trans rfl
            have hfz95_0 := blk_frozen BK174.out 0
            have hfz95_1 := blk_frozen BK174.out 1
            go_upto_region 12 with (first | ((with_reducible refine gate_callee (f := 16) rfl ?_); refine goesL_ (some 67) rfl rfl Tryd.func16 (by kernel_rfl) rfl #[.int .i64 a0_1] rfl (by (try simp only [List.map_toArray, List.map_cons, List.map_nil]); first | done | rfl | (simp only [List.length_drop, List.length_take]; rfl)) ?_; (with_reducible refine (clock_At.calls kj11 a0_1 t208 t209 t210 t211 t212 t213 t214 _ A89.out).mono ?_); rintro e w96 ⟨rfl, hb⟩; refine ⟨_, rfl, ?_⟩; have n0_ := Aside0.mk (blk_below (g := gb174) (o := .cells #[.int .i64 a0_0, .int .i64 a0_1] 39 (0, 0)) (by (with_reducible repeat (first | refine blk_drewN ?_ _ | refine blk_drew ?_ | refine blk_alloc ?_ _)); exact BK174.out) hb); have n1_ := Aside0.mk (blk_below (g := gb183) (o := .cells #[.int .i64 t176, .int .i64 t177, .int .i64 t178, .int .i64 t179, .int .i64 t180, .int .i64 t181] 23 (0, 0)) (by (with_reducible repeat (first | refine blk_drewN ?_ _ | refine blk_drew ?_ | refine blk_alloc ?_ _)); exact BK183.out) hb); have n2_ := Aside0.mk (blk_below (g := gb191) (o := .cells #[.int .i64 t184, .int .i64 t185, .int .i64 t186, .int .i64 t187, .int .i64 t188, .int .i64 t189] 23 (0, 0)) (by (with_reducible repeat (first | refine blk_drewN ?_ _ | refine blk_drew ?_ | refine blk_alloc ?_ _)); exact BK191.out) hb); have n3_ := Aside0.mk (blk_below (g := gb199) (o := .cells #[.int .i64 t192, .int .i64 t193, .int .i64 t194, .int .i64 t195, .int .i64 t196, .int .i64 t197] 23 (0, 0)) (by (with_reducible repeat (first | refine blk_drewN ?_ _ | refine blk_drew ?_ | refine blk_alloc ?_ _)); exact BK199.out) hb); have n4_ := Aside0.mk (blk_below (g := gb207) (o := .cells #[.int .i64 t200, .int .i64 t201, .int .i64 t202, .int .i64 t203, .int .i64 t204, .int .i64 t205] 23 (0, 0)) (by (with_reducible repeat (first | refine blk_drewN ?_ _ | refine blk_drew ?_ | refine blk_alloc ?_ _)); exact BK207.out) hb); have n5_ := Aside0.mk (below_step (by repeat (first | (with_reducible first | exact HB.out | apply below_alloc | apply pw_below_drewN | apply below_drew1 | refine below_set ?_ GE174.out | refine below_set ?_ GE183.out | refine below_set ?_ GE191.out | refine below_set ?_ GE199.out | refine below_set ?_ GE207.out) | exact HB.out)) hb); clear BK174; clear BK183; clear BK191; clear BK199; clear BK207; clear HB; have BK174 := n0_; have BK183 := n1_; have BK191 := n2_; have BK199 := n3_; have BK207 := n4_; have HB := n5_; clear n0_ n1_ n2_ n3_ n4_ n5_; (try clear hb); (try clear hb2); (try clear hk); (try clear hi)) | ((with_reducible refine gate_dst (N := 13) rfl ?_); refine box_event ?hg (N := 13) ?hd (cs := #[.int .i64 0, .int .i64 0, .int .i64 0, .int .i64 0, .int .i64 0, .int .i64 0]) (t := 23) ?hr ?_; (case hd => rfl); (case hg => rfl); (case hr => first | (go_simp; done) | (go_simp; rfl)); intro gb215 hg w97 hbox hb; have n0_ := Aside0.mk (blk_below (g := gb174) (o := .cells #[.int .i64 a0_0, .int .i64 a0_1] 39 (0, 0)) (by (with_reducible repeat (first | refine blk_drewN ?_ _ | refine blk_drew ?_ | refine blk_alloc ?_ _)); exact BK174.out) hb); have n1_ := Aside0.mk (blk_below (g := gb183) (o := .cells #[.int .i64 t176, .int .i64 t177, .int .i64 t178, .int .i64 t179, .int .i64 t180, .int .i64 t181] 23 (0, 0)) (by (with_reducible repeat (first | refine blk_drewN ?_ _ | refine blk_drew ?_ | refine blk_alloc ?_ _)); exact BK183.out) hb); have n2_ := Aside0.mk (blk_below (g := gb191) (o := .cells #[.int .i64 t184, .int .i64 t185, .int .i64 t186, .int .i64 t187, .int .i64 t188, .int .i64 t189] 23 (0, 0)) (by (with_reducible repeat (first | refine blk_drewN ?_ _ | refine blk_drew ?_ | refine blk_alloc ?_ _)); exact BK191.out) hb); have n3_ := Aside0.mk (blk_below (g := gb199) (o := .cells #[.int .i64 t192, .int .i64 t193, .int .i64 t194, .int .i64 t195, .int .i64 t196, .int .i64 t197] 23 (0, 0)) (by (with_reducible repeat (first | refine blk_drewN ?_ _ | refine blk_drew ?_ | refine blk_alloc ?_ _)); exact BK199.out) hb); have n4_ := Aside0.mk (blk_below (g := gb207) (o := .cells #[.int .i64 t200, .int .i64 t201, .int .i64 t202, .int .i64 t203, .int .i64 t204, .int .i64 t205] 23 (0, 0)) (by (with_reducible repeat (first | refine blk_drewN ?_ _ | refine blk_drew ?_ | refine blk_alloc ?_ _)); exact BK207.out) hb); have n5_ := Aside0.mk (below_step (by repeat (first | (with_reducible first | exact HB.out | apply below_alloc | apply pw_below_drewN | apply below_drew1 | refine below_set ?_ GE174.out | refine below_set ?_ GE183.out | refine below_set ?_ GE191.out | refine below_set ?_ GE199.out | refine below_set ?_ GE207.out) | exact HB.out)) hb); have n6_ := Aside0.mk (hbox); have n7_ := Aside0.mk ((by rw [hg]; exact (below_size (by repeat (first | (with_reducible first | exact HB.out | apply below_alloc | apply pw_below_drewN | apply below_drew1 | refine below_set ?_ GE174.out | refine below_set ?_ GE183.out | refine below_set ?_ GE191.out | refine below_set ?_ GE199.out | refine below_set ?_ GE207.out) | exact HB.out))) : w.heap.size ≤ gb215)); have n8_ := Aside0.mk ((by rw [hg]; exact (below_size (by repeat (first | (with_reducible first | exact HB.out | apply below_alloc | apply pw_below_drewN | apply below_drew1 | refine below_set ?_ GE174.out | refine below_set ?_ GE183.out | refine below_set ?_ GE191.out | refine below_set ?_ GE199.out | refine below_set ?_ GE207.out) | exact HB.out))) : w.heap.size ≤ gb215)); have n9_ := Aside0.mk ((by rw [hg]; exact Nat.ne_of_lt (blk_lt (g := gb174) (o := .cells #[.int .i64 a0_0, .int .i64 a0_1] 39 (0, 0)) (by (with_reducible repeat (first | refine blk_drewN ?_ _ | refine blk_drew ?_ | refine blk_alloc ?_ _)); exact BK174.out)) : gb174 ≠ gb215)); have n10_ := Aside0.mk ((by rw [hg]; exact Nat.ne_of_gt (blk_lt (g := gb174) (o := .cells #[.int .i64 a0_0, .int .i64 a0_1] 39 (0, 0)) (by (with_reducible repeat (first | refine blk_drewN ?_ _ | refine blk_drew ?_ | refine blk_alloc ?_ _)); exact BK174.out)) : gb215 ≠ gb174)); have n11_ := Aside0.mk ((by rw [hg]; exact Nat.ne_of_lt (blk_lt (g := gb183) (o := .cells #[.int .i64 t176, .int .i64 t177, .int .i64 t178, .int .i64 t179, .int .i64 t180, .int .i64 t181] 23 (0, 0)) (by (with_reducible repeat (first | refine blk_drewN ?_ _ | refine blk_drew ?_ | refine blk_alloc ?_ _)); exact BK183.out)) : gb183 ≠ gb215)); have n12_ := Aside0.mk ((by rw [hg]; exact Nat.ne_of_gt (blk_lt (g := gb183) (o := .cells #[.int .i64 t176, .int .i64 t177, .int .i64 t178, .int .i64 t179, .int .i64 t180, .int .i64 t181] 23 (0, 0)) (by (with_reducible repeat (first | refine blk_drewN ?_ _ | refine blk_drew ?_ | refine blk_alloc ?_ _)); exact BK183.out)) : gb215 ≠ gb183)); have n13_ := Aside0.mk ((by rw [hg]; exact Nat.ne_of_lt (blk_lt (g := gb191) (o := .cells #[.int .i64 t184, .int .i64 t185, .int .i64 t186, .int .i64 t187, .int .i64 t188, .int .i64 t189] 23 (0, 0)) (by (with_reducible repeat (first | refine blk_drewN ?_ _ | refine blk_drew ?_ | refine blk_alloc ?_ _)); exact BK191.out)) : gb191 ≠ gb215)); have n14_ := Aside0.mk ((by rw [hg]; exact Nat.ne_of_gt (blk_lt (g := gb191) (o := .cells #[.int .i64 t184, .int .i64 t185, .int .i64 t186, .int .i64 t187, .int .i64 t188, .int .i64 t189] 23 (0, 0)) (by (with_reducible repeat (first | refine blk_drewN ?_ _ | refine blk_drew ?_ | refine blk_alloc ?_ _)); exact BK191.out)) : gb215 ≠ gb191)); have n15_ := Aside0.mk ((by rw [hg]; exact Nat.ne_of_lt (blk_lt (g := gb199) (o := .cells #[.int .i64 t192, .int .i64 t193, .int .i64 t194, .int .i64 t195, .int .i64 t196, .int .i64 t197] 23 (0, 0)) (by (with_reducible repeat (first | refine blk_drewN ?_ _ | refine blk_drew ?_ | refine blk_alloc ?_ _)); exact BK199.out)) : gb199 ≠ gb215)); have n16_ := Aside0.mk ((by rw [hg]; exact Nat.ne_of_gt (blk_lt (g := gb199) (o := .cells #[.int .i64 t192, .int .i64 t193, .int .i64 t194, .int .i64 t195, .int .i64 t196, .int .i64 t197] 23 (0, 0)) (by (with_reducible repeat (first | refine blk_drewN ?_ _ | refine blk_drew ?_ | refine blk_alloc ?_ _)); exact BK199.out)) : gb215 ≠ gb199)); have n17_ := Aside0.mk ((by rw [hg]; exact Nat.ne_of_lt (blk_lt (g := gb207) (o := .cells #[.int .i64 t200, .int .i64 t201, .int .i64 t202, .int .i64 t203, .int .i64 t204, .int .i64 t205] 23 (0, 0)) (by (with_reducible repeat (first | refine blk_drewN ?_ _ | refine blk_drew ?_ | refine blk_alloc ?_ _)); exact BK207.out)) : gb207 ≠ gb215)); have n18_ := Aside0.mk ((by rw [hg]; exact Nat.ne_of_gt (blk_lt (g := gb207) (o := .cells #[.int .i64 t200, .int .i64 t201, .int .i64 t202, .int .i64 t203, .int .i64 t204, .int .i64 t205] 23 (0, 0)) (by (with_reducible repeat (first | refine blk_drewN ?_ _ | refine blk_drew ?_ | refine blk_alloc ?_ _)); exact BK207.out)) : gb215 ≠ gb207)); clear BK174; clear BK183; clear BK191; clear BK199; clear BK207; clear HB; have BK174 := n0_; have BK183 := n1_; have BK191 := n2_; have BK199 := n3_; have BK207 := n4_; have HB := n5_; have BK215 := n6_; have GW215 := n7_; have GE215 := n8_; have NB174_215 := n9_; have NB215_174 := n10_; have NB183_215 := n11_; have NB215_183 := n12_; have NB191_215 := n13_; have NB215_191 := n14_; have NB199_215 := n15_; have NB215_199 := n16_; have NB207_215 := n17_; have NB215_207 := n18_; clear n0_ n1_ n2_ n3_ n4_ n5_ n6_ n7_ n8_ n9_ n10_ n11_ n12_ n13_ n14_ n15_ n16_ n17_ n18_; clear hb hbox hg; have hnb98 := NB215_174.out; have hnc98 := NB174_215.out; have hnb99 := NB215_183.out; have hnc99 := NB183_215.out; have hnb100 := NB215_191.out; have hnc100 := NB191_215.out; have hnb101 := NB215_199.out; have hnc101 := NB199_215.out; have hnb102 := NB215_207.out; have hnc102 := NB207_215.out; have hcz103_0 : w97.cell? ⟨gb215, 0, none⟩ = some (.int .i64 0) := (blk_cell BK215.out 0).trans rfl; have hcz103_1 : w97.cell? ⟨gb215, 1, none⟩ = some (.int .i64 0) := (blk_cell BK215.out 1).trans rfl; have hcz103_2 : w97.cell? ⟨gb215, 2, none⟩ = some (.int .i64 0) := (blk_cell BK215.out 2).trans rfl; have hcz103_3 : w97.cell? ⟨gb215, 3, none⟩ = some (.int .i64 0) := (blk_cell BK215.out 3).trans rfl; have hcz103_4 : w97.cell? ⟨gb215, 4, none⟩ = some (.int .i64 0) := (blk_cell BK215.out 4).trans rfl; have hcz103_5 : w97.cell? ⟨gb215, 5, none⟩ = some (.int .i64 0) := (blk_cell BK215.out 5).trans rfl; have hfz103_0 := blk_frozen BK215.out 0; have hfz103_1 := blk_frozen BK215.out 1; have hfz103_2 := blk_frozen BK215.out 2; have hfz103_3 := blk_frozen BK215.out 3; have hfz103_4 := blk_frozen BK215.out 4; have hfz103_5 := blk_frozen BK215.out 5))
            (try simp only [Act.put, List.setIfInBounds_toArray, List.set_cons_zero, List.set_cons_succ])
            go_cut [75] (fun v75 wc => ∃ (kq : Nat) (x75_89 : Bool), v75 = .bool x75_89 ∧ Aside0 (montagelaw41_ClockSeconds.j1 kq x75_89 a0_0 a0_1 t176 t177 t178 t179 t180 t181 t208 t209 t210 t211 t212 t213 = some r) ∧ Aside0 (kq ≤ kj11) ∧ Aside0 (wc.heap[gb174]? = some (.cells #[.int .i64 a0_0, .int .i64 a0_1] 39 (0, 0))) ∧ Aside0 (wc.heap[gb183]? = some (.cells #[.int .i64 t176, .int .i64 t177, .int .i64 t178, .int .i64 t179, .int .i64 t180, .int .i64 t181] 23 (0, 0))) ∧ Aside0 (wc.heap[gb191]? = some (.cells #[.int .i64 t184, .int .i64 t185, .int .i64 t186, .int .i64 t187, .int .i64 t188, .int .i64 t189] 23 (0, 0))) ∧ Aside0 (wc.heap[gb199]? = some (.cells #[.int .i64 t192, .int .i64 t193, .int .i64 t194, .int .i64 t195, .int .i64 t196, .int .i64 t197] 23 (0, 0))) ∧ Aside0 (wc.heap[gb207]? = some (.cells #[.int .i64 t200, .int .i64 t201, .int .i64 t202, .int .i64 t203, .int .i64 t204, .int .i64 t205] 23 (0, 0))) ∧ Aside0 (wc.heap[gb215]? = some (.cells #[.int .i64 t208, .int .i64 t209, .int .i64 t210, .int .i64 t211, .int .i64 t212, .int .i64 t213] 23 (0, 0))) ∧ Aside0 (Below w.heap.size w wc))
            case first =>
              have H := HC90.out
              clear HC90
              by_cases c104 : t182 = 0
              · rw [if_pos c104] at H
                have c104b0 : (t182 == 0) = true := beq_iff_eq.mpr c104
                have c104b1 : (t182 != 0) = false := bne_eq_false_iff_eq.mpr c104
                clear c104
                (first | rw [c104b0] | (simp only [i64_w, i32_w]; rw [c104b0]) | skip)
                have H' := Aside0.mk H
                clear H
                go_wp2
                go_meet
                case rel => exact ⟨_, ((t214 != 0)), (by first | rfl | (simp; done) | (simp [*]; done)), H', ⟨by have := HJ11.out; first | omega | exact Nat.le_refl _⟩, ⟨by (with_reducible repeat (first | refine blk_drewN ?_ _ | refine blk_drew ?_ | refine blk_alloc ?_ _)); refine blk_far ?_ NB174_215.out _; (with_reducible repeat (first | refine blk_drewN ?_ _ | refine blk_drew ?_ | refine blk_alloc ?_ _)); refine blk_far ?_ NB174_215.out _; (with_reducible repeat (first | refine blk_drewN ?_ _ | refine blk_drew ?_ | refine blk_alloc ?_ _)); refine blk_far ?_ NB174_215.out _; (with_reducible repeat (first | refine blk_drewN ?_ _ | refine blk_drew ?_ | refine blk_alloc ?_ _)); refine blk_far ?_ NB174_215.out _; (with_reducible repeat (first | refine blk_drewN ?_ _ | refine blk_drew ?_ | refine blk_alloc ?_ _)); refine blk_far ?_ NB174_215.out _; (with_reducible repeat (first | refine blk_drewN ?_ _ | refine blk_drew ?_ | refine blk_alloc ?_ _)); refine blk_far ?_ NB174_215.out _; (with_reducible repeat (first | refine blk_drewN ?_ _ | refine blk_drew ?_ | refine blk_alloc ?_ _)); exact BK174.out⟩, ⟨by (with_reducible repeat (first | refine blk_drewN ?_ _ | refine blk_drew ?_ | refine blk_alloc ?_ _)); refine blk_far ?_ NB183_215.out _; (with_reducible repeat (first | refine blk_drewN ?_ _ | refine blk_drew ?_ | refine blk_alloc ?_ _)); refine blk_far ?_ NB183_215.out _; (with_reducible repeat (first | refine blk_drewN ?_ _ | refine blk_drew ?_ | refine blk_alloc ?_ _)); refine blk_far ?_ NB183_215.out _; (with_reducible repeat (first | refine blk_drewN ?_ _ | refine blk_drew ?_ | refine blk_alloc ?_ _)); refine blk_far ?_ NB183_215.out _; (with_reducible repeat (first | refine blk_drewN ?_ _ | refine blk_drew ?_ | refine blk_alloc ?_ _)); refine blk_far ?_ NB183_215.out _; (with_reducible repeat (first | refine blk_drewN ?_ _ | refine blk_drew ?_ | refine blk_alloc ?_ _)); refine blk_far ?_ NB183_215.out _; (with_reducible repeat (first | refine blk_drewN ?_ _ | refine blk_drew ?_ | refine blk_alloc ?_ _)); exact BK183.out⟩, ⟨by (with_reducible repeat (first | refine blk_drewN ?_ _ | refine blk_drew ?_ | refine blk_alloc ?_ _)); refine blk_far ?_ NB191_215.out _; (with_reducible repeat (first | refine blk_drewN ?_ _ | refine blk_drew ?_ | refine blk_alloc ?_ _)); refine blk_far ?_ NB191_215.out _; (with_reducible repeat (first | refine blk_drewN ?_ _ | refine blk_drew ?_ | refine blk_alloc ?_ _)); refine blk_far ?_ NB191_215.out _; (with_reducible repeat (first | refine blk_drewN ?_ _ | refine blk_drew ?_ | refine blk_alloc ?_ _)); refine blk_far ?_ NB191_215.out _; (with_reducible repeat (first | refine blk_drewN ?_ _ | refine blk_drew ?_ | refine blk_alloc ?_ _)); refine blk_far ?_ NB191_215.out _; (with_reducible repeat (first | refine blk_drewN ?_ _ | refine blk_drew ?_ | refine blk_alloc ?_ _)); refine blk_far ?_ NB191_215.out _; (with_reducible repeat (first | refine blk_drewN ?_ _ | refine blk_drew ?_ | refine blk_alloc ?_ _)); exact BK191.out⟩, ⟨by (with_reducible repeat (first | refine blk_drewN ?_ _ | refine blk_drew ?_ | refine blk_alloc ?_ _)); refine blk_far ?_ NB199_215.out _; (with_reducible repeat (first | refine blk_drewN ?_ _ | refine blk_drew ?_ | refine blk_alloc ?_ _)); refine blk_far ?_ NB199_215.out _; (with_reducible repeat (first | refine blk_drewN ?_ _ | refine blk_drew ?_ | refine blk_alloc ?_ _)); refine blk_far ?_ NB199_215.out _; (with_reducible repeat (first | refine blk_drewN ?_ _ | refine blk_drew ?_ | refine blk_alloc ?_ _)); refine blk_far ?_ NB199_215.out _; (with_reducible repeat (first | refine blk_drewN ?_ _ | refine blk_drew ?_ | refine blk_alloc ?_ _)); refine blk_far ?_ NB199_215.out _; (with_reducible repeat (first | refine blk_drewN ?_ _ | refine blk_drew ?_ | refine blk_alloc ?_ _)); refine blk_far ?_ NB199_215.out _; (with_reducible repeat (first | refine blk_drewN ?_ _ | refine blk_drew ?_ | refine blk_alloc ?_ _)); exact BK199.out⟩, ⟨by (with_reducible repeat (first | refine blk_drewN ?_ _ | refine blk_drew ?_ | refine blk_alloc ?_ _)); refine blk_far ?_ NB207_215.out _; (with_reducible repeat (first | refine blk_drewN ?_ _ | refine blk_drew ?_ | refine blk_alloc ?_ _)); refine blk_far ?_ NB207_215.out _; (with_reducible repeat (first | refine blk_drewN ?_ _ | refine blk_drew ?_ | refine blk_alloc ?_ _)); refine blk_far ?_ NB207_215.out _; (with_reducible repeat (first | refine blk_drewN ?_ _ | refine blk_drew ?_ | refine blk_alloc ?_ _)); refine blk_far ?_ NB207_215.out _; (with_reducible repeat (first | refine blk_drewN ?_ _ | refine blk_drew ?_ | refine blk_alloc ?_ _)); refine blk_far ?_ NB207_215.out _; (with_reducible repeat (first | refine blk_drewN ?_ _ | refine blk_drew ?_ | refine blk_alloc ?_ _)); refine blk_far ?_ NB207_215.out _; (with_reducible repeat (first | refine blk_drewN ?_ _ | refine blk_drew ?_ | refine blk_alloc ?_ _)); exact BK207.out⟩, ⟨by (with_reducible repeat (first | refine blk_drewN ?_ _ | refine blk_drew ?_ | refine blk_alloc ?_ _)); refine blk_put (cs := #[.int .i64 t208, .int .i64 t209, .int .i64 t210, .int .i64 t211, .int .i64 t212, .int .i64 0]) ?_ 5 _ rfl; (with_reducible repeat (first | refine blk_drewN ?_ _ | refine blk_drew ?_ | refine blk_alloc ?_ _)); refine blk_put (cs := #[.int .i64 t208, .int .i64 t209, .int .i64 t210, .int .i64 t211, .int .i64 0, .int .i64 0]) ?_ 4 _ rfl; (with_reducible repeat (first | refine blk_drewN ?_ _ | refine blk_drew ?_ | refine blk_alloc ?_ _)); refine blk_put (cs := #[.int .i64 t208, .int .i64 t209, .int .i64 t210, .int .i64 0, .int .i64 0, .int .i64 0]) ?_ 3 _ rfl; (with_reducible repeat (first | refine blk_drewN ?_ _ | refine blk_drew ?_ | refine blk_alloc ?_ _)); refine blk_put (cs := #[.int .i64 t208, .int .i64 t209, .int .i64 0, .int .i64 0, .int .i64 0, .int .i64 0]) ?_ 2 _ rfl; (with_reducible repeat (first | refine blk_drewN ?_ _ | refine blk_drew ?_ | refine blk_alloc ?_ _)); refine blk_put (cs := #[.int .i64 t208, .int .i64 0, .int .i64 0, .int .i64 0, .int .i64 0, .int .i64 0]) ?_ 1 _ rfl; (with_reducible repeat (first | refine blk_drewN ?_ _ | refine blk_drew ?_ | refine blk_alloc ?_ _)); refine blk_put (cs := #[.int .i64 0, .int .i64 0, .int .i64 0, .int .i64 0, .int .i64 0, .int .i64 0]) ?_ 0 _ rfl; (with_reducible repeat (first | refine blk_drewN ?_ _ | refine blk_drew ?_ | refine blk_alloc ?_ _)); exact BK215.out⟩, ⟨by repeat (first | (with_reducible first | exact HB.out | apply below_alloc | apply pw_below_drewN | apply below_drew1 | refine below_set ?_ GE174.out | refine below_set ?_ GE183.out | refine below_set ?_ GE191.out | refine below_set ?_ GE199.out | refine below_set ?_ GE207.out | refine below_set ?_ GE215.out) | exact HB.out)⟩⟩
              · rw [if_neg c104] at H
                have c104b0 : (t182 == 0) = false := beq_eq_false_iff_ne.mpr c104
                have c104b1 : (t182 != 0) = true := bne_iff_ne.mpr c104
                (first | rw [c104b0] | (simp only [i64_w, i32_w]; rw [c104b0]) | skip)
                have H' := Aside0.mk H
                clear H
                go_wp2
                go_meet
                case rel => exact ⟨_, (true), (by first | rfl | (simp; done) | (simp [*]; done)), H', ⟨by have := HJ11.out; first | omega | exact Nat.le_refl _⟩, ⟨by (with_reducible repeat (first | refine blk_drewN ?_ _ | refine blk_drew ?_ | refine blk_alloc ?_ _)); refine blk_far ?_ NB174_215.out _; (with_reducible repeat (first | refine blk_drewN ?_ _ | refine blk_drew ?_ | refine blk_alloc ?_ _)); refine blk_far ?_ NB174_215.out _; (with_reducible repeat (first | refine blk_drewN ?_ _ | refine blk_drew ?_ | refine blk_alloc ?_ _)); refine blk_far ?_ NB174_215.out _; (with_reducible repeat (first | refine blk_drewN ?_ _ | refine blk_drew ?_ | refine blk_alloc ?_ _)); refine blk_far ?_ NB174_215.out _; (with_reducible repeat (first | refine blk_drewN ?_ _ | refine blk_drew ?_ | refine blk_alloc ?_ _)); refine blk_far ?_ NB174_215.out _; (with_reducible repeat (first | refine blk_drewN ?_ _ | refine blk_drew ?_ | refine blk_alloc ?_ _)); refine blk_far ?_ NB174_215.out _; (with_reducible repeat (first | refine blk_drewN ?_ _ | refine blk_drew ?_ | refine blk_alloc ?_ _)); exact BK174.out⟩, ⟨by (with_reducible repeat (first | refine blk_drewN ?_ _ | refine blk_drew ?_ | refine blk_alloc ?_ _)); refine blk_far ?_ NB183_215.out _; (with_reducible repeat (first | refine blk_drewN ?_ _ | refine blk_drew ?_ | refine blk_alloc ?_ _)); refine blk_far ?_ NB183_215.out _; (with_reducible repeat (first | refine blk_drewN ?_ _ | refine blk_drew ?_ | refine blk_alloc ?_ _)); refine blk_far ?_ NB183_215.out _; (with_reducible repeat (first | refine blk_drewN ?_ _ | refine blk_drew ?_ | refine blk_alloc ?_ _)); refine blk_far ?_ NB183_215.out _; (with_reducible repeat (first | refine blk_drewN ?_ _ | refine blk_drew ?_ | refine blk_alloc ?_ _)); refine blk_far ?_ NB183_215.out _; (with_reducible repeat (first | refine blk_drewN ?_ _ | refine blk_drew ?_ | refine blk_alloc ?_ _)); refine blk_far ?_ NB183_215.out _; (with_reducible repeat (first | refine blk_drewN ?_ _ | refine blk_drew ?_ | refine blk_alloc ?_ _)); exact BK183.out⟩, ⟨by (with_reducible repeat (first | refine blk_drewN ?_ _ | refine blk_drew ?_ | refine blk_alloc ?_ _)); refine blk_far ?_ NB191_215.out _; (with_reducible repeat (first | refine blk_drewN ?_ _ | refine blk_drew ?_ | refine blk_alloc ?_ _)); refine blk_far ?_ NB191_215.out _; (with_reducible repeat (first | refine blk_drewN ?_ _ | refine blk_drew ?_ | refine blk_alloc ?_ _)); refine blk_far ?_ NB191_215.out _; (with_reducible repeat (first | refine blk_drewN ?_ _ | refine blk_drew ?_ | refine blk_alloc ?_ _)); refine blk_far ?_ NB191_215.out _; (with_reducible repeat (first | refine blk_drewN ?_ _ | refine blk_drew ?_ | refine blk_alloc ?_ _)); refine blk_far ?_ NB191_215.out _; (with_reducible repeat (first | refine blk_drewN ?_ _ | refine blk_drew ?_ | refine blk_alloc ?_ _)); refine blk_far ?_ NB191_215.out _; (with_reducible repeat (first | refine blk_drewN ?_ _ | refine blk_drew ?_ | refine blk_alloc ?_ _)); exact BK191.out⟩, ⟨by (with_reducible repeat (first | refine blk_drewN ?_ _ | refine blk_drew ?_ | refine blk_alloc ?_ _)); refine blk_far ?_ NB199_215.out _; (with_reducible repeat (first | refine blk_drewN ?_ _ | refine blk_drew ?_ | refine blk_alloc ?_ _)); refine blk_far ?_ NB199_215.out _; (with_reducible repeat (first | refine blk_drewN ?_ _ | refine blk_drew ?_ | refine blk_alloc ?_ _)); refine blk_far ?_ NB199_215.out _; (with_reducible repeat (first | refine blk_drewN ?_ _ | refine blk_drew ?_ | refine blk_alloc ?_ _)); refine blk_far ?_ NB199_215.out _; (with_reducible repeat (first | refine blk_drewN ?_ _ | refine blk_drew ?_ | refine blk_alloc ?_ _)); refine blk_far ?_ NB199_215.out _; (with_reducible repeat (first | refine blk_drewN ?_ _ | refine blk_drew ?_ | refine blk_alloc ?_ _)); refine blk_far ?_ NB199_215.out _; (with_reducible repeat (first | refine blk_drewN ?_ _ | refine blk_drew ?_ | refine blk_alloc ?_ _)); exact BK199.out⟩, ⟨by (with_reducible repeat (first | refine blk_drewN ?_ _ | refine blk_drew ?_ | refine blk_alloc ?_ _)); refine blk_far ?_ NB207_215.out _; (with_reducible repeat (first | refine blk_drewN ?_ _ | refine blk_drew ?_ | refine blk_alloc ?_ _)); refine blk_far ?_ NB207_215.out _; (with_reducible repeat (first | refine blk_drewN ?_ _ | refine blk_drew ?_ | refine blk_alloc ?_ _)); refine blk_far ?_ NB207_215.out _; (with_reducible repeat (first | refine blk_drewN ?_ _ | refine blk_drew ?_ | refine blk_alloc ?_ _)); refine blk_far ?_ NB207_215.out _; (with_reducible repeat (first | refine blk_drewN ?_ _ | refine blk_drew ?_ | refine blk_alloc ?_ _)); refine blk_far ?_ NB207_215.out _; (with_reducible repeat (first | refine blk_drewN ?_ _ | refine blk_drew ?_ | refine blk_alloc ?_ _)); refine blk_far ?_ NB207_215.out _; (with_reducible repeat (first | refine blk_drewN ?_ _ | refine blk_drew ?_ | refine blk_alloc ?_ _)); exact BK207.out⟩, ⟨by (with_reducible repeat (first | refine blk_drewN ?_ _ | refine blk_drew ?_ | refine blk_alloc ?_ _)); refine blk_put (cs := #[.int .i64 t208, .int .i64 t209, .int .i64 t210, .int .i64 t211, .int .i64 t212, .int .i64 0]) ?_ 5 _ rfl; (with_reducible repeat (first | refine blk_drewN ?_ _ | refine blk_drew ?_ | refine blk_alloc ?_ _)); refine blk_put (cs := #[.int .i64 t208, .int .i64 t209, .int .i64 t210, .int .i64 t211, .int .i64 0, .int .i64 0]) ?_ 4 _ rfl; (with_reducible repeat (first | refine blk_drewN ?_ _ | refine blk_drew ?_ | refine blk_alloc ?_ _)); refine blk_put (cs := #[.int .i64 t208, .int .i64 t209, .int .i64 t210, .int .i64 0, .int .i64 0, .int .i64 0]) ?_ 3 _ rfl; (with_reducible repeat (first | refine blk_drewN ?_ _ | refine blk_drew ?_ | refine blk_alloc ?_ _)); refine blk_put (cs := #[.int .i64 t208, .int .i64 t209, .int .i64 0, .int .i64 0, .int .i64 0, .int .i64 0]) ?_ 2 _ rfl; (with_reducible repeat (first | refine blk_drewN ?_ _ | refine blk_drew ?_ | refine blk_alloc ?_ _)); refine blk_put (cs := #[.int .i64 t208, .int .i64 0, .int .i64 0, .int .i64 0, .int .i64 0, .int .i64 0]) ?_ 1 _ rfl; (with_reducible repeat (first | refine blk_drewN ?_ _ | refine blk_drew ?_ | refine blk_alloc ?_ _)); refine blk_put (cs := #[.int .i64 0, .int .i64 0, .int .i64 0, .int .i64 0, .int .i64 0, .int .i64 0]) ?_ 0 _ rfl; (with_reducible repeat (first | refine blk_drewN ?_ _ | refine blk_drew ?_ | refine blk_alloc ?_ _)); exact BK215.out⟩, ⟨by repeat (first | (with_reducible first | exact HB.out | apply below_alloc | apply pw_below_drewN | apply below_drew1 | refine below_set ?_ GE174.out | refine below_set ?_ GE183.out | refine below_set ?_ GE191.out | refine below_set ?_ GE199.out | refine below_set ?_ GE207.out | refine below_set ?_ GE215.out) | exact HB.out)⟩⟩
            case rest =>
              clear HC90
              try clear c1
              try clear c2
              try clear p2
              try clear c3
              try clear c4
              try clear c5
              try clear c5b0
              try clear c5b1
              try clear c6
              try clear c7
              try clear c8
              try clear c9
              try clear c10
              try clear c16
              try clear c17
              try clear c18
              try clear c19
              try clear c23
              try clear c24
              try clear c28
              try clear c29
              try clear c30
              try clear c34
              try clear c35
              try clear c36
              try clear c37
              try clear c39
              try clear c39b0
              try clear c40
              try clear c41
              try clear c42
              try clear c43
              try clear c45
              try clear c46
              try clear c47
              try clear c49
              try clear c49b0
              try clear c49b1
              try clear c50
              try clear c50b0
              try clear c51
              try clear c52
              try clear c53
              try clear c54
              try clear c56
              try clear c57
              try clear c58
              try clear c60
              try clear c61
              try clear c63
              try clear c65
              try clear c66
              try clear c67
              try clear c68
              try clear c70
              try clear c71
              try clear c72
              try clear c74
              try clear c75
              try clear c77
              try clear c79
              try clear c80
              try clear c81
              try clear c82
              try clear c84
              try clear c85
              try clear c86
              try clear c88
              try clear c91
              try clear c92
              try clear c93
              try clear c94
              try clear c98
              try clear c99
              try clear c100
              try clear c101
              try clear c102
              try clear c104
              try clear c104b0
              try clear c104b1
              try clear hcz103_0
              try clear hcz103_1
              try clear hcz103_2
              try clear hcz103_3
              try clear hcz103_4
              try clear hcz103_5
              try clear hcz15_0
              try clear hcz15_1
              try clear hcz19_0
              try clear hcz19_1
              try clear hcz19_2
              try clear hcz19_3
              try clear hcz19_4
              try clear hcz19_5
              try clear hcz20_0
              try clear hcz20_1
              try clear hcz25_0
              try clear hcz25_1
              try clear hcz25_2
              try clear hcz25_3
              try clear hcz25_4
              try clear hcz25_5
              try clear hcz31_0
              try clear hcz31_1
              try clear hcz31_2
              try clear hcz31_3
              try clear hcz31_4
              try clear hcz31_5
              try clear hcz38_0
              try clear hcz38_1
              try clear hcz38_2
              try clear hcz38_3
              try clear hcz38_4
              try clear hcz38_5
              try clear hcz44_0
              try clear hcz44_1
              try clear hcz44_2
              try clear hcz44_3
              try clear hcz44_4
              try clear hcz44_5
              try clear hcz48_0
              try clear hcz48_1
              try clear hcz48_2
              try clear hcz48_3
              try clear hcz48_4
              try clear hcz48_5
              try clear hcz55_0
              try clear hcz55_1
              try clear hcz55_2
              try clear hcz55_3
              try clear hcz55_4
              try clear hcz55_5
              try clear hcz59_0
              try clear hcz59_1
              try clear hcz59_2
              try clear hcz59_3
              try clear hcz59_4
              try clear hcz59_5
              try clear hcz62_0
              try clear hcz62_1
              try clear hcz62_2
              try clear hcz62_3
              try clear hcz62_4
              try clear hcz62_5
              try clear hcz64_0
              try clear hcz64_1
              try clear hcz64_2
              try clear hcz64_3
              try clear hcz64_4
              try clear hcz64_5
              try clear hcz69_0
              try clear hcz69_1
              try clear hcz69_2
              try clear hcz69_3
              try clear hcz69_4
              try clear hcz69_5
              try clear hcz73_0
              try clear hcz73_1
              try clear hcz73_2
              try clear hcz73_3
              try clear hcz73_4
              try clear hcz73_5
              try clear hcz76_0
              try clear hcz76_1
              try clear hcz76_2
              try clear hcz76_3
              try clear hcz76_4
              try clear hcz76_5
              try clear hcz78_0
              try clear hcz78_1
              try clear hcz78_2
              try clear hcz78_3
              try clear hcz78_4
              try clear hcz78_5
              try clear hcz83_0
              try clear hcz83_1
              try clear hcz83_2
              try clear hcz83_3
              try clear hcz83_4
              try clear hcz83_5
              try clear hcz87_0
              try clear hcz87_1
              try clear hcz87_2
              try clear hcz87_3
              try clear hcz87_4
              try clear hcz87_5
              try clear hcz95_0
              try clear hcz95_1
              try clear hfz103_0
              try clear hfz103_1
              try clear hfz103_2
              try clear hfz103_3
              try clear hfz103_4
              try clear hfz103_5
              try clear hfz15_0
              try clear hfz15_1
              try clear hfz19_0
              try clear hfz19_1
              try clear hfz19_2
              try clear hfz19_3
              try clear hfz19_4
              try clear hfz19_5
              try clear hfz20_0
              try clear hfz20_1
              try clear hfz25_0
              try clear hfz25_1
              try clear hfz25_2
              try clear hfz25_3
              try clear hfz25_4
              try clear hfz25_5
              try clear hfz31_0
              try clear hfz31_1
              try clear hfz31_2
              try clear hfz31_3
              try clear hfz31_4
              try clear hfz31_5
              try clear hfz38_0
              try clear hfz38_1
              try clear hfz38_2
              try clear hfz38_3
              try clear hfz38_4
              try clear hfz38_5
              try clear hfz44_0
              try clear hfz44_1
              try clear hfz44_2
              try clear hfz44_3
              try clear hfz44_4
              try clear hfz44_5
              try clear hfz48_0
              try clear hfz48_1
              try clear hfz48_2
              try clear hfz48_3
              try clear hfz48_4
              try clear hfz48_5
              try clear hfz55_0
              try clear hfz55_1
              try clear hfz55_2
              try clear hfz55_3
              try clear hfz55_4
              try clear hfz55_5
              try clear hfz59_0
              try clear hfz59_1
              try clear hfz59_2
              try clear hfz59_3
              try clear hfz59_4
              try clear hfz59_5
              try clear hfz62_0
              try clear hfz62_1
              try clear hfz62_2
              try clear hfz62_3
              try clear hfz62_4
              try clear hfz62_5
              try clear hfz64_0
              try clear hfz64_1
              try clear hfz64_2
              try clear hfz64_3
              try clear hfz64_4
              try clear hfz64_5
              try clear hfz69_0
              try clear hfz69_1
              try clear hfz69_2
              try clear hfz69_3
              try clear hfz69_4
              try clear hfz69_5
              try clear hfz73_0
              try clear hfz73_1
              try clear hfz73_2
              try clear hfz73_3
              try clear hfz73_4
              try clear hfz73_5
              try clear hfz76_0
              try clear hfz76_1
              try clear hfz76_2
              try clear hfz76_3
              try clear hfz76_4
              try clear hfz76_5
              try clear hfz78_0
              try clear hfz78_1
              try clear hfz78_2
              try clear hfz78_3
              try clear hfz78_4
              try clear hfz78_5
              try clear hfz83_0
              try clear hfz83_1
              try clear hfz83_2
              try clear hfz83_3
              try clear hfz83_4
              try clear hfz83_5
              try clear hfz87_0
              try clear hfz87_1
              try clear hfz87_2
              try clear hfz87_3
              try clear hfz87_4
              try clear hfz87_5
              try clear hfz95_0
              try clear hfz95_1
              try clear p2
              obtain ⟨kq, x75_89, rfl, HA, HJ89, BK174, BK183, BK191, BK199, BK207, BK215, HB⟩ := hcut
              cases kq with
              | zero => exact absurd HA.out (by simp [montagelaw41_ClockSeconds.j1])
              | succ kj89 =>
                have H := HA.out
                clear HA
                simp only [montagelaw41_ClockSeconds.j1] at H
                by_cases c105 : x75_89 = true
                · subst c105
                  have H1 : (some true) = some r := by rw [if_pos rfl] at H; exact H
                  clear H
                  have H := H1
                  clear H1
                  obtain rfl := Option.some.inj H
                  clear hr_
                  go_wp2
                  go_ret
                  exact ⟨by first | rfl | (simp [errW_none, errW_some] <;> rfl) | (simp [*, errW_none, errW_some] <;> rfl), by repeat (first | (with_reducible first | exact HB.out | apply below_alloc | apply pw_below_drewN | apply below_drew1 | refine below_set ?_ GE174.out | refine below_set ?_ GE183.out | refine below_set ?_ GE191.out | refine below_set ?_ GE199.out | refine below_set ?_ GE207.out | refine below_set ?_ GE215.out) | exact HB.out)⟩
                · replace c105 := Bool.eq_false_iff.mpr c105
                  subst c105
                  have H1 : ((clock_Put.f kj89 t176 t177 t178 t179 t180 t181).bind fun bt216 => ((clock_Put.f kj89 t208 t209 t210 t211 t212 t213).bind fun bt218 => (some ((decide ((wrap64 (Int.tdiv a0_0 2)) < (wrap64 (Int.tdiv a0_1 2)))) == (decide (bt216.1 < bt218.1)))))) = some r := by rw [if_neg (show ¬ (false = true) by decide)] at H; exact H
                  clear H
                  have H := H1
                  clear H1
                  replace H := Option.bind_eq_some_iff.mp H
                  obtain ⟨⟨t216, t217⟩, A1060, H⟩ := H
                  replace H : ((clock_Put.f kj89 t208 t209 t210 t211 t212 t213).bind fun bt218 => (some ((decide ((wrap64 (Int.tdiv a0_0 2)) < (wrap64 (Int.tdiv a0_1 2)))) == (decide (t216 < bt218.1))))) = some r := H
                  have A106 := Aside0.mk A1060
                  clear A1060
                  replace H := Option.bind_eq_some_iff.mp H
                  obtain ⟨⟨t218, t219⟩, A1070, H⟩ := H
                  replace H : (some ((decide ((wrap64 (Int.tdiv a0_0 2)) < (wrap64 (Int.tdiv a0_1 2)))) == (decide (t216 < t218)))) = some r := H
                  have A107 := Aside0.mk A1070
                  clear A1070
                  obtain rfl := Option.some.inj H
                  have hnb108 := NB183_174.out
                  have hnc108 := NB174_183.out
                  have hnb109 := NB183_191.out
                  have hnc109 := NB191_183.out
                  have hnb110 := NB183_199.out
                  have hnc110 := NB199_183.out
                  have hnb111 := NB183_207.out
                  have hnc111 := NB207_183.out
                  have hnb112 := NB183_215.out
                  have hnc112 := NB215_183.out
                  have hcz113_0 : wc.cell? ⟨gb183, 0, none⟩ = some (.int .i64 t176) := (blk_cell BK183.out 0).trans rfl
                  have hcz113_1 : wc.cell? ⟨gb183, 1, none⟩ = some (.int .i64 t177) := (blk_cell BK183.out 1).trans rfl
                  have hcz113_2 : wc.cell? ⟨gb183, 2, none⟩ = some (.int .i64 t178) := (blk_cell BK183.out 2).trans rfl
                  have hcz113_3 : wc.cell? ⟨gb183, 3, none⟩ = some (.int .i64 t179) := (blk_cell BK183.out 3).trans rfl
                  have hcz113_4 : wc.cell? ⟨gb183, 4, none⟩ = some (.int .i64 t180) := (blk_cell BK183.out 4).trans rfl
                  have hcz113_5 : wc.cell? ⟨gb183, 5, none⟩ = some (.int .i64 t181) := (blk_cell BK183.out 5).trans rfl
                  have hfz113_0 := blk_frozen BK183.out 0
                  have hfz113_1 := blk_frozen BK183.out 1
                  have hfz113_2 := blk_frozen BK183.out 2
                  have hfz113_3 := blk_frozen BK183.out 3
                  have hfz113_4 := blk_frozen BK183.out 4
                  have hfz113_5 := blk_frozen BK183.out 5
                  go_wp2_with (first | ((with_reducible refine gate_callee (f := 7) rfl ?_); refine goesL_ (some 78) rfl rfl Tryd.func7 (by kernel_rfl) rfl #[.agg #[.int .i64 t176, .int .i64 t177, .int .i64 t178, .int .i64 t179, .int .i64 t180, .int .i64 t181]] rfl (by (try simp only [List.map_toArray, List.map_cons, List.map_nil]); first | done | rfl | (simp only [List.length_drop, List.length_take]; rfl)) ?_; (with_reducible refine (clock_Put.calls kj89 t176 t177 t178 t179 t180 t181 t216 t217 _ A106.out).mono ?_); rintro e w114 ⟨rfl, hb⟩; refine ⟨_, rfl, ?_⟩; have n0_ := Aside0.mk (blk_below (g := gb174) (o := .cells #[.int .i64 a0_0, .int .i64 a0_1] 39 (0, 0)) (by (with_reducible repeat (first | refine blk_drewN ?_ _ | refine blk_drew ?_ | refine blk_alloc ?_ _)); exact BK174.out) hb); have n1_ := Aside0.mk (blk_below (g := gb183) (o := .cells #[.int .i64 t176, .int .i64 t177, .int .i64 t178, .int .i64 t179, .int .i64 t180, .int .i64 t181] 23 (0, 0)) (by (with_reducible repeat (first | refine blk_drewN ?_ _ | refine blk_drew ?_ | refine blk_alloc ?_ _)); exact BK183.out) hb); have n2_ := Aside0.mk (blk_below (g := gb191) (o := .cells #[.int .i64 t184, .int .i64 t185, .int .i64 t186, .int .i64 t187, .int .i64 t188, .int .i64 t189] 23 (0, 0)) (by (with_reducible repeat (first | refine blk_drewN ?_ _ | refine blk_drew ?_ | refine blk_alloc ?_ _)); exact BK191.out) hb); have n3_ := Aside0.mk (blk_below (g := gb199) (o := .cells #[.int .i64 t192, .int .i64 t193, .int .i64 t194, .int .i64 t195, .int .i64 t196, .int .i64 t197] 23 (0, 0)) (by (with_reducible repeat (first | refine blk_drewN ?_ _ | refine blk_drew ?_ | refine blk_alloc ?_ _)); exact BK199.out) hb); have n4_ := Aside0.mk (blk_below (g := gb207) (o := .cells #[.int .i64 t200, .int .i64 t201, .int .i64 t202, .int .i64 t203, .int .i64 t204, .int .i64 t205] 23 (0, 0)) (by (with_reducible repeat (first | refine blk_drewN ?_ _ | refine blk_drew ?_ | refine blk_alloc ?_ _)); exact BK207.out) hb); have n5_ := Aside0.mk (blk_below (g := gb215) (o := .cells #[.int .i64 t208, .int .i64 t209, .int .i64 t210, .int .i64 t211, .int .i64 t212, .int .i64 t213] 23 (0, 0)) (by (with_reducible repeat (first | refine blk_drewN ?_ _ | refine blk_drew ?_ | refine blk_alloc ?_ _)); exact BK215.out) hb); have n6_ := Aside0.mk (below_step (by repeat (first | (with_reducible first | exact HB.out | apply below_alloc | apply pw_below_drewN | apply below_drew1 | refine below_set ?_ GE174.out | refine below_set ?_ GE183.out | refine below_set ?_ GE191.out | refine below_set ?_ GE199.out | refine below_set ?_ GE207.out | refine below_set ?_ GE215.out) | exact HB.out)) hb); clear BK174; clear BK183; clear BK191; clear BK199; clear BK207; clear BK215; clear HB; have BK174 := n0_; have BK183 := n1_; have BK191 := n2_; have BK199 := n3_; have BK207 := n4_; have BK215 := n5_; have HB := n6_; clear n0_ n1_ n2_ n3_ n4_ n5_ n6_; (try clear hb); (try clear hb2); (try clear hk); (try clear hi); have hnb115 := NB215_174.out; have hnc115 := NB174_215.out; have hnb116 := NB215_191.out; have hnc116 := NB191_215.out; have hnb117 := NB215_199.out; have hnc117 := NB199_215.out; have hnb118 := NB215_207.out; have hnc118 := NB207_215.out; have hcz119_0 : w114.cell? ⟨gb215, 0, none⟩ = some (.int .i64 t208) := (blk_cell BK215.out 0).trans rfl; have hcz119_1 : w114.cell? ⟨gb215, 1, none⟩ = some (.int .i64 t209) := (blk_cell BK215.out 1).trans rfl; have hcz119_2 : w114.cell? ⟨gb215, 2, none⟩ = some (.int .i64 t210) := (blk_cell BK215.out 2).trans rfl; have hcz119_3 : w114.cell? ⟨gb215, 3, none⟩ = some (.int .i64 t211) := (blk_cell BK215.out 3).trans rfl; have hcz119_4 : w114.cell? ⟨gb215, 4, none⟩ = some (.int .i64 t212) := (blk_cell BK215.out 4).trans rfl; have hcz119_5 : w114.cell? ⟨gb215, 5, none⟩ = some (.int .i64 t213) := (blk_cell BK215.out 5).trans rfl; have hfz119_0 := blk_frozen BK215.out 0; have hfz119_1 := blk_frozen BK215.out 1; have hfz119_2 := blk_frozen BK215.out 2; have hfz119_3 := blk_frozen BK215.out 3; have hfz119_4 := blk_frozen BK215.out 4; have hfz119_5 := blk_frozen BK215.out 5) | ((with_reducible refine gate_callee (f := 7) rfl ?_); refine goesL_ (some 83) rfl rfl Tryd.func7 (by kernel_rfl) rfl #[.agg #[.int .i64 t208, .int .i64 t209, .int .i64 t210, .int .i64 t211, .int .i64 t212, .int .i64 t213]] rfl (by (try simp only [List.map_toArray, List.map_cons, List.map_nil]); first | done | rfl | (simp only [List.length_drop, List.length_take]; rfl)) ?_; (with_reducible refine (clock_Put.calls kj89 t208 t209 t210 t211 t212 t213 t218 t219 _ A107.out).mono ?_); rintro e w120 ⟨rfl, hb⟩; refine ⟨_, rfl, ?_⟩; have n0_ := Aside0.mk (blk_below (g := gb174) (o := .cells #[.int .i64 a0_0, .int .i64 a0_1] 39 (0, 0)) (by (with_reducible repeat (first | refine blk_drewN ?_ _ | refine blk_drew ?_ | refine blk_alloc ?_ _)); exact BK174.out) hb); have n1_ := Aside0.mk (blk_below (g := gb183) (o := .cells #[.int .i64 t176, .int .i64 t177, .int .i64 t178, .int .i64 t179, .int .i64 t180, .int .i64 t181] 23 (0, 0)) (by (with_reducible repeat (first | refine blk_drewN ?_ _ | refine blk_drew ?_ | refine blk_alloc ?_ _)); exact BK183.out) hb); have n2_ := Aside0.mk (blk_below (g := gb191) (o := .cells #[.int .i64 t184, .int .i64 t185, .int .i64 t186, .int .i64 t187, .int .i64 t188, .int .i64 t189] 23 (0, 0)) (by (with_reducible repeat (first | refine blk_drewN ?_ _ | refine blk_drew ?_ | refine blk_alloc ?_ _)); exact BK191.out) hb); have n3_ := Aside0.mk (blk_below (g := gb199) (o := .cells #[.int .i64 t192, .int .i64 t193, .int .i64 t194, .int .i64 t195, .int .i64 t196, .int .i64 t197] 23 (0, 0)) (by (with_reducible repeat (first | refine blk_drewN ?_ _ | refine blk_drew ?_ | refine blk_alloc ?_ _)); exact BK199.out) hb); have n4_ := Aside0.mk (blk_below (g := gb207) (o := .cells #[.int .i64 t200, .int .i64 t201, .int .i64 t202, .int .i64 t203, .int .i64 t204, .int .i64 t205] 23 (0, 0)) (by (with_reducible repeat (first | refine blk_drewN ?_ _ | refine blk_drew ?_ | refine blk_alloc ?_ _)); exact BK207.out) hb); have n5_ := Aside0.mk (blk_below (g := gb215) (o := .cells #[.int .i64 t208, .int .i64 t209, .int .i64 t210, .int .i64 t211, .int .i64 t212, .int .i64 t213] 23 (0, 0)) (by (with_reducible repeat (first | refine blk_drewN ?_ _ | refine blk_drew ?_ | refine blk_alloc ?_ _)); exact BK215.out) hb); have n6_ := Aside0.mk (below_step (by repeat (first | (with_reducible first | exact HB.out | apply below_alloc | apply pw_below_drewN | apply below_drew1 | refine below_set ?_ GE174.out | refine below_set ?_ GE183.out | refine below_set ?_ GE191.out | refine below_set ?_ GE199.out | refine below_set ?_ GE207.out | refine below_set ?_ GE215.out) | exact HB.out)) hb); clear BK174; clear BK183; clear BK191; clear BK199; clear BK207; clear BK215; clear HB; have BK174 := n0_; have BK183 := n1_; have BK191 := n2_; have BK199 := n3_; have BK207 := n4_; have BK215 := n5_; have HB := n6_; clear n0_ n1_ n2_ n3_ n4_ n5_ n6_; (try clear hb); (try clear hb2); (try clear hk); (try clear hi); have hnb121 := NB174_191.out; have hnc121 := NB191_174.out; have hnb122 := NB174_199.out; have hnc122 := NB199_174.out; have hnb123 := NB174_207.out; have hnc123 := NB207_174.out; have hcz124_0 : w120.cell? ⟨gb174, 0, none⟩ = some (.int .i64 a0_0) := (blk_cell BK174.out 0).trans rfl; have hcz124_1 : w120.cell? ⟨gb174, 1, none⟩ = some (.int .i64 a0_1) := (blk_cell BK174.out 1).trans rfl; have hfz124_0 := blk_frozen BK174.out 0; have hfz124_1 := blk_frozen BK174.out 1))
                  go_ret
                  exact ⟨by first | rfl | (simp [errW_none, errW_some] <;> rfl) | (simp [*, errW_none, errW_some] <;> rfl), by repeat (first | (with_reducible first | exact HB.out | apply below_alloc | apply pw_below_drewN | apply below_drew1 | refine below_set ?_ GE174.out | refine below_set ?_ GE183.out | refine below_set ?_ GE191.out | refine below_set ?_ GE199.out | refine below_set ?_ GE207.out | refine below_set ?_ GE215.out) | exact HB.out)⟩
  · replace c4 := Bool.eq_false_iff.mpr c4
    subst c4
    have H1 : (some false) = some r := by rw [if_neg (show ¬ (false = true) by decide)] at H; exact H
    clear H
    have H := H1
    clear H1
    obtain rfl := Option.some.inj H
    cases hr_


end Go.Proofs.YtodeagijmfoojaaDoor.PClock
