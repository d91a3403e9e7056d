import Derived.Test.YtodeagijmfoojaaDoorRows
import Derived.Test.YtodeagijmfoojaaDoorPClockx0
import Derived.LaidSub
import Derived.LaidMore
import Derived.MakeChecks
import Derived.Lib.LaidTab
import Derived.Lib.SmallJoins
namespace Go.Proofs.YtodeagijmfoojaaDoor.PClock
open Go.Joins Go.ChangeShapes Go.WideShapes Go.RowKit Go.Deep
/-- The world's premise, out of the row's list of variables. -/
theorem good_of_laid {W : World} {l : List (String × DataW Unit)} (hl : l = Rows.clockDatesRow.laid) (h : laidMetH Tryd.prog l W) : Good W := by
  subst hl
  constructor
  · have h1 := laidMetH.filter (fun x => x.1 == "internal/strconv.uint64pow10") h
    rw [show Rows.clockDatesRow.laid.filter (fun x : String × DataW Unit => x.1 == "internal/strconv.uint64pow10") = [("internal/strconv.uint64pow10", Lib.tabData .u64 Lib.pow10Tab)] from rfl] at h1
    rw [MakeChecks.laidMetH_plain _ _ _ (by kernel_rfl)] at h1
    exact Lib.tabIs_of_head (g := 2) (t := 103) (e := 79) (n := 20) (by kernel_rfl) (by kernel_rfl) (by kernel_rfl) (by kernel_rfl) (by kernel_rfl) (by kernel_rfl) h1
  · have h1 := laidMetH.filter (fun x => x.1 == "strconv.ErrSyntax") h
    rw [show Rows.clockDatesRow.laid.filter (fun x : String × DataW Unit => x.1 == "strconv.ErrSyntax") = [("strconv.ErrSyntax", Rows.laid_strconv_ErrSyntax)] from rfl] at h1
    rw [MakeChecks.laidMetH_plain _ _ _ (by kernel_rfl)] at h1
    obtain ⟨ps, ⟨g, t, cs, fuel, p, q, hg, ht, hv, hd, _, _⟩, _, _⟩ := h1
    obtain rfl := Option.some.inj ((show Tryd.prog.globalNamed "strconv.ErrSyntax" = some 0 by kernel_rfl).symm.trans hg)
    obtain rfl := Option.some.inj ((show (Tryd.prog.globals[0]?).map (·.type) = some 52 by kernel_rfl).symm.trans ht)
    have hu : ∃ ms, Tryd.prog.underlying 52 = some (.interface ms) := ⟨_, Tryd.underlying52⟩
    obtain ⟨ms, hu⟩ := hu
    cases fuel with
    | zero => simp [DataW.trod] at hd
    | succ n =>
      unfold DataW.trod at hd
      rw [hu] at hd
      rw [hv]
      obtain ⟨cs⟩ := cs
      have hne : Rows.laid_strconv_ErrSyntax (H := Unit) ≠ .nil := by unfold Rows.laid_strconv_ErrSyntax; exact fun hc => by cases hc
      revert hd hne
      generalize Rows.laid_strconv_ErrSyntax (H := Unit) = D
      intro hd hne
      split at hd
      all_goals first
        | (exfalso; simp_all; done)
        | (rename_i u v _ heq; exact ⟨u, v, congrArg some (congrArg Array.mk heq)⟩)
set_option maxRecDepth 100000 in
/-- A date as an argument: opened, and shut again. -/
theorem open_date {H : Type} {enc : TypeId × Value → H} {w : World} {base : Nat} {spare : Nat → Bool} {held : Bool} {r : Reach} {b0 : Nat} {v : Value} {d : DataW H} {p : List MemPlace} (hv : Value.okWide Tryd.prog w r b0 23 v) (h : DataW.Trod enc Tryd.prog w base spare held 23 v d p) :
    ∃ a0 a1 a2 a3 a4 a5 : Int, v = .agg #[.int .i64 a0, .int .i64 a1, .int .i64 a2, .int .i64 a3, .int .i64 a4, .int .i64 a5] ∧ d = .agg [.lit (.int .i64 a0), .lit (.int .i64 a1), .lit (.int .i64 a2), .lit (.int .i64 a3), .lit (.int .i64 a4), .lit (.int .i64 a5)] ∧ p = [] ∧
      ∀ (w' : World) (base' : Nat) (spare' : Nat → Bool) (held' : Bool), DataW.Trod enc Tryd.prog w' base' spare' held' 23 v d p := by
  obtain ⟨cs, rfl, hsz⟩ := okWide_struct Tryd.underlying23 hv
  have hC : Tryd.prog.cellsOf 23 = 6 := by kernel_rfl
  obtain ⟨l⟩ := cs
  match l, hsz.trans hC with
  | [c0, c1, c2, c3, c4, c5], _ =>
    obtain ⟨fuel, hf⟩ := h
    have hcells : (Value.agg #[c0, c1, c2, c3, c4, c5]).cells.toList = [c0, c1, c2, c3, c4, c5] := by simp [Value.cells]
    rw [hcells] at hf
    obtain ⟨xs, n, _, hx, _, hlen, hg⟩ := DataW.trod_struct Tryd.underlying23 hf
    have c3' : Tryd.prog.cellsOf 3 = 1 := by kernel_rfl
    match xs, hlen with
    | [y0, y1, y2, y3, y4, y5], _ =>
      have g0 : DataW.trod enc Tryd.prog w base spare held n 3 [c0] = some y0 := by simpa [c3'] using hg 0 _ rfl
      have g1 : DataW.trod enc Tryd.prog w base spare held n 3 [c1] = some y1 := by simpa [c3'] using hg 1 _ rfl
      have g2 : DataW.trod enc Tryd.prog w base spare held n 3 [c2] = some y2 := by simpa [c3'] using hg 2 _ rfl
      have g3 : DataW.trod enc Tryd.prog w base spare held n 3 [c3] = some y3 := by simpa [c3'] using hg 3 _ rfl
      have g4 : DataW.trod enc Tryd.prog w base spare held n 3 [c4] = some y4 := by simpa [c3'] using hg 4 _ rfl
      have g5 : DataW.trod enc Tryd.prog w base spare held n 3 [c5] = some y5 := by simpa [c3'] using hg 5 _ rfl
      obtain ⟨a0, e0, rfl, k0⟩ := DataW.trod_int Tryd.underlying3 g0
      obtain ⟨a1, e1, rfl, k1⟩ := DataW.trod_int Tryd.underlying3 g1
      obtain ⟨a2, e2, rfl, k2⟩ := DataW.trod_int Tryd.underlying3 g2
      obtain ⟨a3, e3, rfl, k3⟩ := DataW.trod_int Tryd.underlying3 g3
      obtain ⟨a4, e4, rfl, k4⟩ := DataW.trod_int Tryd.underlying3 g4
      obtain ⟨a5, e5, rfl, k5⟩ := DataW.trod_int Tryd.underlying3 g5
      obtain rfl : c0 = .int .i64 a0 := by simpa using e0
      obtain rfl : c1 = .int .i64 a1 := by simpa using e1
      obtain rfl : c2 = .int .i64 a2 := by simpa using e2
      obtain rfl : c3 = .int .i64 a3 := by simpa using e3
      obtain rfl : c4 = .int .i64 a4 := by simpa using e4
      obtain rfl : c5 = .int .i64 a5 := by simpa using e5
      simp only [List.map_cons, List.map_nil, List.flatMap_cons, List.flatMap_nil, List.append_nil, Prod.mk.injEq] at hx
      obtain ⟨rfl, rfl⟩ := hx
      refine ⟨a0, a1, a2, a3, a4, a5, rfl, rfl, rfl, fun w' base' spare' held' => ⟨2, ?_⟩⟩
      rw [hcells]
      unfold DataW.trod
      rw [Tryd.underlying23]
      simp only [hC]
      unfold DataW.trod
      simp [Tryd.underlying3, c3', k0, k1, k2, k3, k4, k5]
end Go.Proofs.YtodeagijmfoojaaDoor.PClock
