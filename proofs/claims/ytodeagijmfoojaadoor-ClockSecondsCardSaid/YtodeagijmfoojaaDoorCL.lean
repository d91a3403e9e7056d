/- An argument of two numbers, opened and shut again. -/
import Derived.Test.YtodeagijmfoojaaDoorPClockx0
import Derived.Lib.SmallJoins
namespace Go.Proofs.YtodeagijmfoojaaDoor.PClock
open Go.Joins Go.ChangeShapes Go.WideShapes Go.RowKit Go.Deep
set_option maxRecDepth 100000 in
theorem open_two {H : Type} {enc : TypeId × Value → H} {w : World} {base : Nat} {spare : Nat → Bool} {held : Bool} {r : Reach} {b0 : Nat} {v : Value} {d : DataW H} {p : List MemPlace} (hv : Value.okWide Tryd.prog w r b0 39 v) (h : DataW.Trod enc Tryd.prog w base spare held 39 v d p) :
    ∃ a0 a1 : Int, v = .agg #[.int .i64 a0, .int .i64 a1] ∧ d = .agg [.lit (.int .i64 a0), .lit (.int .i64 a1)] ∧ p = [] ∧ ((Lit.int .i64 a0).wf = true ∧ (Lit.int .i64 a1).wf = true) ∧
      ∀ (w' : World) (base' : Nat) (spare' : Nat → Bool) (held' : Bool), DataW.Trod enc Tryd.prog w' base' spare' held' 39 v d p := by
  have hC : Tryd.prog.cellsOf 39 = 2 := by kernel_rfl
  have c3' : Tryd.prog.cellsOf 3 = 1 := by kernel_rfl
  obtain ⟨cs, rfl, hsz⟩ : ∃ cs : Array Value, v = .agg cs ∧ cs.size = Tryd.prog.cellsOf 39 := by
    simp only [Value.okWide, Tryd.underlying39] at hv
    obtain ⟨cs, h1, h2, _⟩ := hv
    exact ⟨cs, h1, h2⟩
  obtain ⟨l⟩ := cs
  match l, hsz.trans hC with
  | [c0, c1], _ =>
    obtain ⟨fuel, hf⟩ := h
    have hcells : (Value.agg #[c0, c1]).cells.toList = [c0, c1] := by simp [Value.cells]
    rw [hcells] at hf
    obtain ⟨xs, n, _, hx, _, hlen, hg⟩ := DataW.trod_array Tryd.underlying39 hf
    match xs, hlen with
    | [y0, y1], _ =>
      have g0 : DataW.trod enc Tryd.prog w base spare held n 3 [c0] = some y0 := by simpa [c3'] using hg 0 (by omega)
      have g1 : DataW.trod enc Tryd.prog w base spare held n 3 [c1] = some y1 := by simpa [c3'] using hg 1 (by omega)
      obtain ⟨a0, e0, rfl, k0⟩ := DataW.trod_int Tryd.underlying3 g0
      obtain ⟨a1, e1, rfl, k1⟩ := DataW.trod_int Tryd.underlying3 g1
      obtain rfl : c0 = .int .i64 a0 := by simpa using e0
      obtain rfl : c1 = .int .i64 a1 := by simpa using e1
      simp only [List.map_cons, List.map_nil, List.flatMap_cons, List.flatMap_nil, List.append_nil, Prod.mk.injEq] at hx
      obtain ⟨rfl, rfl⟩ := hx
      refine ⟨a0, a1, rfl, rfl, rfl, ⟨k0, k1⟩, fun w' base' spare' held' => ⟨2, ?_⟩⟩
      rw [hcells]
      unfold DataW.trod
      rw [Tryd.underlying39]
      simp only [hC]
      unfold DataW.trod
      simp [Tryd.underlying3, c3', k0, k1, List.range_succ]
end Go.Proofs.YtodeagijmfoojaaDoor.PClock
