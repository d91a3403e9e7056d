-- Written by wip/xprint of this repo (not trusted: Lean checks it).
import Derived.Test.YtlbkfnofnlioaaaDoorPGlobx0
import Derived.Test.YtlbkfnofnlioaaaDoorPGlobx1
namespace Go.Proofs.YtlbkfnofnlioaaaDoor.PGlob
open Go.RowKit Go.Proofs.YtlbkfnofnlioaaaDoorW.PrintWords Go.Proofs.YtlbkfnofnlioaaaDoorW.PrintLast Go.Proofs.YtlbkfnofnlioaaaDoorW.PrintMore
attribute [local go_sem] max2_int min2_int max_two min_two max_three min_three max_four min_four   -- for this text's walks alone
set_option linter.unusedVariables false
set_option linter.unusedSimpArgs false

/-! ### glob_walk: function 19 (its contract is typed by hand) -/
/-- walk, plainly: star: which piece fits any number, and from where. -/
def glob_walk.g (n m : Nat) (many : Nat → Bool) (fits : Nat → Nat → Bool) : Nat → Nat → Nat → Option (Nat × Nat) → Option Bool
  | 0, _, _, _ => none
  | g + 1, i, k, st => if k < m then (if i < n then (if many i = true then glob_walk.g n m many fits g (i + 1) k (some (i, k)) else (if fits i k = true then glob_walk.g n m many fits g (i + 1) (k + 1) st else (match st with | some (s, f) => glob_walk.g n m many fits g (s + 1) (f + 1) (some (s, f + 1)) | none => some false))) else (match st with | some (s, f) => glob_walk.g n m many fits g (s + 1) (f + 1) (some (s, f + 1)) | none => some false)) else some ((List.range' i (n - i)).all many)
def glob_walk.star : Option (Nat × Nat) → Int | none => -1 | some (s, _) => s
def glob_walk.from' : Option (Nat × Nat) → Int | none => 0 | some (_, f) => f
def glob_walk.ok (n m : Nat) : Option (Nat × Nat) → Prop | none => True | some (s, f) => s < n ∧ f ≤ m
def glob_walk.okf (k : Nat) : Option (Nat × Nat) → Prop | none => True | some (_, f) => f ≤ k
set_option maxHeartbeats 1000000 in
set_option maxRecDepth 100000 in
theorem glob_walk.calls (n m : Nat) (many : Nat → Bool) (fits : Nat → Nat → Bool) (g1 g2 : Nat) (lb1 lb2 : Array Value) (e1 : ∀ args w, (callFunc g1 args).run Tryd.prog w = .ok (.enter g1 args) w) (e2 : ∀ args w, (callFunc g2 args).run Tryd.prog w = .ok (.enter g2 args) w)
    (hn : n ≤ 4611686018427387904) (hm : m ≤ 4611686018427387904) (G : Nat) (r : Bool) (w : World)
    (hp1 : ∀ (i : Nat) W, i < n → Below w.heap.size w W → Calls Tryd.prog g1 (#[.int .i64 i] ++ lb1) W fun e w' => e = .returned (.bool (many i)) ∧ Below W.heap.size W w')
    (hp2 : ∀ (i k : Nat) W, i < n → k < m → many i = false → Below w.heap.size w W → Calls Tryd.prog g2 (#[.int .i64 i, .int .i64 k] ++ lb2) W fun e w' => e = .returned (.bool (fits i k)) ∧ Below W.heap.size W w')
    (h : glob_walk.g n m many fits G 0 0 none = some r) :
    Calls Tryd.prog 19 #[.int .i64 n, .int .i64 m, .func (.func g1) #[] lb1, .func (.func g2) #[] lb2] w fun e w' => e = .returned (.bool r) ∧ Below w.heap.size w w' := by
  have H := Aside0.mk h
  have HP1 := Aside0.mk hp1
  have HP2 := Aside0.mk hp2
  clear h hp1 hp2
  go_enter Tryd.func19, Tryd.ntmps19
  go_wp2
  go_loopg [9, 10, 11, 12] G (fun gg s9 s10 s11 s12 wr => ∃ (i k : Nat) (st : Option (Nat × Nat)), s9 = .int .i64 i ∧ s10 = .int .i64 k ∧ s11 = .int .i64 (glob_walk.star st) ∧ s12 = .int .i64 (glob_walk.from' st) ∧ Aside0 (glob_walk.g n m many fits gg i k st = some r) ∧ i ≤ n ∧ k ≤ m ∧ Aside0 (glob_walk.ok n m st) ∧ Aside0 (glob_walk.okf k st) ∧ Aside0 (Below w.heap.size w wr))
  case atStart => exact ⟨0, 0, none, rfl, rfl, rfl, rfl, H, Nat.zero_le _, Nat.zero_le _, ⟨trivial⟩, ⟨trivial⟩, ⟨Below.refl _ _⟩⟩
  case round =>
    obtain ⟨i, k, st, rfl, rfl, rfl, rfl, HA, hi, hk, HO, HF, HB⟩ := hrel
    cases gk with
    | zero => exact absurd HA.out (by simp [glob_walk.g])
    | succ g0 =>
    have H := HA.out
    clear HA
    simp only [glob_walk.g] at H
    by_cases hkm : k < m
    · rw [if_pos hkm] at H
      have hkmI : (k : Int) < (m : Int) := by omega
      by_cases hin : i < n
      · rw [if_pos hin] at H
        have hinI : (i : Int) < (n : Int) := by omega
        cases hmany : many i with
        | true =>
          rw [if_pos hmany] at H
          have H' := Aside0.mk H
          have HC1 : Aside0 (Calls Tryd.prog g1 (#[.int .i64 i] ++ lb1) wr fun e w' => e = .returned (.bool true) ∧ Below wr.heap.size wr w') := ⟨by have := HP1.out i wr hin HB.out; rw [hmany] at this; exact this⟩
          clear H hmany
          go_wp2_with (go_at_fn g1; refine (HC1.out).mono ?_; rintro e w2 ⟨rfl, hb2⟩; have HB2 := Aside0.mk hb2; clear hb2)
          go_roundg g0
          case measure => omega
          case rel => exact ⟨i + 1, k, some (i, k), by go_num, rfl, rfl, rfl, H', by omega, by omega, ⟨⟨hin, by omega⟩⟩, ⟨Nat.le_refl _⟩, ⟨HB.out.trans (HB2.out.mono HB.out.size)⟩⟩
        | false =>
          rw [if_neg (by rw [hmany]; decide)] at H
          have HC1 : Aside0 (Calls Tryd.prog g1 (#[.int .i64 i] ++ lb1) wr fun e w' => e = .returned (.bool false) ∧ Below wr.heap.size wr w') := ⟨by have := HP1.out i wr hin HB.out; rw [hmany] at this; exact this⟩
          cases hfits : fits i k with
          | true =>
            rw [if_pos hfits] at H
            have H' := Aside0.mk H
            have HC2a : ∀ w2, Below wr.heap.size wr w2 → Aside0 (Calls Tryd.prog g2 (#[.int .i64 i, .int .i64 k] ++ lb2) w2 fun e w' => e = .returned (.bool true) ∧ Below w2.heap.size w2 w') := fun w2 hb2 => ⟨by have := HP2.out i k w2 hin hkm hmany (HB.out.trans (hb2.mono HB.out.size)); rw [hfits] at this; exact this⟩
            clear H hmany hfits
            go_wp2_with (first | (go_at_fn g1; refine (HC1.out).mono ?_; rintro e w2 ⟨rfl, hb2⟩; have HB2 := Aside0.mk hb2; have HC2 := HC2a w2 hb2; clear hb2) | (go_at_fn g2; refine (HC2.out).mono ?_; rintro e w3 ⟨rfl, hb3⟩; have HB3 := Aside0.mk hb3; clear hb3))
            go_roundg g0
            case measure => omega
            case rel => exact ⟨i + 1, k + 1, st, by go_num, by go_num, rfl, rfl, H', by omega, by omega, HO, ⟨by cases st with | none => trivial | some p => exact Nat.le_succ_of_le HF.out⟩, ⟨(HB.out.trans (HB2.out.mono HB.out.size)).trans (HB3.out.mono (Nat.le_trans HB.out.size HB2.out.size))⟩⟩
          | false =>
            rw [if_neg (by rw [hfits]; decide)] at H
            have HC2a : ∀ w2, Below wr.heap.size wr w2 → Aside0 (Calls Tryd.prog g2 (#[.int .i64 i, .int .i64 k] ++ lb2) w2 fun e w' => e = .returned (.bool false) ∧ Below w2.heap.size w2 w') := fun w2 hb2 => ⟨by have := HP2.out i k w2 hin hkm hmany (HB.out.trans (hb2.mono HB.out.size)); rw [hfits] at this; exact this⟩
            clear hmany hfits
            cases st with
            | none =>
              simp only at H
              obtain rfl := Option.some.inj H
              simp only [glob_walk.star, glob_walk.from']
              go_wp2_with (first | (go_at_fn g1; refine (HC1.out).mono ?_; rintro e w2 ⟨rfl, hb2⟩; have HB2 := Aside0.mk hb2; have HC2 := HC2a w2 hb2; clear hb2) | (go_at_fn g2; refine (HC2.out).mono ?_; rintro e w3 ⟨rfl, hb3⟩; have HB3 := Aside0.mk hb3; clear hb3))
              go_ret
              exact ⟨rfl, (HB.out.trans (HB2.out.mono HB.out.size)).trans (HB3.out.mono (Nat.le_trans HB.out.size HB2.out.size))⟩
            | some p =>
              obtain ⟨s, f⟩ := p
              simp only at H
              have H' := Aside0.mk H
              clear H
              have hs : s < n := HO.out.1
              have hf : f ≤ k := HF.out
              simp only [glob_walk.star, glob_walk.from']
              go_wp2_with (first | (go_at_fn g1; refine (HC1.out).mono ?_; rintro e w2 ⟨rfl, hb2⟩; have HB2 := Aside0.mk hb2; have HC2 := HC2a w2 hb2; clear hb2) | (go_at_fn g2; refine (HC2.out).mono ?_; rintro e w3 ⟨rfl, hb3⟩; have HB3 := Aside0.mk hb3; clear hb3))
              go_roundg g0
              case measure => omega
              case rel => exact ⟨s + 1, f + 1, some (s, f + 1), by go_num, by go_num, rfl, by (simp only [glob_walk.from']; go_num), H', by omega, by omega, ⟨⟨hs, by omega⟩⟩, ⟨Nat.le_refl _⟩, ⟨(HB.out.trans (HB2.out.mono HB.out.size)).trans (HB3.out.mono (Nat.le_trans HB.out.size HB2.out.size))⟩⟩
      · rw [if_neg hin] at H
        have hinI : ¬ (i : Int) < (n : Int) := by omega
        cases st with
        | none =>
          simp only at H
          obtain rfl := Option.some.inj H
          simp only [glob_walk.star, glob_walk.from']
          go_wp2
          go_ret
          exact ⟨rfl, HB.out⟩
        | some p =>
          obtain ⟨s, f⟩ := p
          simp only at H
          have H' := Aside0.mk H
          clear H
          have hs : s < n := HO.out.1
          have hf : f ≤ k := HF.out
          simp only [glob_walk.star, glob_walk.from']
          go_wp2
          go_roundg g0
          case measure => omega
          case rel => exact ⟨s + 1, f + 1, some (s, f + 1), by go_num, by go_num, rfl, by (simp only [glob_walk.from']; go_num), H', by omega, by omega, ⟨⟨hs, by omega⟩⟩, ⟨Nat.le_refl _⟩, ⟨HB.out⟩⟩
    · rw [if_neg hkm] at H
      have hkmI : ¬ (k : Int) < (m : Int) := by omega
      have HR := Aside0.mk (Option.some.inj H)
      clear H HP2
      obtain ⟨wo, rfl⟩ : ∃ wo : World, wo = wr := ⟨_, rfl⟩
      go_wp2
      go_loopg [9] (n - i) (fun gg s9 wr => ∃ j : Nat, s9 = .int .i64 j ∧ i ≤ j ∧ j ≤ n ∧ n - j ≤ gg ∧ Aside0 ((List.range' j (n - j)).all many = r) ∧ Aside0 (Below w.heap.size w wr))
      case atStart => exact ⟨i, rfl, Nat.le_refl _, hi, Nat.le_refl _, HR, HB⟩
      case round =>
        obtain ⟨j, rfl, hij, hjn, hg, HA, HB⟩ := hrel
        by_cases hjl : j < n
        · have hjI : (j : Int) < (n : Int) := by omega
          have hne : ((j : Int) == (n : Int)) = false := beq_eq_false_iff_ne.mpr (by omega)
          have H := HA.out
          rw [show n - j = (n - j - 1) + 1 from by omega, List.range'_succ, List.all_cons] at H
          cases hmany : many j with
          | true =>
            rw [hmany, Bool.true_and] at H
            have HC1 : Aside0 (Calls Tryd.prog g1 (#[.int .i64 j] ++ lb1) wr fun e w' => e = .returned (.bool true) ∧ Below wr.heap.size wr w') := ⟨by have := HP1.out j wr hjl HB.out; rw [hmany] at this; exact this⟩
            have H' := Aside0.mk H
            clear H hmany
            go_wp2_with (go_at_fn g1; refine (HC1.out).mono ?_; rintro e w2 ⟨rfl, hb2⟩; have HB2 := Aside0.mk hb2; clear hb2)
            go_roundg (n - (j + 1))
            case measure => omega
            case rel => exact ⟨j + 1, by go_num, by omega, by omega, by omega, ⟨by rw [show n - (j + 1) = n - j - 1 from by omega]; exact H'.out⟩, ⟨HB.out.trans (HB2.out.mono HB.out.size)⟩⟩
          | false =>
            rw [hmany, Bool.false_and] at H
            subst H
            have HC1 : Aside0 (Calls Tryd.prog g1 (#[.int .i64 j] ++ lb1) wr fun e w' => e = .returned (.bool false) ∧ Below wr.heap.size wr w') := ⟨by have := HP1.out j wr hjl HB.out; rw [hmany] at this; exact this⟩
            clear hmany
            go_wp2_with (go_at_fn g1; refine (HC1.out).mono ?_; rintro e w2 ⟨rfl, hb2⟩; have HB2 := Aside0.mk hb2; clear hb2)
            go_ret
            exact ⟨rfl, HB.out.trans (HB2.out.mono HB.out.size)⟩
        · have hjI : ¬ (j : Int) < (n : Int) := by omega
          obtain rfl : j = n := by omega
          have H := HA.out
          rw [Nat.sub_self] at H
          obtain rfl : true = r := H
          go_wp2
          go_ret
          exact ⟨rfl, HB.out⟩

/-! ### glob_fit: function 22 (its contract is typed by hand) -/
set_option maxHeartbeats 1000000 in
set_option maxRecDepth 100000 in
theorem glob_fit_1.calls (l : List S54) (A : Option Addr) (c b i : Nat) (w : World) (hb : w.cell? ⟨b, 0, none⟩ = some (.slice A l.length c)) (hl : Kd.C k54 w A l.length l) (hi : i < l.length) :
    Calls Tryd.prog 28 #[.int .i64 i, .pointer (some ⟨b, 0, none⟩)] w fun e w' => e = .returned (.bool ((rd_T54 l i).f0 == 2)) ∧ Below w.heap.size w w' := by
  obtain ⟨ad, rfl, h1, h2⟩ := at_T54 hl i (by omega) (by omega)
  rw [Int.toNat_natCast] at h1 h2
  have hiI : (i : Int) < (l.length : Int) := by omega
  have hu := Tryd.underlying54
  go_enter Tryd.func28, Tryd.ntmps28
  go_wp2
  go_ret
  exact ⟨rfl, Below.refl _ _⟩
set_option maxHeartbeats 1000000 in
set_option maxRecDepth 100000 in
theorem glob_fit_2.calls (l : List S54) (s : ByteArray) (A : Option Addr) (c b b2 i k : Nat) (w : World) (hb : w.cell? ⟨b, 0, none⟩ = some (.slice A l.length c)) (hb2 : w.cell? ⟨b2, 0, none⟩ = some (.string s)) (hl : Kd.C k54 w A l.length l) (hi : i < l.length) (hk : k < s.size) (r : Bool) (hr : r = ((rd_T54 l i).f0 == 1 || (rd_T54 l i).f1 == bt s k)) :
    Calls Tryd.prog 29 #[.int .i64 i, .int .i64 k, .pointer (some ⟨b, 0, none⟩), .pointer (some ⟨b2, 0, none⟩)] w fun e w' => e = .returned (.bool r) ∧ Below w.heap.size w w' := by
  obtain ⟨ad, rfl, h1, h2⟩ := at_T54 hl i (by omega) (by omega)
  rw [Int.toNat_natCast] at h1 h2
  have hiI : (i : Int) < (l.length : Int) := by omega
  have hu := Tryd.underlying54
  have hkI : (k : Int) < (s.size : Int) := by omega
  have hx' : ((s[k]'hk).toNat : Int) = bt s k := bt_at s k hk
  have HR := Aside0.mk hr
  clear hr
  cases hc1 : (rd_T54 l i).f0 == 1 with
  | true =>
    rw [hc1, Bool.true_or] at HR
    obtain rfl := HR.out
    go_enter Tryd.func29, Tryd.ntmps29
    go_wp2
    go_quiet (fail)
    go_wp2
    go_ret
    exact ⟨rfl, by apply pw_below_drewN; exact Below.refl _ _⟩
  | false =>
    rw [hc1, Bool.false_or] at HR
    go_enter Tryd.func29, Tryd.ntmps29
    go_wp2
    go_quiet (fail)
    go_wp2
    go_ret
    exact ⟨by rw [HR.out]; rfl, by apply pw_below_drewN; exact Below.refl _ _⟩
/-- fit, plainly: enough rounds are told. -/
def glob_fit.f (l0 : List S54) (a1 : ByteArray) : Option (Bool) := if l0.length ≤ 4611686018427387904 ∧ a1.size ≤ 4611686018427387904 then glob_walk.g l0.length a1.size (fun i => (rd_T54 l0 i).f0 == 2) (fun i k => (rd_T54 l0 i).f0 == 1 || (rd_T54 l0 i).f1 == bt a1 k) ((a1.size + 2) * (l0.length + a1.size + 4)) 0 0 none else none
set_option maxHeartbeats 1000000 in
set_option maxRecDepth 100000 in
theorem glob_fit.calls (A0 : Option Addr) (c0 : Nat) (l0 : List S54) (a1 : ByteArray) (r : Bool) (w : World) (hr0 : Kd.C k54 w A0 l0.length l0) (hc0 : l0.length ≤ c0) (h : glob_fit.f l0 a1 = some r) :
    Calls Tryd.prog 22 #[.slice A0 l0.length c0, .string a1] w fun e w' => e = .returned (.bool r) ∧ Below w.heap.size w w' := by
  obtain ⟨⟨hl, hs⟩, h⟩ : (l0.length ≤ 4611686018427387904 ∧ a1.size ≤ 4611686018427387904) ∧ _ := by unfold glob_fit.f at h; split at h; exact ⟨‹_›, h⟩; cases h
  obtain ⟨w2, hw2⟩ : ∃ w2 : World, w2 = (w.alloc (.cells #[.slice A0 l0.length c0] 30)).alloc (.cells #[.string a1] 9) := ⟨_, rfl⟩
  have hB2 : Below w.heap.size w w2 := by rw [hw2]; exact ((Below.refl _ w).alloc (Nat.le_refl _) _).alloc (by simp) _
  have hs2 : w2.heap.size = w.heap.size + 2 := by rw [hw2]; simp
  have hb1 : w2.cell? ⟨w.heap.size, 0, none⟩ = some (.slice A0 l0.length c0) := by rw [hw2]; simp
  have hb2 : w2.cell? ⟨w.heap.size + 1, 0, none⟩ = some (.string a1) := by rw [hw2]; simp
  have C := glob_walk.calls l0.length a1.size (fun i => (rd_T54 l0 i).f0 == 2) (fun i k => (rd_T54 l0 i).f0 == 1 || (rd_T54 l0 i).f1 == bt a1 k) 28 29 #[.pointer (some ⟨w.heap.size, 0, none⟩)] #[.pointer (some ⟨w.heap.size, 0, none⟩), .pointer (some ⟨w.heap.size + 1, 0, none⟩)]
    (enters_of Tryd.func28 (by kernel_rfl) rfl) (enters_of Tryd.func29 (by kernel_rfl) rfl) hl hs _ r w2
    (fun i W hi hB => glob_fit_1.calls l0 A0 c0 w.heap.size i W ((hB.cell (p := ⟨w.heap.size, 0, none⟩) (by show w.heap.size < _; omega)).trans hb1) (Kd.C_below hr0 (hB2.trans (hB.mono (by omega)))) hi)
    (fun i k W hi hk _ hB => glob_fit_2.calls l0 a1 A0 c0 w.heap.size (w.heap.size + 1) i k W ((hB.cell (p := ⟨w.heap.size, 0, none⟩) (by show w.heap.size < _; omega)).trans hb1) ((hB.cell (p := ⟨w.heap.size + 1, 0, none⟩) (by show w.heap.size + 1 < _; omega)).trans hb2) (Kd.C_below hr0 (hB2.trans (hB.mono (by omega)))) hi hk _ rfl) h
  rw [hw2] at C
  clear hb1 hb2 h
  go_enter Tryd.func22, Tryd.ntmps22
  go_wp2_with (go_at_call 19; refine C.mono ?_; rintro e w3 ⟨rfl, hb3⟩)
  go_ret
  exact ⟨rfl, hB2.trans ((hw2 ▸ hb3).mono (by omega))⟩

/-! ### glob_Fits: function 9 (its contract is typed by hand) -/
def glob_Fits.K (a : ByteArray) : Nat := a.size + 40
def glob_Fits.p (K : Nat) (l : List ByteArray) (i : Nat) : List S54 := ((glob_pieces.f K (l.getD i ByteArray.empty)).getD ([], false)).1
def glob_Fits.ok (K : Nat) (l q : List ByteArray) : Prop := l.length ≤ 1099511627776 ∧ q.length ≤ 1099511627776 ∧ (∀ i, i < l.length → (glob_pieces.f K (l.getD i ByteArray.empty)).isSome = true) ∧ ∀ i, i < l.length → ∀ k, k < q.length → (glob_fit.f (glob_Fits.p K l i) (q.getD k ByteArray.empty)).isSome = true
instance (K : Nat) (l q : List ByteArray) : Decidable (glob_Fits.ok K l q) := by unfold glob_Fits.ok; exact inferInstance
/-- Fits, plainly. -/
def glob_Fits.f (a0 : ByteArray) (a1 : ByteArray) : Option (Bool) :=
  (glob_Check.f (glob_Fits.K a0) a0).bind fun e => if e = 0 then (route_Parts.f a0).bind fun l => (route_Parts.f a1).bind fun q =>
    if glob_Fits.ok (glob_Fits.K a0) l q then glob_walk.g l.length q.length (fun i => (l.getD i ByteArray.empty).toList == [42, 42]) (fun i k => (glob_fit.f (glob_Fits.p (glob_Fits.K a0) l i) (q.getD k ByteArray.empty)).getD false) ((q.length + 2) * (l.length + q.length + 4)) 0 0 none else none
  else some false
/-- Block g is a row of []piece values. -/
structure VR (w : World) (g : Nat) (vs : List Value) : Prop where
  heap : w.heap[g]? = some (.cells vs.toArray 30 (0, 0))
theorem VR.lt {w : World} {g : Nat} {xs : List Value} (h : VR w g xs) : g < w.heap.size := by
  rcases Nat.lt_or_ge g w.heap.size with h' | h'
  · exact h'
  · have := h.heap; simp [Array.getElem?_eq_none h'] at this
theorem VR.cell {w : World} {g : Nat} {xs : List Value} (h : VR w g xs) (j : Nat) (hj : j < xs.length) : w.cell? ⟨g, j, none⟩ = some (xs.getD j (.slice none 0 0)) := by
  rw [Lib.cell_of_heap h.heap]
  simp [hj]
theorem VR.frozen {w : World} {g : Nat} {xs : List Value} (h : VR w g xs) (j : Nat) : w.frozen? ⟨g, j, none⟩ = false := Lib.frozen_of_heap h.heap j
theorem VR.set {w : World} {g : Nat} {xs : List Value} (h : VR w g xs) (j : Nat) (b : Value) : VR (w.setCell ⟨g, j, none⟩ b) g (xs.set j b) := by
  refine ⟨?_⟩
  simp [World.setCell, Array.getElem?_modify, h.heap]
theorem VR.below {w w1 : World} {g : Nat} {xs : List Value} (h : VR w g xs) (hb : Below w.heap.size w w1) : VR w1 g xs := ⟨(hb.block g h.lt).trans h.heap⟩
theorem VR.made {w : World} {base g N : Nat} (h : w.ownsRow base 30 1 (.slice (some ⟨g, 0, none⟩) N N) N (madeCells (Value.slice none 0 0).cells (N * 1)).toList) : VR w g (List.replicate N (.slice none 0 0)) := by
  refine ⟨?_⟩
  rcases h.2 with ⟨h1, _⟩ | ⟨g', cap, cur, h1, _, hh, _, _, hs, ht⟩
  · cases h1
  · injection h1 with h1 h2 h3
    injection h1 with h1
    injection h1 with h1
    subst h1 h3
    rw [hh]
    have hl : cur.toList.length = N := by simpa using hs
    have ht2 : cur.toList = (madeCells (Value.slice none 0 0).cells (N * 1)).toList := by rw [← ht]; exact (List.take_of_length_le (by rw [hl]; omega)).symm
    have hcur : cur = (List.replicate N (Value.slice none 0 0)).toArray := by
      apply Array.toList_inj.1
      rw [ht2]
      apply List.ext_getElem
      · simp [madeCells]
      · intro j h1 h2
        simp [madeCells, Value.cells, Nat.mod_one]
    rw [hcur]
/-- .. of which the first i hold the pieces of p. -/
structure VP (w : World) (g base N i : Nat) (p : Nat → List S54) (vs : List Value) : Prop where
  row : VR w g vs
  len : vs.length = N
  own : ∀ j, j < i → Kd.R k54 54 w base (fun k => k ≠ g) (vs.getD j (.slice none 0 0)) (p j)
theorem VP.below {w w1 : World} {g base N i : Nat} {p : Nat → List S54} {vs : List Value} (h : VP w g base N i p vs) (hb : Below w.heap.size w w1) : VP w1 g base N i p vs := ⟨h.row.below hb, h.len, fun j hj => Kd.R_below (h.own j hj) hb⟩
theorem VP.put {w : World} {g base N i : Nat} {p : Nat → List S54} {vs : List Value} (h : VP w g base N i p vs) (hi : i < N) (v : Value) (hv : Kd.R k54 54 w base (fun k => k ≠ g) v (p i)) : VP (w.setCell ⟨g, i, none⟩ v) g base N (i + 1) p (vs.set i v) := by
  refine ⟨h.row.set i v, by rw [List.length_set, h.len], fun j hj => ?_⟩
  by_cases e : j = i
  · subst e
    rw [List.getD_eq_getElem?_getD, List.getElem?_set_self (by rw [h.len]; exact hi)]
    exact Kd.R_far (p := ⟨g, j, none⟩) hv (fun k hk => hk) v
  · rw [List.getD_eq_getElem?_getD, List.getElem?_set_ne (fun h => e h.symm), ← List.getD_eq_getElem?_getD]
    exact Kd.R_far (p := ⟨g, i, none⟩) (h.own j (by omega)) (fun k hk => hk) v
theorem cell_kept2 {w wx : World} {a : Addr} {v : Value} (hb : Below w.heap.size w wx) (h : w.cell? a = some v) : wx.cell? a = some v := (hb.cell (World.block_lt_of_cell? _ _ h)).trans h
theorem rdOf_nat2 (l : List ByteArray) (i : Nat) : rdOf ByteArray.empty l (i : Int) = l.getD i ByteArray.empty := rfl
set_option maxHeartbeats 1000000 in
set_option maxRecDepth 100000 in
theorem glob_Fits_1.calls (l : List ByteArray) (A : Option Addr) (c b i : Nat) (w : World) (hb : w.cell? ⟨b, 0, none⟩ = some (.slice A l.length c)) (hl : Kd.C Kd.string w A l.length l) (hi : i < l.length) :
    Calls Tryd.prog 20 #[.int .i64 i, .pointer (some ⟨b, 0, none⟩)] w fun e w' => e = .returned (.bool ((l.getD i ByteArray.empty).toList == [42, 42])) ∧ Below w.heap.size w w' := by
  obtain ⟨ad, rfl, h1⟩ := Kd.at_string hl i (by omega) (by omega)
  rw [Int.toNat_natCast, rdOf_nat2] at h1
  obtain ⟨li, hli⟩ : ∃ li, li = l.getD i ByteArray.empty := ⟨_, rfl⟩
  rw [← hli] at h1
  rw [← hli]
  clear hli
  have hiI : (i : Int) < (l.length : Int) := by omega
  go_enter Tryd.func20, Tryd.ntmps20
  go_wp2
  go_ret
  exact ⟨rfl, Below.refl _ _⟩
set_option maxHeartbeats 1000000 in
set_option maxRecDepth 100000 in
theorem glob_Fits_2.calls (g N base : Nat) (p : Nat → List S54) (vs : List Value) (q : List ByteArray) (A : Option Addr) (c b7 b6 i k : Nat) (r : Bool) (w : World) (h7 : w.cell? ⟨b7, 0, none⟩ = some (.slice (some ⟨g, 0, none⟩) N N)) (h6 : w.cell? ⟨b6, 0, none⟩ = some (.slice A q.length c)) (hq : Kd.C Kd.string w A q.length q) (hv : VP w g base N N p vs) (hi : i < N) (hk : k < q.length) (hr : glob_fit.f (p i) (q.getD k ByteArray.empty) = some r) :
    Calls Tryd.prog 21 #[.int .i64 i, .int .i64 k, .pointer (some ⟨b7, 0, none⟩), .pointer (some ⟨b6, 0, none⟩)] w fun e w' => e = .returned (.bool r) ∧ Below w.heap.size w w' := by
  obtain ⟨ad, rfl, h1⟩ := Kd.at_string hq k (by omega) (by omega)
  rw [Int.toNat_natCast, rdOf_nat2] at h1
  obtain ⟨qk, hqk⟩ : ∃ qk, qk = q.getD k ByteArray.empty := ⟨_, rfl⟩
  rw [← hqk] at h1 hr
  have hvi := hv.row.cell i (by rw [hv.len]; exact hi)
  obtain ⟨A2, c2, hA2, hc2, hC2⟩ := Kd.R_reads (hv.own i hi)
  rw [hA2] at hvi
  have HR := Aside0.mk hr
  have HC2 := Aside0.mk hC2
  have hiI : (i : Int) < (N : Int) := by omega
  have hkI : (k : Int) < (q.length : Int) := by omega
  clear hqk hr hC2 hA2 hv hq
  go_enter Tryd.func21, Tryd.ntmps21
  go_wp2
  go_region_held3 (fun w' => w'.cell? ⟨b7, 0, none⟩ = some (.slice (some ⟨g, 0, none⟩) N N) ∧ w'.cell? ⟨b6, 0, none⟩ = some (.slice (some ad) q.length c) ∧ w'.cell? (ad.add k) = some (.string qk) ∧ w'.cell? ⟨g, i, none⟩ = some (.slice A2 (p i).length c2)) (first | exact ⟨h7, h6, h1, hvi⟩ | exact ⟨cell_kept2 HBP2.out h7, cell_kept2 HBP2.out h6, cell_kept2 HBP2.out h1, cell_kept2 HBP2.out hvi⟩)
    (first | (go_at_call 22; refine (glob_fit.calls A2 c2 (p i) qk r _ (Kd.C_below HC2.out ((Below.refl _ _).drew)) hc2 HR.out).mono ?_; rintro e w2 ⟨rfl, hb2⟩; have HBP2 := Aside0.mk hb2; clear hb2))
  go_wp2
  go_ret
  exact ⟨rfl, ⟨HBP2.out.os, HBP2.out.tape, HBP2.out.output, HBP2.out.size, HBP2.out.block⟩⟩
theorem grown_cell {w w1 : World} (hg : w.grownBy w1 none) {a : Addr} {v : Value} (h : w.cell? a = some v) : w1.cell? a = some v := by
  have hb : Below w.heap.size w w1 := (Below.refl _ w).grown hg (Nat.le_refl _) (fun k hk => by cases hk)
  exact cell_kept2 hb h
theorem alloc_cell {w : World} {a : Addr} {v : Value} (h : w.cell? a = some v) (o : Obj) : (w.alloc o).cell? a = some v := cell_kept2 ((Below.refl _ w).alloc (Nat.le_refl _) o) h
theorem cell_far2 {w : World} {a p : Addr} {v u : Value} (h : w.cell? a = some v) (hne : a.block ≠ p.block) : (w.setCell p u).cell? a = some v := by
  unfold World.cell? at h ⊢
  rw [Below.heap_setCell _ _ _ _ hne]
  exact h
theorem cell_b5 (w : World) (u v : Value) : ((w.alloc (.cells #[u] 28)).alloc (.cells #[v] 28)).cell? ⟨w.heap.size, 0, none⟩ = some u := by simp
theorem cell_b6 (w : World) (u v : Value) : ((w.alloc (.cells #[u] 28)).alloc (.cells #[v] 28)).cell? ⟨w.heap.size + 1, 0, none⟩ = some v := by simp
set_option maxHeartbeats 4000000 in
set_option maxRecDepth 100000 in
theorem glob_Fits.calls (a0 : ByteArray) (a1 : ByteArray) (r : Bool) (w : World) (h : glob_Fits.f a0 a1 = some r) :
    Calls Tryd.prog 9 #[.string a0, .string a1] w fun e w' => e = .returned (.bool r) ∧ Below w.heap.size w w' := by
  unfold glob_Fits.f at h
  obtain ⟨e, he, h1⟩ := Option.bind_eq_some_iff.mp h
  clear h
  have hE := Aside0.mk he
  by_cases he0 : e = 0
  · rw [if_pos he0] at h1
    obtain ⟨l, hl, h2⟩ := Option.bind_eq_some_iff.mp h1
    clear h1
    obtain ⟨q, hq, h⟩ := Option.bind_eq_some_iff.mp h2
    clear h2
    split at h
    case isFalse => cases h
    case isTrue hok =>
    obtain ⟨hll, hql, hpc, hft⟩ := hok
    subst he0
    have HL := Aside0.mk hl
    have HQ := Aside0.mk hq
    have HPC := Aside0.mk hpc
    have HFT := Aside0.mk hft
    obtain ⟨K, hK⟩ : ∃ K, K = glob_Fits.K a0 := ⟨_, rfl⟩
    rw [← hK] at HPC HFT h
    have HW := Aside0.mk h
    clear hl hq hpc hft h he hK
    obtain ⟨i0, hi, hz0, hz1, hz2⟩ := info_parts info30
    go_enter Tryd.func9, Tryd.ntmps9
    go_wp2_with (go_at_call 7; refine (glob_Check.calls _ a0 0 _ hE.out).mono ?_; rintro e w1 ⟨rfl, hb1⟩; have HB1 := Aside0.mk hb1; clear hb1)
    go_wp2_with fail
    refine (route_Parts.calls a0 l w1 HL.out).mono ?_
    rintro e wb ⟨vl, rfl, hvl, hbb⟩
    have HBb := Aside0.mk (HB1.out.trans (hbb.mono HB1.out.size))
    obtain ⟨Al, cl, rfl, hcl, hrl⟩ := Kd.R_reads hvl
    have HLC := Aside0.mk hrl
    clear hvl hbb hrl
    go_wp2_with fail
    refine (route_Parts.calls a1 q wb HQ.out).mono ?_
    rintro e wc ⟨vq, rfl, hvq, hbc⟩
    have HLC := Aside0.mk (Kd.C_below HLC.out hbc)
    have HBc := Aside0.mk (HBb.out.trans (hbc.mono HBb.out.size))
    obtain ⟨Aq, cq, rfl, hcq, hrq⟩ := Kd.R_reads hvq
    have HQC := Aside0.mk hrq
    clear hvq hbc hrq
    go_wp2_with (refine wpList_make_full _ rfl _ _ 36 rfl wc.heap.size 30 i0 (.slice none 0 0) 1 Tryd.underlying36 hi hz0 hz1 .i64 .i64 _ _ l.length rfl rfl rfl rfl (by rw [hz2]; omega) (by unfold maxLen; omega) (by simp; omega) ?_; intro w2 ho2 hg2; have HO2 := Aside0.mk ho2; have HG2 := Aside0.mk hg2; have k5 := grown_cell hg2 (show _ = some (Value.slice Al l.length cl) from cell_b5 wc _ _); have k6 := grown_cell hg2 (show _ = some (Value.slice Aq q.length cq) from cell_b6 wc _ _); have k5a := alloc_cell k5; have k6a := alloc_cell k6; clear ho2 hg2)
    have hV0 : VP (w2.alloc (.cells #[.slice (some ⟨wc.heap.size + 1 + 1, 0, none⟩) l.length l.length] 36)) (wc.heap.size + 1 + 1) wc.heap.size l.length 0 (glob_Fits.p K l) (List.replicate l.length (.slice none 0 0)) := by
      have h3 := VR.made (by simpa using HO2.out)
      exact ⟨h3.below ((Below.refl _ w2).alloc (Nat.le_refl _) _), by simp, fun j hj => absurd hj (Nat.not_lt_zero _)⟩
    have hsz2 : wc.heap.size + 2 ≤ w2.heap.size := by have := HG2.out.size; simpa using this
    have HB4 : Below wc.heap.size wc (w2.alloc (.cells #[.slice (some ⟨wc.heap.size + 1 + 1, 0, none⟩) l.length l.length] 36)) :=
      ((((Below.refl _ wc).alloc (Nat.le_refl _) _).alloc (by simp) _).grown HG2.out (by simp; omega) (fun k hk => by cases hk)).alloc (by omega) _
    have k7 : (w2.alloc (.cells #[.slice (some ⟨wc.heap.size + 1 + 1, 0, none⟩) l.length l.length] 36)).cell? ⟨w2.heap.size, 0, none⟩ = some (.slice (some ⟨wc.heap.size + 1 + 1, 0, none⟩) l.length l.length) := by simp
    have k5b := k5a (.cells #[.slice (some ⟨wc.heap.size + 1 + 1, 0, none⟩) l.length l.length] 36)
    have k6b := k6a (.cells #[.slice (some ⟨wc.heap.size + 1 + 1, 0, none⟩) l.length l.length] 36)
    have hg7 : wc.heap.size + 1 + 1 ≠ w2.heap.size := by
      have h3 := (VR.made (by simpa using HO2.out)).lt
      omega
    clear k5a k6a k5 k6
    generalize hw4 : w2.alloc (.cells #[.slice (some ⟨wc.heap.size + 1 + 1, 0, none⟩) l.length l.length] 36) = w4 at *
    generalize hb7 : w2.heap.size = b7 at *
    generalize hgg : wc.heap.size + 1 + 1 = g at *
    have HV0 := Aside0.mk hV0
    have HB4' := Aside0.mk HB4
    have K5 := Aside0.mk k5b
    have K6 := Aside0.mk k6b
    have K7 := Aside0.mk k7
    have HGE : wc.heap.size ≤ g := by omega
    have HG5 : g ≠ wc.heap.size := by omega
    have HG6 : g ≠ wc.heap.size + 1 := by omega
    clear hV0 HB4 k5b k6b k7 hw4 hb7 hgg HO2 HG2 hsz2
    go_loopg [22] l.length (fun gg s22 wr => ∃ (i : Nat) (vs : List Value), s22 = .int .i64 i ∧ i ≤ l.length ∧ l.length - i ≤ gg ∧ Aside0 (VP wr g wc.heap.size l.length i (glob_Fits.p K l) vs) ∧ Aside0 (wr.cell? ⟨wc.heap.size, 0, none⟩ = some (.slice Al l.length cl)) ∧ Aside0 (wr.cell? ⟨wc.heap.size + 1, 0, none⟩ = some (.slice Aq q.length cq)) ∧ Aside0 (wr.cell? ⟨b7, 0, none⟩ = some (.slice (some ⟨g, 0, none⟩) l.length l.length)) ∧ Aside0 (Below wc.heap.size wc wr))
    case atStart => exact ⟨0, _, rfl, Nat.zero_le _, Nat.le_refl _, HV0, K5, K6, K7, HB4'⟩
    case round =>
      clear HV0 HB4' K5 K6 K7
      obtain ⟨i, vs, rfl, hil, hgk, HV, K5, K6, K7, HB⟩ := hrel
      by_cases hlt : i < l.length
      · have hltI : (i : Int) < (l.length : Int) := by omega
        obtain ⟨ad, rfl, hcell⟩ := Kd.at_string (Kd.C_below HLC.out HB.out) i (by omega) (by omega)
        rw [Int.toNat_natCast, rdOf_nat2] at hcell
        obtain ⟨⟨ps, b⟩, hps⟩ := Option.isSome_iff_exists.1 (HPC.out i hlt)
        have hpi : glob_Fits.p K l i = ps := by unfold glob_Fits.p; rw [hps]; rfl
        have HPI := Aside0.mk hpi
        obtain ⟨li, hli⟩ : ∃ li, li = l.getD i ByteArray.empty := ⟨_, rfl⟩
        rw [← hli] at hcell hps
        have HPS := Aside0.mk hps
        clear hli hps hpi
        have h7 := K7.out
        have hgi := HV.out.row.cell i (by rw [HV.out.len]; exact hlt)
        have hgf := HV.out.row.frozen i
        generalize vs.getD i (.slice none 0 0) = ov at hgi
        go_wp2
        go_region_held3 (fun w' => w'.cell? ⟨b7, 0, none⟩ = some (.slice (some ⟨g, 0, none⟩) l.length l.length)) (first | exact h7 | exact cell_kept2 HBP2.out h7 | exact cell_far2 (cell_kept2 HBP2.out h7) (fun e => hg7 e.symm))
          (first | (go_at_call 16; refine (glob_pieces.calls _ li ps b _ HPS.out).mono ?_; rintro e w5 ⟨v5, rfl, hv5, hb5⟩; obtain ⟨A5, c5, rfl⟩ := Kd.R_slice hv5; have HBP2 := Aside0.mk hb5; have HV5 := Aside0.mk hv5; have hgi5 := cell_kept2 hb5 hgi; have hgf5 := (HV.out.below (w1 := w5) ⟨hb5.os, hb5.tape, hb5.output, hb5.size, hb5.block⟩).row.frozen i; clear hb5 hv5))
        have HBw : Aside0 (Below wr.heap.size wr w5) := ⟨⟨HBP2.out.os, HBP2.out.tape, HBP2.out.output, HBP2.out.size, HBP2.out.block⟩⟩
        have HVn := Aside0.mk ((HV.out.below HBw.out).put hlt (.slice A5 ps.length c5) (by
          rw [HPI.out]
          refine Kd.R_lower (Kd.R_mono (Kd.R_bound HV5.out) (fun k hk => ?_)) HB.out.size
          have h3 : wr.heap.size ≤ k := hk.2.1
          have h4 := HV.out.row.lt
          omega))
        have K5n := Aside0.mk (cell_far2 (u := .slice A5 ps.length c5) (p := ⟨g, i, none⟩) (cell_kept2 HBw.out K5.out) (fun e => HG5 e.symm))
        have K6n := Aside0.mk (cell_far2 (u := .slice A5 ps.length c5) (p := ⟨g, i, none⟩) (cell_kept2 HBw.out K6.out) (fun e => HG6 e.symm))
        have K7n := Aside0.mk (cell_far2 (u := .slice A5 ps.length c5) (p := ⟨g, i, none⟩) (cell_kept2 HBw.out K7.out) (fun e => hg7 e.symm))
        have HBn := Aside0.mk ((HB.out.trans (HBw.out.mono HB.out.size)).setCell (p := ⟨g, i, none⟩) HGE (.slice A5 ps.length c5))
        clear hgi5 hgf5 hcell h7
        go_wp2
        go_roundg (l.length - (i + 1))
        case measure => omega
        case rel => exact ⟨i + 1, _, by go_num, by omega, by omega, HVn, K5n, K6n, K7n, HBn⟩
      · have hltI : ¬ (i : Int) < (l.length : Int) := by omega
        obtain rfl : i = l.length := by omega
        have h5 := K5.out
        have h6 := K6.out
        have C := glob_walk.calls l.length q.length (fun i => (l.getD i ByteArray.empty).toList == [42, 42]) (fun i k => (glob_fit.f (glob_Fits.p K l i) (q.getD k ByteArray.empty)).getD false) 20 21 #[.pointer (some ⟨wc.heap.size, 0, none⟩)] #[.pointer (some ⟨b7, 0, none⟩), .pointer (some ⟨wc.heap.size + 1, 0, none⟩)]
          (enters_of Tryd.func20 (by kernel_rfl) rfl) (enters_of Tryd.func21 (by kernel_rfl) rfl) (by omega) (by omega) _ r wr
          (fun i W hi hB => glob_Fits_1.calls l Al cl wc.heap.size i W (cell_kept2 hB h5) (Kd.C_below HLC.out (HB.out.trans (hB.mono HB.out.size))) hi)
          (fun i k W hi hk _ hB => by
            obtain ⟨r2, hr2⟩ := Option.isSome_iff_exists.1 (HFT.out i hi k hk)
            have h8 := glob_Fits_2.calls g l.length wc.heap.size (glob_Fits.p K l) vs q Aq cq b7 (wc.heap.size + 1) i k r2 W (cell_kept2 hB K7.out) (cell_kept2 hB h6) (Kd.C_below HQC.out (HB.out.trans (hB.mono HB.out.size))) (HV.out.below hB) hi hk hr2
            rw [hr2]
            exact h8) HW.out
        go_wp2_with (go_at_call 19; refine C.mono ?_; rintro e w6 ⟨rfl, hb6⟩; have HB6 := Aside0.mk hb6; clear hb6)
        go_ret
        exact ⟨rfl, HBc.out.trans ((HB.out.trans (HB6.out.mono HB.out.size)).mono HBc.out.size)⟩
  · rw [if_neg he0] at h1
    obtain rfl := Option.some.inj h1
    have hne : (e != 0) = true := bne_iff_ne.mpr he0
    clear h1 he
    go_enter Tryd.func9, Tryd.ntmps9
    go_wp2_with (go_at_call 7; refine (glob_Check.calls _ a0 e _ hE.out).mono ?_; rintro e w1 ⟨rfl, hb1⟩; have HB1 := Aside0.mk hb1; clear hb1)
    go_ret
    exact ⟨rfl, HB1.out⟩

/-! ### glob_Part: function 11 -/
def glob_Part.f (k : Nat) (a0 : ByteArray) (a1 : ByteArray) : Option (Bool) := (glob_pieces.f k a0).bind fun bt128 => (if bt128.2 = true then ((glob_fit.f bt128.1 a1).bind fun t132 => (some t132)) else (some false))
theorem glob_Part.mono : ∀ a0 a1 k, LeO (glob_Part.f k a0 a1) (glob_Part.f (k + 1) a0 a1) := by
  intro a0 a1 k
  unfold glob_Part.f
  repeat' first
      | (with_reducible exact glob_pieces.mono _ _)
      | (with_reducible exact LeO.refl _)
      | (with_reducible exact LeO.none _)
      | (with_reducible refine LeO.ite ?_ ?_)
      | (with_reducible refine LeO.bind ?_ (fun _ => ?_))
      | exact glob_pieces.mono _ _
      | exact LeO.none _
      | refine LeO.ite ?_ ?_
      | refine LeO.bind ?_ (fun _ => ?_)
set_option maxHeartbeats 8000000 in
set_option maxRecDepth 100000 in
theorem glob_Part.calls (k : Nat) (a0 : ByteArray) (a1 : ByteArray) (r : Bool) (w : World) (h : glob_Part.f k a0 a1 = some r) :
    Calls Tryd.prog 11 #[.string a0, .string a1] w fun e w' => e = .returned (.bool r) ∧ Below w.heap.size w w' := by
  have HB := Aside0.mk (Below.refl w.heap.size w)
  have H : ((glob_pieces.f k a0).bind fun bt128 => (if bt128.2 = true then ((glob_fit.f bt128.1 a1).bind fun t132 => (some t132)) else (some false))) = some r := h
  clear h
  replace H := Option.bind_eq_some_iff.mp H
  obtain ⟨⟨t128, t129⟩, A30, H⟩ := H
  replace H : (if t129 = true then ((glob_fit.f t128 a1).bind fun t132 => (some t132)) else (some false)) = some r := H
  have A3 := Aside0.mk A30
  clear A30
  by_cases c4 : t129 = true
  · subst c4
    have H1 : ((glob_fit.f t128 a1).bind fun t132 => (some t132)) = some r := by rw [if_pos rfl] at H; exact H
    clear H
    have H := H1
    clear H1
    replace H := Option.bind_eq_some_iff.mp H
    obtain ⟨t132, A50, H⟩ := H
    replace H : (some t132) = some r := H
    have A5 := Aside0.mk A50
    clear A50
    obtain rfl := Option.some.inj H
    go_enter Tryd.func11, Tryd.ntmps11
    go_wp2_with (first | ((with_reducible refine gate_callee (f := 16) rfl ?_); refine goesL_ (some 9) rfl rfl Tryd.func16 (by kernel_rfl) rfl #[.string a0] rfl (by (try simp only [List.map_toArray, List.map_cons, List.map_nil]); first | done | rfl | (simp only [List.length_drop, List.length_take]; rfl)) ?_; (with_reducible refine (glob_pieces.calls k a0 t128 true _ A3.out).mono ?_); rintro e w6 ⟨v130, rfl, ho0, hb⟩; refine ⟨_, rfl, ?_⟩; have n0_ := Aside0.mk (Kd.R_lower ho0 (below_size (by repeat (first | (with_reducible first | exact HB.out | apply below_alloc | apply pw_below_drewN | apply below_drew1) | exact HB.out)))); have n1_ := Aside0.mk (below_step (by repeat (first | (with_reducible first | exact HB.out | apply below_alloc | apply pw_below_drewN | apply below_drew1) | exact HB.out)) hb); clear HB; have HO131 := n0_; have HB := n1_; clear n0_ n1_; (try clear hb); (try clear hb2); (try clear hk); (try clear hi); (try clear ho0); obtain ⟨Ao7, co7, eo7⟩ := Kd.R_slice HO131.out; subst eo7) | (go_at_call 22; (with_reducible refine (glob_fit.calls _ _ t128 a1 t132 _ ?side1 ?side2 A5.out).mono ?_); (case side1 => repeat (first | exact (Kd.R_reads' HO131.out).2.2 | (with_reducible refine Kd.C_alloc ?_ _) | (with_reducible refine Kd.C_drewN ?_ _) | (with_reducible refine Kd.C_drew ?_))); (case side2 => exact (Kd.R_reads' HO131.out).2.1); rintro e w8 ⟨rfl, hb⟩; have n0_ := Aside0.mk (Kd.R_below (by (with_reducible repeat (first | apply Kd.R_alloc | apply Kd.R_drewN | apply Kd.R_drew)); exact HO131.out) hb); have n1_ := Aside0.mk (below_step (by repeat (first | (with_reducible first | exact HB.out | apply below_alloc | apply pw_below_drewN | apply below_drew1) | exact HB.out)) hb); clear HO131; clear HB; have HO131 := n0_; have HB := n1_; clear n0_ n1_; (try clear hb); (try clear hb2); (try clear hk); (try clear hi)))
    go_ret
    exact ⟨by first | rfl | (simp [errW_none, errW_some] <;> rfl) | (simp [*, errW_none, errW_some] <;> rfl), by repeat (first | (with_reducible first | exact HB.out | apply below_alloc | apply pw_below_drewN | apply below_drew1) | exact HB.out)⟩
  · replace c4 := Bool.eq_false_iff.mpr c4
    subst c4
    have H1 : (some false) = some r := by rw [if_neg (show ¬ (false = true) by decide)] at H; exact H
    clear H
    have H := H1
    clear H1
    obtain rfl := Option.some.inj H
    go_enter Tryd.func11, Tryd.ntmps11
    go_wp2_with (first | ((with_reducible refine gate_callee (f := 16) rfl ?_); refine goesL_ (some 9) rfl rfl Tryd.func16 (by kernel_rfl) rfl #[.string a0] rfl (by (try simp only [List.map_toArray, List.map_cons, List.map_nil]); first | done | rfl | (simp only [List.length_drop, List.length_take]; rfl)) ?_; (with_reducible refine (glob_pieces.calls k a0 t128 false _ A3.out).mono ?_); rintro e w9 ⟨v130, rfl, ho0, hb⟩; refine ⟨_, rfl, ?_⟩; have n0_ := Aside0.mk (Kd.R_lower ho0 (below_size (by repeat (first | (with_reducible first | exact HB.out | apply below_alloc | apply pw_below_drewN | apply below_drew1) | exact HB.out)))); have n1_ := Aside0.mk (below_step (by repeat (first | (with_reducible first | exact HB.out | apply below_alloc | apply pw_below_drewN | apply below_drew1) | exact HB.out)) hb); clear HB; have HO131 := n0_; have HB := n1_; clear n0_ n1_; (try clear hb); (try clear hb2); (try clear hk); (try clear hi); (try clear ho0)))
    go_ret
    exact ⟨by first | rfl | (simp [errW_none, errW_some] <;> rfl) | (simp [*, errW_none, errW_some] <;> rfl), by repeat (first | (with_reducible first | exact HB.out | apply below_alloc | apply pw_below_drewN | apply below_drew1) | exact HB.out)⟩

/-! ### slices_Index_byte_byte: function 30 -/
def slices_Index_byte_byte.l0 : Nat → List Int → Int → Int → Int → Option (Int)
  | 0, _, _, _, _ => none
  | k + 1, x0, x1, x7, x8 => if x8 < x7 then (if 0 ≤ x8 then (if x8 < (x0.length : Int) then (if x1 = (rd x0 x8) then (some x8) else (slices_Index_byte_byte.l0 k x0 x1 x7 (wrap64 (x8 + 1)))) else (none)) else (none)) else (some (-1))
def slices_Index_byte_byte.f (k : Nat) (l0 : List Int) (a1 : Int) : Option (Int) := slices_Index_byte_byte.l0 k l0 a1 (l0.length : Int) 0
theorem slices_Index_byte_byte.mono_l : ∀ k, (∀ y0 y1 y2 y3, LeO (slices_Index_byte_byte.l0 k y0 y1 y2 y3) (slices_Index_byte_byte.l0 (k + 1) y0 y1 y2 y3))
  | 0 => fun _ _ _ _ r h => by simp [slices_Index_byte_byte.l0] at h
  | k + 1 => by
    have ih0 := slices_Index_byte_byte.mono_l k
    · intro y0 y1 y2 y3
      unfold slices_Index_byte_byte.l0
      repeat' first
      | (with_reducible exact ih0 _ _ _ _)
      | (with_reducible exact LeO.refl _)
      | (with_reducible exact LeO.none _)
      | (with_reducible refine LeO.ite ?_ ?_)
      | (with_reducible refine LeO.bind ?_ (fun _ => ?_))
      | exact ih0 _ _ _ _
      | exact LeO.none _
      | refine LeO.ite ?_ ?_
      | refine LeO.bind ?_ (fun _ => ?_)
theorem slices_Index_byte_byte.mono : ∀ a0 a1 k, LeO (slices_Index_byte_byte.f k a0 a1) (slices_Index_byte_byte.f (k + 1) a0 a1) := by
  intro a0 a1 k
  have ih0 := slices_Index_byte_byte.mono_l k
  unfold slices_Index_byte_byte.f
  repeat' first
      | (with_reducible exact ih0 _ _ _ _)
      | (with_reducible exact LeO.refl _)
      | (with_reducible exact LeO.none _)
      | (with_reducible refine LeO.ite ?_ ?_)
      | (with_reducible refine LeO.bind ?_ (fun _ => ?_))
      | exact ih0 _ _ _ _
      | exact LeO.none _
      | refine LeO.ite ?_ ?_
      | refine LeO.bind ?_ (fun _ => ?_)
set_option maxHeartbeats 8000000 in
set_option maxRecDepth 100000 in
theorem slices_Index_byte_byte.calls (k : Nat) (A0 : Option Addr) (c0 : Nat) (l0 : List Int) (a1 : Int) (r : Int) (w : World) (hr0 : Kd.C (Kd.int .u8) w A0 l0.length l0) (hc0 : l0.length ≤ c0) (h : slices_Index_byte_byte.f k l0 a1 = some r) :
    Calls Tryd.prog 30 #[.slice A0 l0.length c0, .int .u8 a1] w fun e w' => e = .returned (.int .i64 r) ∧ Drawn0 w w' := by
  have HR0 := Aside0.mk hr0
  have HC0 := Aside0.mk hc0
  clear hr0 hc0
  have H : (slices_Index_byte_byte.l0 k l0 a1 (l0.length : Int) 0) = some r := h
  clear h
  have H' := Aside0.mk H
  clear H
  go_enter Tryd.func30, Tryd.ntmps30
  go_wp2
  go_loopg [8] k (fun kq v8 w' => ∃ (x8_1 : Int), v8 = .int .i64 x8_1 ∧ Aside0 (slices_Index_byte_byte.l0 kq l0 a1 (l0.length : Int) x8_1 = some r) ∧ Aside0 (kq ≤ k) ∧ Drawn0 w w')
  case atStart => exact ⟨(0), (by first | rfl | (simp; done) | (simp [*]; done)), H', ⟨Nat.le_refl _⟩, by repeat (first | exact Drawn0.refl _ | apply Drawn0.step)⟩
  case round =>
    clear H'
    try clear p2
    obtain ⟨x8_1, rfl, HA, HK1, ⟨m1, rfl⟩⟩ := hrel
    cases gk with
    | zero => exact absurd HA.out (by simp [slices_Index_byte_byte.l0])
    | succ k1 =>
      have H := HA.out
      clear HA
      simp only [slices_Index_byte_byte.l0] at H
      by_cases c3 : x8_1 < (l0.length : Int)
      · rw [if_pos c3] at H
        have c3b0 : decide (x8_1 < (l0.length : Int)) = true := decide_eq_true c3
        clear c3
        by_cases c4 : 0 ≤ x8_1
        · rw [if_pos c4] at H
          have c4b0 : decide (0 ≤ x8_1) = true := decide_eq_true c4
          clear c4
          by_cases c5 : x8_1 < (l0.length : Int)
          · rw [if_pos c5] at H
            have c5b0 : decide (x8_1 < (l0.length : Int)) = true := decide_eq_true c5
            clear c5
            by_cases c6 : a1 = (rd l0 x8_1)
            · rw [if_pos c6] at H
              have c6b0 : (a1 == (rd l0 x8_1)) = true := beq_iff_eq.mpr c6
              have c6b1 : (a1 != (rd l0 x8_1)) = false := bne_eq_false_iff_eq.mpr c6
              clear c6
              obtain rfl := Option.some.inj H
              have p133 : 0 ≤ (x8_1 : Int) := of_decide_eq_true (by first | (with_reducible assumption) | assumption)
              have q133 : x8_1 < (l0.length : Int) := of_decide_eq_true (by first | (with_reducible assumption) | assumption)
              obtain ⟨ad133, e133, hx133_0⟩ := Kd.at_int HR0.out x8_1 p133 q133
              cases e133
              replace p133 := eq_true p133
              replace q133 := eq_true q133
              go_wp2
              go_ret
              exact ⟨by first | rfl | (simp; done) | (simp [*]; done), by repeat (first | exact Drawn0.refl _ | apply Drawn0.step)⟩
            · rw [if_neg c6] at H
              have c6b0 : (a1 == (rd l0 x8_1)) = false := beq_eq_false_iff_ne.mpr c6
              have c6b1 : (a1 != (rd l0 x8_1)) = true := bne_iff_ne.mpr c6
              have H' := Aside0.mk H
              clear H
              have p133 : 0 ≤ (x8_1 : Int) := of_decide_eq_true (by first | (with_reducible assumption) | assumption)
              have q133 : x8_1 < (l0.length : Int) := of_decide_eq_true (by first | (with_reducible assumption) | assumption)
              obtain ⟨ad133, e133, hx133_0⟩ := Kd.at_int HR0.out x8_1 p133 q133
              cases e133
              replace p133 := eq_true p133
              replace q133 := eq_true q133
              go_wp2
              go_roundg k1
              case measure => have := HK1.out; omega
              case rel => exact ⟨(wrap64 (x8_1 + 1)), (by first | rfl | (simp; done) | (simp [*]; done)), H', ⟨by have := HK1.out; omega⟩, by repeat (first | exact Drawn0.refl _ | apply Drawn0.step)⟩
          · rw [if_neg c5] at H
            exact absurd H (by simp)
        · rw [if_neg c4] at H
          exact absurd H (by simp)
      · rw [if_neg c3] at H
        have c3b0 : decide (x8_1 < (l0.length : Int)) = false := decide_eq_false c3
        clear c3
        obtain rfl := Option.some.inj H
        go_wp2
        go_ret
        exact ⟨by first | rfl | (simp; done) | (simp [*]; done), by repeat (first | exact Drawn0.refl _ | apply Drawn0.step)⟩

/-! ### slices_Contains_byte_byte: function 24 -/
def slices_Contains_byte_byte.f (k : Nat) (l0 : List Int) (a1 : Int) : Option (Bool) := (slices_Index_byte_byte.f k l0 a1).bind fun t134 => (some (decide (t134 ≥ 0)))
theorem slices_Contains_byte_byte.mono : ∀ a0 a1 k, LeO (slices_Contains_byte_byte.f k a0 a1) (slices_Contains_byte_byte.f (k + 1) a0 a1) := by
  intro a0 a1 k
  unfold slices_Contains_byte_byte.f
  repeat' first
      | (with_reducible exact slices_Index_byte_byte.mono _ _ _)
      | (with_reducible exact LeO.refl _)
      | (with_reducible exact LeO.none _)
      | (with_reducible refine LeO.ite ?_ ?_)
      | (with_reducible refine LeO.bind ?_ (fun _ => ?_))
      | exact slices_Index_byte_byte.mono _ _ _
      | exact LeO.none _
      | refine LeO.ite ?_ ?_
      | refine LeO.bind ?_ (fun _ => ?_)
set_option maxHeartbeats 8000000 in
set_option maxRecDepth 100000 in
theorem slices_Contains_byte_byte.calls (k : Nat) (A0 : Option Addr) (c0 : Nat) (l0 : List Int) (a1 : Int) (r : Bool) (w : World) (hr0 : Kd.C (Kd.int .u8) w A0 l0.length l0) (hc0 : l0.length ≤ c0) (h : slices_Contains_byte_byte.f k l0 a1 = some r) :
    Calls Tryd.prog 24 #[.slice A0 l0.length c0, .int .u8 a1] w fun e w' => e = .returned (.bool r) ∧ Drawn0 w w' := by
  have HR0 := Aside0.mk hr0
  have HC0 := Aside0.mk hc0
  clear hr0 hc0
  have H : ((slices_Index_byte_byte.f k l0 a1).bind fun t134 => (some (decide (t134 ≥ 0)))) = some r := h
  clear h
  replace H := Option.bind_eq_some_iff.mp H
  obtain ⟨t134, A30, H⟩ := H
  replace H : (some (decide (t134 ≥ 0))) = some r := H
  have A3 := Aside0.mk A30
  clear A30
  obtain rfl := Option.some.inj H
  go_enter Tryd.func24, Tryd.ntmps24
  go_wp2_with (first | ((with_reducible refine gate_callee (f := 30) rfl ?_); refine goesL_ (some 7) rfl rfl Tryd.func30 (by kernel_rfl) rfl #[.slice A0 l0.length c0, .int .u8 a1] rfl (by (try simp only [List.map_toArray, List.map_cons, List.map_nil]); first | done | rfl | (simp only [List.length_drop, List.length_take]; rfl)) ?_; (with_reducible refine (slices_Index_byte_byte.calls k _ _ l0 a1 t134 _ ?side1 ?side2 A3.out).mono ?_); (case side1 => repeat (first | exact HR0.out | (with_reducible refine Kd.C_alloc ?_ _) | (with_reducible refine Kd.C_drewN ?_ _) | (with_reducible refine Kd.C_drew ?_))); (case side2 => exact HC0.out); rintro e w' ⟨rfl, ⟨nd, rfl⟩⟩; refine ⟨_, rfl, ?_⟩))
  go_ret
  exact ⟨by first | rfl | (simp; done) | (simp [*]; done), by repeat (first | exact Drawn0.refl _ | apply Drawn0.step)⟩

/-! ### strings_Builder_copyCheck: function 31 (its contract is typed by hand) -/

section
set_option maxHeartbeats 1000000
set_option maxRecDepth 100000
theorem bld_sizeB : (Tryd.prog.info? 46).map (fun i => i.size) = some 2 := by kernel_rfl
theorem bld_infoByte : (Tryd.prog.info? 5).map (fun i => (i.zero, i.size, i.bytes)) = some (some (.int .u8 0), 1, 1) := by kernel_rfl
theorem strings_Builder_copyCheck.used (b : Nat) (w : World) (h0 : w.cell? ⟨b, 0, none⟩ = some (.pointer (some ⟨b, 0, none⟩))) :
    Calls Tryd.prog 31 #[.pointer (some ⟨b, 0, none⟩)] w fun e w' => e = .returned (.tuple #[]) ∧ w' = w := by
  obtain ⟨j, hj, _⟩ := Option.map_eq_some_iff.1 bld_sizeB
  go_enter Tryd.func31, Tryd.ntmps31
  go_wp2
  rw [Lib.run_neq_ptr_same w _ Tryd.underlying43 hj]
  go_wp2
  go_end0
  exact ⟨rfl, rfl⟩
theorem bld_liesB : ∀ (P : Program), P = Tryd.prog → liesAt P P.depth 46 (2 / P.cellsOf 46) 0 46 1 = true := fun _ h => h ▸ by kernel_rfl
theorem strings_Builder_copyCheck.fresh (b : Nat) (w : World) (h0 : w.cell? ⟨b, 0, none⟩ = some (.pointer none)) (hsh : w.shape? b = some (46, 2)) (hfz : w.frozen? ⟨b, 0, none⟩ = false) :
    Calls Tryd.prog 31 #[.pointer (some ⟨b, 0, none⟩)] w fun e w' => e = .returned (.tuple #[]) ∧ w' = w.setCell ⟨b, 0, none⟩ (.pointer (some ⟨b, 0, none⟩)) := by
  obtain ⟨j, hj, hjs⟩ := Option.map_eq_some_iff.1 bld_sizeB
  go_enter Tryd.func31, Tryd.ntmps31
  go_wp2
  rw [Lib.run_to_unsafe w ⟨b, 0, none⟩ Tryd.underlying43 Tryd.underlying58 hj (by rw [hjs]; decide) hsh (Nat.zero_lt_succ 1)]
  simp only [Result.andThen]
  rw [Oper.upon_value]
  go_wp2
  rw [run_callFunc_extern Tryd.func33 (by kernel_rfl) (by kernel_rfl) (by kernel_rfl) (e := Extern.AbiNoEscape.same) (by kernel_rfl)]
  rw [Lib.run_noEscape]
  simp only [Result.andThen]
  rw [Oper.upon_value]
  go_wp2
  rw [Lib.run_from_unsafe w ⟨b, 0, none⟩ Tryd.underlying58 Tryd.underlying43 hj hsh (bld_liesB _ rfl)]
  simp only [Result.andThen]
  rw [Oper.upon_value]
  go_wp2
  go_end0
  exact ⟨rfl, rfl⟩
theorem strings_Builder_copyCheck.calls (B b : Nat) (bs : List Value) (w : World) (h : Lib.IsBuilder 46 5 B b bs w) :
    Calls Tryd.prog 31 #[.pointer (some ⟨b, 0, none⟩)] w fun e w' => e = .returned (.tuple #[]) ∧ (Lib.BuilderAt 46 5 B b (.pointer (some ⟨b, 0, none⟩)) bs w' ∧ Below B w w') := by
  rcases h with h | h
  · refine (strings_Builder_copyCheck.fresh b w h.cell0 h.shape h.frozen0).mono ?_
    rintro e w' ⟨rfl, rfl⟩
    exact ⟨rfl, h.used _, (Below.refl B w).setCell (p := ⟨b, 0, none⟩) h.1 _⟩
  · refine (strings_Builder_copyCheck.used b w h.cell0).mono ?_
    rintro e w' ⟨rfl, rfl⟩
    exact ⟨rfl, h, Below.refl B _⟩
end

/-! ### strings_Builder_WriteByte: function 25 (its contract is typed by hand) -/

section
set_option maxHeartbeats 1000000
set_option maxRecDepth 100000
theorem strings_Builder_WriteByte.calls (B b : Nat) (bs : List Value) (c : Int) (w : World) (h : Lib.IsBuilder 46 5 B b bs w) (hlen : bs.length + 1 ≤ 140737488355328) (hBw : B ≤ w.heap.size) :
    Calls Tryd.prog 25 #[.pointer (some ⟨b, 0, none⟩), .int .u8 c] w fun e w' => e = .returned .nilIface ∧ (Lib.BuilderAt 46 5 B b (.pointer (some ⟨b, 0, none⟩)) (bs ++ [.int .u8 c]) w' ∧ Below B w w') := by
  obtain ⟨i0, hi, hz0, hz1, hz2⟩ := info_parts bld_infoByte
  go_enter Tryd.func25, Tryd.ntmps25
  go_wp2_with (go_at_call 31; refine (strings_Builder_copyCheck.calls B b bs _ h).mono ?_)
  rintro e w1 ⟨rfl, h1, hb1⟩
  obtain ⟨hB, v, hbk, hown, hne⟩ := h1
  have c0 : w1.cell? ⟨b, 0, none⟩ = some (.pointer (some ⟨b, 0, none⟩)) := by rw [Lib.cell_of_heap hbk]; rfl
  have c1 : w1.cell? ⟨b, 1, none⟩ = some v := by rw [Lib.cell_of_heap hbk]; rfl
  go_wp2_with (at_builtin; refine wpList_append_own _ rfl _ _ 44 rfl B 5 i0 (.int .u8 0) 1 1 Tryd.underlying44 hi hz0 hz1 hz2 rfl (by decide) _ _ _ rfl (hown.alloc _) ⟨w1.heap.size, 0, none⟩ 1 1 [.int .u8 c] rfl rfl ?c1 ?c2 ?c3 ?c4 ?c5 ?_)
  case c1 =>
    intro j u hj
    match j, hj with
    | 0, hj => simp at hj; subst hj; simp [Addr.add]
  case c2 => intro u hu; simp at hu; subst hu; rfl
  case c3 => unfold maxLen; omega
  case c4 => omega
  case c5 => have := hb1.size; simp; omega
  intro v' w2 hown' hgrow _
  have hlt : b < w1.heap.size := by
    rcases Nat.lt_or_ge b w1.heap.size with h' | h'
    · exact h'
    · simp [Array.getElem?_eq_none h'] at hbk
  have hb2 : w2.heap[b]? = some (.cells #[.pointer (some ⟨b, 0, none⟩), v] 46 (0, 0)) := by
    rw [hgrow.block b (by simp; omega) (fun e => hne e.symm), Lib.alloc_old w1 _ b hlt]
    exact hbk
  have d0 : w2.cell? ⟨b, 0, none⟩ = some (.pointer (some ⟨b, 0, none⟩)) := by rw [Lib.cell_of_heap hb2]; rfl
  have d1 : w2.cell? ⟨b, 1, none⟩ = some v := by rw [Lib.cell_of_heap hb2]; rfl
  have f1 : w2.frozen? ⟨b, 1, none⟩ = false := Lib.frozen_of_heap hb2 1
  obtain ⟨g, cap, rfl⟩ : ∃ g cap, v' = .slice (some ⟨g, 0, none⟩) (bs.length + 1) cap := by
    rcases hown'.2 with ⟨_, h0⟩ | ⟨g, cap, cur, hv, _⟩
    · omega
    · exact ⟨g, cap, hv⟩
  go_wp2
  go_ret
  refine ⟨rfl, ?_, ?_⟩
  · exact Lib.BuilderAt.put (T := 46) (e := 5) hB hb2 (bs' := bs ++ [.int .u8 c]) (by simpa using hown') (by decide)
  · exact ((hb1.alloc (by have := hb1.size; omega) _).grown hgrow (by have := hb1.size; simp; omega) (fun k hk => (hown.lt k hk).1)).setCell (p := ⟨b, 1, none⟩) hB _
end

/-! ### strings_Builder_String: function 26 (its contract is typed by hand) -/

end Go.Proofs.YtlbkfnofnlioaaaDoor.PGlob
