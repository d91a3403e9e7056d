import Derived.Test.YtodeagijmfoojaaDoorPClockx2
namespace Go.Proofs.YtodeagijmfoojaaDoor.PClock
open Go.RowKit Go.Proofs.YtodeagijmfoojaaDoorW.PrintWords Go.Proofs.YtodeagijmfoojaaDoorW.PrintLast Go.Proofs.YtodeagijmfoojaaDoorW.PrintMore
/-! ### A. May a date be? -/
def leapB (y : Int) : Bool := if Int.tmod y 4 = 0 then (if Int.tmod y 100 = 0 then Int.tmod y 400 == 0 else true) else Int.tmod y 400 == 0
def dim (y m : Int) : Int := if m = 2 then (if leapB y = true then 29 else 28) else if m = 4 then 30 else if m = 6 then 30 else if m = 9 then 30 else if m = 11 then 30 else 31
theorem leap_f (y : Int) : clock_leap.f y = some (leapB y) := by
  unfold clock_leap.f leapB
  by_cases h1 : Int.tmod y 4 = 0
  · rw [if_pos h1, if_pos h1]
    by_cases h2 : Int.tmod y 100 = 0
    · rw [if_pos h2, if_pos h2]
    · rw [if_neg h2, if_neg h2]
  · rw [if_neg h1, if_neg h1]
theorem days_f (y m : Int) (K : Nat) (hK : 0 < K) : clock_days.f K y m = some (dim y m) := by
  obtain ⟨k, rfl⟩ : ∃ k, K = k + 1 := ⟨K - 1, by omega⟩
  unfold clock_days.f dim
  by_cases h2 : m = 2
  · rw [if_pos h2, if_pos h2, leap_f, Option.bind_some, clock_days.j0]
    cases leapB y with
    | true => rw [if_pos rfl, if_pos rfl]
    | false => simp [h2]
  · rw [if_neg h2, if_neg h2, clock_days.j0, if_neg (by decide), if_neg h2]
    repeat' split
    all_goals rfl
def okD (y m d h mi s : Int) : Bool := decide (1980 ≤ y) && decide (y ≤ 2107) && decide (1 ≤ m) && decide (m ≤ 12) && decide (1 ≤ d) && decide (d ≤ dim y m) && decide (0 ≤ h) && decide (h ≤ 23) && decide (0 ≤ mi) && decide (mi ≤ 59) && decide (0 ≤ s) && decide (s ≤ 58) && (Int.tmod s 2 == 0)
theorem within_f (a b c : Int) : clock_within.f a b c = some (decide (b ≤ a) && decide (a ≤ c)) := by
  unfold clock_within.f
  by_cases h : b ≤ a
  · rw [if_pos h, decide_eq_true h, Bool.true_and]
  · rw [if_neg h, decide_eq_false h, Bool.false_and]
theorem right_f (y m d h mi s : Int) (K : Nat) (hK : 0 < K) : clock_right.f K y m d h mi s = some (okD y m d h mi s) := by
  obtain ⟨k, rfl⟩ : ∃ k, K = k + 1 := ⟨K - 1, by omega⟩
  unfold clock_right.f okD
  simp only [within_f, Option.bind_some, days_f _ _ _ hK, clock_right.j0]
  generalize (Int.tmod s 2 == 0) = sb
  generalize dim y m = dm
  generalize decide (1980 ≤ y) = b1
  generalize decide (y ≤ 2107) = b2
  generalize decide (1 ≤ m) = b3
  generalize decide (m ≤ 12) = b4
  generalize decide (1 ≤ d) = b5
  generalize decide (d ≤ dm) = b6
  generalize decide (0 ≤ h) = b7
  generalize decide (h ≤ 23) = b8
  generalize decide (0 ≤ mi) = b9
  generalize decide (mi ≤ 59) = b10
  generalize decide (0 ≤ s) = b11
  generalize decide (s ≤ 58) = b12
  cases b1 <;> cases b2 <;> try simp
  cases b3 <;> cases b4 <;> try simp
  cases b5 <;> cases b6 <;> try simp
  cases b7 <;> cases b8 <;> try simp
  cases b9 <;> cases b10 <;> try simp
  cases b11 <;> cases b12 <;> try simp
/-! ### B. Seconds -/
theorem dim_le (y m : Int) : 28 ≤ dim y m ∧ dim y m ≤ 31 := by
  unfold dim
  repeat' split
  all_goals omega
def ahd (y : Int) : Int := 365 * (y - 1) + (y - 1) / 4 - (y - 1) / 100 + (y - 1) / 400 - 722814
theorem ahead_f (y : Int) (h1 : 1 ≤ y) (h2 : y ≤ 1000000) : clock_ahead.f y = some (ahd y) := by
  unfold clock_ahead.f ahd
  rw [if_pos ⟨h1, h2⟩]
theorem wid (x : Int) (h0 : -1000000000000000 ≤ x) (h1 : x ≤ 1000000000000000) : wrap64 x = x := by unfold wrap64; omega
/-- The days of the first j months. -/
def mon (y : Int) : Nat → Int
  | 0 => 0
  | j + 1 => mon y j + dim y ((j : Int) + 1)
theorem mon_le (y : Int) : ∀ j, 0 ≤ mon y j ∧ mon y j ≤ 31 * j
  | 0 => by simp [mon]
  | j + 1 => by
    have h := mon_le y j
    have hd := dim_le y ((j : Int) + 1)
    rw [mon]
    omega
theorem ahd_le (y : Int) (h1 : 1980 ≤ y) (h2 : y ≤ 2108) : 0 ≤ ahd y ∧ ahd y ≤ 46751 := by
  unfold ahd
  omega
theorem secs_eq (n h mi s : Int) (hn : 0 ≤ n ∧ n ≤ 100000) (hh : 0 ≤ h ∧ h ≤ 23) (hmi : 0 ≤ mi ∧ mi ≤ 59) (hs : 0 ≤ s ∧ s ≤ 58) : wrap64 (wrap64 (wrap64 (wrap64 (n * 86400) + wrap64 (h * 3600)) + wrap64 (mi * 60)) + s) = n * 86400 + h * 3600 + mi * 60 + s := by
  rw [wid (n * 86400) (by omega) (by omega), wid (h * 3600) (by omega) (by omega), wid (mi * 60) (by omega) (by omega), wid (n * 86400 + h * 3600) (by omega) (by omega), wid (n * 86400 + h * 3600 + mi * 60) (by omega) (by omega), wid (n * 86400 + h * 3600 + mi * 60 + s) (by omega) (by omega)]
theorem wid2 (x : Int) (h0 : 0 ≤ x) (h1 : x ≤ 10000000000000) : wrap64 x = x := wid x (by omega) (by omega)
theorem step_le (n0 M D : Int) (j : Nat) (h1 : 0 ≤ n0) (h2 : n0 ≤ 50000) (h3 : 0 ≤ M) (h4 : M ≤ 31 * j) (h5 : 28 ≤ D) (h6 : D ≤ 31) (hj : j ≤ 12) : wrap64 (n0 + M + D) = n0 + (M + D) := by
  rw [wid2 _ (by omega) (by omega), Int.add_assoc]
theorem up_le (j : Nat) (hj : j ≤ 1000) : wrap64 ((j : Int) + 1 + 1) = ((j + 1 : Nat) : Int) + 1 := by
  rw [wid2 _ (by omega) (by omega), Int.natCast_add]; rfl
theorem seconds_l0 (y m d h mi s : Int) (hm : m ≤ 12) (hh : 0 ≤ h ∧ h ≤ 23) (hmi : 0 ≤ mi ∧ mi ≤ 59) (hs : 0 ≤ s ∧ s ≤ 58) (n0 : Int) (hn0 : 0 ≤ n0 ∧ n0 ≤ 50000) (K : Nat) :
    ∀ (j : Nat), (j : Int) + 1 ≤ m → 12 - j < K →
    clock_Seconds.l0 K (n0 + mon y j) ((j : Int) + 1) y m d h mi s = some ((n0 + mon y (m - 1).toNat) * 86400 + h * 3600 + mi * 60 + s, 0) := by
  induction K with
  | zero => intro j _ h; omega
  | succ K ih =>
    intro j hj hK
    have hmj := mon_le y j
    have hj12 : j ≤ 12 := by clear ih; omega
    rw [clock_Seconds.l0]
    by_cases hlt : (j : Int) + 1 < m
    · have hdm := dim_le y ((j : Int) + 1)
      rw [if_pos hlt, days_f _ _ K (by omega), Option.bind_some, step_le n0 _ _ j hn0.1 hn0.2 hmj.1 hmj.2 hdm.1 hdm.2 hj12, up_le j (by omega)]
      exact ih (j + 1) (by omega) (by omega)
    · have e : (m - 1).toNat = j := by omega
      have hb : 0 ≤ n0 + mon y j ∧ n0 + mon y j ≤ 100000 := by
        revert hmj; generalize mon y j = M; intro hmj; clear ih; omega
      rw [if_neg hlt, secs_eq _ _ _ _ hb hh hmi hs, e]
theorem ahead_of (y : Int) (h1 : 1980 ≤ y) (h2 : y ≤ 2108) : clock_ahead.f y = some (ahd y) := ahead_f y (by omega) (by omega)
/-- The number of a day, and the seconds. -/
def dayNo (y m d : Int) : Int := ahd y + mon y (m - 1).toNat + d - 1
def secD (y m d h mi s : Int) : Int := dayNo y m d * 86400 + h * 3600 + mi * 60 + s
structure OkD (y m d h mi s : Int) : Prop where
  y1 : 1980 ≤ y
  y2 : y ≤ 2107
  m1 : 1 ≤ m
  m2 : m ≤ 12
  d1 : 1 ≤ d
  d2 : d ≤ dim y m
  h1 : 0 ≤ h
  h2 : h ≤ 23
  i1 : 0 ≤ mi
  i2 : mi ≤ 59
  s1 : 0 ≤ s
  s2 : s ≤ 58
  s3 : Int.tmod s 2 = 0
theorem okD_iff (y m d h mi s : Int) : okD y m d h mi s = true ↔ OkD y m d h mi s := by
  unfold okD
  simp only [Bool.and_eq_true, decide_eq_true_eq, beq_iff_eq]
  exact ⟨fun ⟨⟨⟨⟨⟨⟨⟨⟨⟨⟨⟨⟨a, b⟩, c⟩, d⟩, e⟩, f⟩, g⟩, h⟩, i⟩, j⟩, k⟩, l⟩, m⟩ => ⟨a, b, c, d, e, f, g, h, i, j, k, l, m⟩, fun ⟨a, b, c, d, e, f, g, h, i, j, k, l, m⟩ => ⟨⟨⟨⟨⟨⟨⟨⟨⟨⟨⟨⟨a, b⟩, c⟩, d⟩, e⟩, f⟩, g⟩, h⟩, i⟩, j⟩, k⟩, l⟩, m⟩⟩
theorem first_le (a d : Int) (h1 : 0 ≤ a) (h2 : a ≤ 46751) (h3 : 1 ≤ d) (h4 : d ≤ 31) : wrap64 (wrap64 (a + d) - 1) = a + d - 1 ∧ 0 ≤ a + d - 1 ∧ a + d - 1 ≤ 50000 := by
  rw [wid2 (a + d) (by omega) (by omega), wid2 (a + d - 1) (by omega) (by omega)]
  omega
theorem seconds_f (K : Nat) (hK : 13 < K) (y m d h mi s : Int) : clock_Seconds.f K y m d h mi s = some (if okD y m d h mi s = true then (secD y m d h mi s, 0) else (0, 1)) := by
  unfold clock_Seconds.f
  rw [right_f _ _ _ _ _ _ K (by omega), Option.bind_some]
  by_cases hok : okD y m d h mi s = true
  · rw [if_pos hok, if_pos hok]
    have o := (okD_iff _ _ _ _ _ _).1 hok
    clear hok
    have ha := ahd_le y o.y1 (by have := o.y2; omega)
    have hd := dim_le y m
    have hf := first_le (ahd y) d ha.1 ha.2 o.d1 (Int.le_trans o.d2 hd.2)
    have hs := seconds_l0 y m d h mi s o.m2 ⟨o.h1, o.h2⟩ ⟨o.i1, o.i2⟩ ⟨o.s1, o.s2⟩ (ahd y + d - 1) hf.2 K 0 (by have := o.m1; omega) (by omega)
    rw [ahead_of y o.y1 (by have := o.y2; omega), Option.bind_some, hf.1]
    rw [show mon y 0 = 0 from rfl, Int.add_zero] at hs
    rw [show ((0 : Nat) : Int) + 1 = 1 from rfl] at hs
    rw [hs]
    unfold secD dayNo
    generalize mon y (m - 1).toNat = M
    generalize ahd y = A
    rw [show A + d - 1 + M = A + M + d - 1 by omega]
  · rw [if_neg hok, if_neg hok]
end Go.Proofs.YtodeagijmfoojaaDoor.PClock
