/- ClockSeconds, plainly: whatever the numbers and the text, the law's function answers true. -/
import Derived.Test.YtodeagijmfoojaaDoorCD
import Derived.Test.YtodeagijmfoojaaDoorCK
import Derived.Test.YtodeagijmfoojaaDoorCP
import Derived.Test.YtodeagijmfoojaaDoorCR
import Derived.Test.YtodeagijmfoojaaDoorPClockx11
import Derived.OpenShut
namespace Go.Proofs.YtodeagijmfoojaaDoor.PClock
set_option linter.unusedVariables false
open Go.RowKit Go.Proofs.YtodeagijmfoojaaDoorW.PrintWords Go.Proofs.YtodeagijmfoojaaDoorW.PrintLast Go.Proofs.YtodeagijmfoojaaDoorW.PrintMore
theorem okD_at {N y m d : Int} (o : IsDay N y m d) (r : Int) (h0 : 0 ≤ r) (h1 : r < 86400) : okD y m d (r / 3600) (r / 60 % 60) (r % 60 / 2 * 2) = true := by
  refine (okD_iff _ _ _ _ _ _).2 ⟨o.y1, o.y2, o.m1, o.m2, o.d1, o.d2, ?_, ?_, ?_, ?_, ?_, ?_, ?_⟩
  · omega
  · omega
  · omega
  · omega
  · omega
  · omega
  · rw [Int.tmod_eq_emod_of_nonneg (by omega)]; omega
/-- The three numbers of a day's time, in order. -/
theorem rest_lt (r r' : Int) (h0 : 0 ≤ r) (h1 : r < 86400) (h0' : 0 ≤ r') (h1' : r' < 86400) :
    (r / 2 < r' / 2) ↔ ((r / 3600) * 2048 + (r / 60 % 60) * 32 + r % 60 / 2 * 2 / 2 < (r' / 3600) * 2048 + (r' / 60 % 60) * 32 + r' % 60 / 2 * 2 / 2) := by
  have e : r / 2 = (r / 3600) * 1800 + (r / 60 % 60) * 30 + r % 60 / 2 := by omega
  have e' : r' / 2 = (r' / 3600) * 1800 + (r' / 60 % 60) * 30 + r' % 60 / 2 := by omega
  have b1 : 0 ≤ r / 60 % 60 ∧ r / 60 % 60 < 60 := by omega
  have b1' : 0 ≤ r' / 60 % 60 ∧ r' / 60 % 60 < 60 := by omega
  have b2 : 0 ≤ r % 60 / 2 ∧ r % 60 / 2 < 30 := by omega
  have b2' : 0 ≤ r' % 60 / 2 ∧ r' % 60 / 2 < 30 := by omega
  have c : r % 60 / 2 * 2 / 2 = r % 60 / 2 := by omega
  have c' : r' % 60 / 2 * 2 / 2 = r' % 60 / 2 := by omega
  rw [e, e', c, c']
  clear e e' c c' h0 h1 h0' h1'
  revert b1 b1' b2 b2'
  generalize r / 3600 = a; generalize r / 60 % 60 = b; generalize r % 60 / 2 = s
  generalize r' / 3600 = a'; generalize r' / 60 % 60 = b'; generalize r' % 60 / 2 = s'
  intro b1 b1' b2 b2'
  rcases Int.lt_trichotomy a a' with h | rfl | h
  · exact ⟨fun _ => by omega, fun _ => by omega⟩
  · rcases Int.lt_trichotomy b b' with h | rfl | h
    · exact ⟨fun _ => by omega, fun _ => by omega⟩
    · exact ⟨fun _ => by omega, fun _ => by omega⟩
    · exact ⟨fun _ => by omega, fun _ => by omega⟩
  · exact ⟨fun _ => by omega, fun _ => by omega⟩
theorem low_bound (r : Int) (h0 : 0 ≤ r) (h1 : r < 86400) : 0 ≤ (r / 3600) * 2048 + (r / 60 % 60) * 32 + r % 60 / 2 * 2 / 2 ∧ (r / 3600) * 2048 + (r / 60 % 60) * 32 + r % 60 / 2 * 2 / 2 < 65536 := by omega
theorem put_low (y m d h mi s : Int) : putV y m d h mi s = (y - 1980) * 33554432 + m * 2097152 + d * 65536 + (h * 2048 + mi * 32 + s / 2) := by unfold putV; omega
/-- A day before another one has the lesser time. -/
theorem put_lt {N y m d N' y' m' d' : Int} (o : IsDay N y m d) (o' : IsDay N' y' m' d') (h : N < N') (L L' : Int) (l0 : 0 ≤ L) (l1 : L < 65536) (l0' : 0 ≤ L') (l1' : L' < 65536) :
    (y - 1980) * 33554432 + m * 2097152 + d * 65536 + L < (y' - 1980) * 33554432 + m' * 2097152 + d' * 65536 + L' := by
  have hn : ¬ (y' < y ∨ (y' = y ∧ (m' < m ∨ (m' = m ∧ d' < d)))) := fun hc => by have := day_lt o' o hc; omega
  have he : ¬ (y = y' ∧ m = m' ∧ d = d') := fun ⟨e1, e2, e3⟩ => by
    subst e1 e2 e3
    have := o.no.symm.trans o'.no
    omega
  have hd := (dim_le y m).2
  have hd' := (dim_le y' m').2
  obtain ⟨y1, y2, m1, m2, d1, d2, _⟩ := o
  obtain ⟨y1', y2', m1', m2', d1', d2', _⟩ := o'
  have k : d ≤ 31 := by omega
  have k' : d' ≤ 31 := by omega
  clear d2 d2' hd hd' h
  rcases Int.lt_trichotomy y y' with h | rfl | h
  · omega
  · rcases Int.lt_trichotomy m m' with h | rfl | h
    · omega
    · omega
    · omega
  · omega
theorem half_of (n : Int) (h0 : 0 ≤ n) (h1 : n ≤ 9223372036854775807) : wrap64 (Int.tdiv n 2) = n / 2 := by
  rw [Int.tdiv_eq_ediv_of_nonneg h0]
  unfold wrap64
  omega
theorem half_lt (n n' : Int) : (n / 86400 < n' / 86400 → n / 2 < n' / 2) ∧ (n / 86400 = n' / 86400 → (n / 2 < n' / 2 ↔ n % 86400 / 2 < n' % 86400 / 2)) := by omega
theorem order_eq {n n' y m d y' m' d' : Int} (o : IsDay (n / 86400) y m d) (o' : IsDay (n' / 86400) y' m' d') :
    (n / 2 < n' / 2) ↔ (putV y m d (n % 86400 / 3600) (n % 86400 / 60 % 60) (n % 86400 % 60 / 2 * 2) < putV y' m' d' (n' % 86400 / 3600) (n' % 86400 / 60 % 60) (n' % 86400 % 60 / 2 * 2)) := by
  rw [put_low, put_low]
  have l := low_bound (n % 86400) (by omega) (by omega)
  have l' := low_bound (n' % 86400) (by omega) (by omega)
  rcases Int.lt_trichotomy (n / 86400) (n' / 86400) with h | h | h
  · exact ⟨fun _ => put_lt o o' h _ _ l.1 l.2 l'.1 l'.2, fun _ => (half_lt n n').1 h⟩
  · rw [(half_lt n n').2 h, rest_lt (n % 86400) (n' % 86400) (by omega) (by omega) (by omega) (by omega)]
    rw [h] at o
    obtain ⟨rfl, rfl, rfl⟩ := day_unique o o'
    revert l l'
    generalize (n % 86400 / 3600) * 2048 + (n % 86400 / 60 % 60) * 32 + n % 86400 % 60 / 2 * 2 / 2 = L
    generalize (n' % 86400 / 3600) * 2048 + (n' % 86400 / 60 % 60) * 32 + n' % 86400 % 60 / 2 * 2 / 2 = L'
    intro l l'
    exact ⟨fun _ => by omega, fun _ => by omega⟩
  · have h2 := (half_lt n' n).1 h
    have h3 := put_lt o' o h _ _ l'.1 l'.2 l.1 l.2
    exact ⟨fun h4 => by omega, fun h4 => by omega⟩
theorem seconds_law (K : Nat) (hK : 5000 < K) (n n' : Int) (hn : n ≤ 9223372036854775807) (hn' : n' ≤ 9223372036854775807) (s : ByteArray) : montagelaw41_ClockSeconds.f K n n' s = some true := by
  unfold montagelaw41_ClockSeconds.f
  rw [awake_f K (by omega), Option.bind_some, if_pos rfl]
  by_cases hs : (s.size : Int) > 30
  · rw [if_pos hs]
  · rw [if_neg hs, at_eq K (by omega) n hn]
    obtain ⟨p, hp, hq⟩ := parse_eq K (by omega) s
    rw [hp, hq]
    obtain ⟨k, rfl⟩ : ∃ k, K = k + 1 := ⟨K - 1, by omega⟩
    by_cases h : n < 0 ∨ 46751 ≤ n / 86400
    · rw [at_out (k + 1) n hn h]
      simp only [Option.bind_some, beq_self_eq_true, Bool.not_true, Bool.or_self, Bool.false_eq_true, if_false, bne_self_eq_false, if_true]
      rw [montagelaw41_ClockSeconds.j0, if_neg (by decide)]
      obtain ⟨a, ha⟩ : ∃ a, clock_At.f k n' = some a := by
        by_cases h' : n' < 0 ∨ 46751 ≤ n' / 86400
        · exact ⟨_, at_out k n' hn' h'⟩
        · obtain ⟨_, _, _, e, _⟩ := at_in k (by omega) n' (by omega) (by omega)
          exact ⟨_, e⟩
      obtain ⟨k, rfl⟩ : ∃ q, k = q + 1 := ⟨k - 1, by omega⟩
      rw [ha, Option.bind_some, if_neg (by decide), montagelaw41_ClockSeconds.j1, if_pos rfl]
    · obtain ⟨y, m, d, e, o⟩ := at_in (k + 1) (by omega) n (by omega) (by omega)
      rw [e]
      unfold atV
      simp only [Option.bind_some, beq_self_eq_true, Bool.not_true, Bool.or_self, Bool.false_eq_true, if_false, bne_self_eq_false, if_true]
      rw [montagelaw41_ClockSeconds.j0, if_neg (by decide)]
      by_cases h' : n' < 0 ∨ 46751 ≤ n' / 86400
      · obtain ⟨k, rfl⟩ : ∃ q, k = q + 1 := ⟨k - 1, by omega⟩
        rw [at_out _ n' hn' h', Option.bind_some, if_pos rfl, montagelaw41_ClockSeconds.j1, if_pos (by decide)]
      · obtain ⟨y', m', d', e', o'⟩ := at_in k (by omega) n' (by omega) (by omega)
        obtain ⟨k, rfl⟩ : ∃ q, k = q + 1 := ⟨k - 1, by omega⟩
        rw [e']
        unfold atV
        rw [Option.bind_some, if_pos rfl, montagelaw41_ClockSeconds.j1, if_neg (show ¬ (((0 : Int) != 0) = true) by decide)]
        rw [put_f k (by omega), put_f k (by omega), okD_at o (n % 86400) (by omega) (by omega), okD_at o' (n' % 86400) (by omega) (by omega), if_pos rfl, if_pos rfl]
        simp only [Option.bind_some]
        rw [half_of n (by omega) hn, half_of n' (by omega) hn', decide_eq_decide.2 (order_eq o o'), beq_self_eq_true]
theorem ClockSeconds_walk (n n' : Int) (s : ByteArray) (w : World) (hG : Good w) (hb : (Lit.int .i64 n).wf = true ∧ (Lit.int .i64 n').wf = true) (hs : s.size ≤ 140737488351232) : Calls Tryd.prog 5 #[.agg #[.int .i64 n, .int .i64 n'], .string s] w fun e w' => e = .returned (.bool true) ∧ Below w.heap.size w w' :=
  montagelaw41_ClockSeconds.calls 5001 n n' s true w hG (seconds_law 5001 (by omega) n n' (Go.bounds_i64 hb.1).2 (Go.bounds_i64 hb.2).2 s) rfl
end Go.Proofs.YtodeagijmfoojaaDoor.PClock
