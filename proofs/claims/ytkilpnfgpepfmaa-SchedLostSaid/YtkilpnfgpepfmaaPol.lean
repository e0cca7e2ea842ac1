/- What package policy's functions answer: they make memory of their own, and turn nothing that was there. -/
import Derived.Test.YtkilpnfgpepfmaaPlain
import Derived.Deep.RegionHeld3
import Derived.Deep.RegionWith
set_option linter.unusedSimpArgs false
set_option linter.unusedVariables false
set_option linter.unusedSectionVars false
open Go Go.RowKit Hat
namespace Go.Proofs.Ytkilpnfgpepfmaa
set_option maxHeartbeats 1000000
set_option maxRecDepth 100000

def pwithin (s : Pol) (n : Int) : Pol := ⟨max (min s.range n) (min n 1), max (min s.exp 6) 0⟩
def polV (s : Pol) : Value := .agg #[.int .i64 s.range, .int .i64 s.exp]

theorem within_calls (s : Pol) (n : Int) (w : World) :
    Calls Try.prog 76 #[.agg #[.int .i64 s.range, .int .i64 s.exp], .int .i64 n] w fun e w' => e = .returned (.agg #[.int .i64 (pwithin s n).range, .int .i64 (pwithin s n).exp]) ∧ Below w.heap.size w w' := by
  go_enter Try.func76, Try.ntmps76
  go_wp2
  all_goals
    refine bodyPost_ret (v := .agg #[.int .i64 (pwithin s n).range, .int .i64 (pwithin s n).exp]) (by simp [results, Try.results76, go_sem, pwithin]; omega) rfl ⟨rfl, ?_⟩
    exact ((Below.refl _ _).alloc (Nat.le_refl _) _).alloc (by simp) _

theorem run_eql_pol (a b c d : Int) (w : World) : (binOp .eql 34 (.agg #[.int .i64 a, .int .i64 b]) (.agg #[.int .i64 c, .int .i64 d])).run Try.prog w = .ok (.bool (a == c && b == d)) w := by
  by_cases h1 : a = c
  · by_cases h2 : b = d
    · simp [go_sem, h1, h2]
    · simp [go_sem, h1, h2]
  · simp [go_sem, h1]
theorem right_eq (s : Pol) (n : Int) (h0 : 0 ≤ n) (h1 : n ≤ 16) : (s.range == (pwithin s n).range && s.exp == (pwithin s n).exp) = s.right n := by
  rw [Bool.eq_iff_iff]
  simp only [Bool.and_eq_true, beq_iff_eq, Pol.right, decide_eq_true_eq, pwithin]
  split <;> omega
theorem right_in (s : Pol) (n : Int) (w : World) (h0 : 0 ≤ n) (h1 : n ≤ 16) :
    Calls Try.prog 54 #[.agg #[.int .i64 s.range, .int .i64 s.exp], .int .i64 n] w fun e w' =>
      e = .returned (.bool (s.right n)) ∧ Below w.heap.size w w' := by
  have hfin := hid (right_eq s n h0 h1)
  have d0 : decide (0 ≤ n) = true := by simp [h0]
  have d1 : decide (n ≤ 16) = true := by simp [h1]
  have hq := run_eql_pol
  go_enter Try.func54, Try.ntmps54
  go_wp2
  go_region_with (go_at_call 76; refine (within_calls s n _).mono ?_; rintro e w1 ⟨rfl, hb1⟩; obtain ⟨hc1, hf1, hz1⟩ := bcell hb1)
  all_goals
    go_wp2
    go_ret
    exact ⟨ret_bool hfin.out, below_step (((Below.refl _ _).alloc (Nat.le_refl _) _).drew) hb1⟩
theorem right_out (s : Pol) (n : Int) (w : World) (h : n < 0 ∨ 16 < n) :
    Calls Try.prog 54 #[.agg #[.int .i64 s.range, .int .i64 s.exp], .int .i64 n] w fun e w' =>
      e = .returned (.bool (s.right n)) ∧ Below w.heap.size w w' := by
  have hfin := hid (show false = s.right n by simp [Pol.right]; omega)
  rcases h with h | h
  · have d0 : decide (0 ≤ n) = false := by simp; omega
    go_enter Try.func54, Try.ntmps54
    go_wp2
    go_quiet (fail)
    go_wp2
    go_ret
    exact ⟨ret_bool hfin.out, below_draws ((Below.refl _ _).alloc (Nat.le_refl _) _) _⟩
  · have d0 : decide (0 ≤ n) = true := by simp; omega
    have d1 : decide (n ≤ 16) = false := by simp; omega
    go_enter Try.func54, Try.ntmps54
    go_wp2
    go_quiet (fail)
    go_wp2
    go_ret
    exact ⟨ret_bool hfin.out, below_draws ((Below.refl _ _).alloc (Nat.le_refl _) _) _⟩
theorem right_calls (s : Pol) (n : Int) (w : World) :
    Calls Try.prog 54 #[.agg #[.int .i64 s.range, .int .i64 s.exp], .int .i64 n] w fun e w' =>
      e = .returned (.bool (s.right n)) ∧ Below w.heap.size w w' := by
  by_cases h : 0 ≤ n ∧ n ≤ 16
  · exact right_in s n w h.1 h.2
  · exact right_out s n w (by omega)

theorem after_eq (s : Pol) (n st : Int) (h : s.right n = true) :
    pwithin (if st = 3 then ⟨s.range * 2, s.exp⟩ else if st = 4 then ⟨s.range / 2, s.exp + 1⟩ else if st = 1 then ⟨s.range, 0⟩ else s) n = s.after n st := by
  simp only [Pol.right, decide_eq_true_eq] at h
  obtain ⟨h0, h1, h2, h3, h4⟩ := h
  unfold Pol.after pwithin
  split at h4
  · by_cases a : st = 3
    · subst a; simp; omega
    · by_cases b : st = 4
      · subst b; simp; omega
      · by_cases c : st = 1
        · subst c; simp; omega
        · simp [a, b, c]; cases s; simp at *; omega
  · by_cases a : st = 3
    · subst a; simp; omega
    · by_cases b : st = 4
      · subst b; simp; split <;> omega
      · by_cases c : st = 1
        · subst c; simp; omega
        · simp [a, b, c]; cases s; simp at *; omega
end Go.Proofs.Ytkilpnfgpepfmaa
