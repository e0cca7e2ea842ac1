/- policy.After, policy.Polls: what they answer. -/
import Derived.Test.YtkilpnfgpepfmaaPol
set_option linter.unusedSimpArgs false
set_option linter.unusedVariables false
set_option linter.unusedSectionVars false
open Go Go.RowKit Hat
namespace Go.Proofs.Ytkilpnfgpepfmaa
set_option maxHeartbeats 1000000
set_option maxRecDepth 100000

theorem after_calls (s : Pol) (n st : Int) (w : World) (h : s.right n = true) :
    Calls Try.prog 56 #[.agg #[.int .i64 s.range, .int .i64 s.exp], .int .i64 n, .int .i64 st] w fun e w' =>
      e = .returned (.agg #[.int .i64 (s.after n st).range, .int .i64 (s.after n st).exp]) ∧ Below w.heap.size w w' := by
  have hfin0 := after_eq s n st h
  have hr : 0 ≤ s.range ∧ s.range ≤ 16 ∧ 0 ≤ s.exp ∧ s.exp ≤ 6 := by
    simp only [Pol.right, decide_eq_true_eq] at h
    obtain ⟨h0, h1, h2, h3, h4⟩ := h
    split at h4 <;> omega
  obtain ⟨r0, r1, r2, r3⟩ := hr
  clear h
  by_cases a3 : st = 3
  · subst a3
    have hfin : Hid (pwithin ⟨s.range * 2, s.exp⟩ n = s.after n 3) := hid (by simpa using hfin0)
    clear hfin0
    go_enter Try.func56, Try.ntmps56
    go_wp2_with (go_at_call 76; refine (within_calls ⟨s.range * 2, s.exp⟩ n _).mono ?_; rintro e w1 ⟨rfl, hb1⟩; obtain ⟨hc1, hf1, hz1⟩ := bcell hb1)
    refine bodyPost_ret (v := .agg #[.int .i64 (pwithin ⟨s.range * 2, s.exp⟩ n).range, .int .i64 (pwithin ⟨s.range * 2, s.exp⟩ n).exp]) (by simp [results, Try.results56, go_sem, hc1]) rfl ?_
    rw [hfin.out]
    exact ⟨rfl, (((below_step (((Below.refl _ _).alloc (Nat.le_refl _) _).alloc (by simp) _) hb1).setCell (by simp) _).setCell (by simp) _)⟩
  by_cases a4 : st = 4
  · subst a4
    have hfin : Hid (pwithin ⟨s.range / 2, s.exp + 1⟩ n = s.after n 4) := hid (by simpa using hfin0)
    clear hfin0
    go_enter Try.func56, Try.ntmps56
    go_wp2_with (go_at_call 76; refine (within_calls ⟨s.range / 2, s.exp + 1⟩ n _).mono ?_; rintro e w1 ⟨rfl, hb1⟩; obtain ⟨hc1, hf1, hz1⟩ := bcell hb1)
    refine bodyPost_ret (v := .agg #[.int .i64 (pwithin ⟨s.range / 2, s.exp + 1⟩ n).range, .int .i64 (pwithin ⟨s.range / 2, s.exp + 1⟩ n).exp]) (by simp [results, Try.results56, go_sem, hc1]) rfl ?_
    rw [hfin.out]
    exact ⟨rfl, (((below_step (((Below.refl _ _).alloc (Nat.le_refl _) _).alloc (by simp) _) hb1).setCell (by simp) _).setCell (by simp) _)⟩
  by_cases a1 : st = 1
  · subst a1
    have hfin : Hid (pwithin ⟨s.range, 0⟩ n = s.after n 1) := hid (by simpa using hfin0)
    clear hfin0
    go_enter Try.func56, Try.ntmps56
    go_wp2_with (go_at_call 76; refine (within_calls ⟨s.range, 0⟩ n _).mono ?_; rintro e w1 ⟨rfl, hb1⟩; obtain ⟨hc1, hf1, hz1⟩ := bcell hb1)
    refine bodyPost_ret (v := .agg #[.int .i64 (pwithin ⟨s.range, 0⟩ n).range, .int .i64 (pwithin ⟨s.range, 0⟩ n).exp]) (by simp [results, Try.results56, go_sem, hc1]) rfl ?_
    rw [hfin.out]
    exact ⟨rfl, (((below_step (((Below.refl _ _).alloc (Nat.le_refl _) _).alloc (by simp) _) hb1).setCell (by simp) _).setCell (by simp) _)⟩
  · have hfin : Hid (pwithin ⟨s.range, s.exp⟩ n = s.after n st) := hid (by simpa [a3, a4, a1] using hfin0)
    have b3 : (st == 3) = false := by simp [a3]
    have b4 : (st == 4) = false := by simp [a4]
    have b1 : (st == 1) = false := by simp [a1]
    clear hfin0 a3 a4 a1
    go_enter Try.func56, Try.ntmps56
    go_wp2_with (go_at_call 76; refine (within_calls ⟨s.range, s.exp⟩ n _).mono ?_; rintro e w1 ⟨rfl, hb1⟩; obtain ⟨hc1, hf1, hz1⟩ := bcell hb1)
    refine bodyPost_ret (v := .agg #[.int .i64 (pwithin ⟨s.range, s.exp⟩ n).range, .int .i64 (pwithin ⟨s.range, s.exp⟩ n).exp]) (by simp [results, Try.results56, go_sem, hc1]) rfl ?_
    rw [hfin.out]
    exact ⟨rfl, (((below_step (((Below.refl _ _).alloc (Nat.le_refl _) _).alloc (by simp) _) hb1).setCell (by simp) _).setCell (by simp) _)⟩

theorem dbl_64 (k : Nat) : dbl k 64 = 64 := by
  induction k with
  | zero => rfl
  | succ k ih => show dbl k (min (2 * 64) 64) = 64; exact ih
theorem polls_calls (s : Pol) (base : Int) (w : World) (h0 : 0 ≤ s.exp) (h1 : s.exp ≤ 6) (h2 : base < 9223372036854775808) :
    Calls Try.prog 52 #[.agg #[.int .i64 s.range, .int .i64 s.exp], .int .i64 base] w fun e w' =>
      e = .returned (.int .i64 (s.polls base)) ∧ Below w.heap.size w w' := by
  obtain ⟨x, hx⟩ := Int.eq_ofNat_of_zero_le h0
  have Hx := hid hx
  clear hx
  have Hp : Hid (s.polls base = dbl x (min (max base 1) 64)) := by unfold Hid Pol.polls; rw [Hx.out]; rfl
  go_enter Try.func52, Try.ntmps52
  go_wp2
  all_goals
    go_loop [5, 6] (fun n i => ∃ (k : Nat) (m : Int), k ≤ x ∧ 1 ≤ m ∧ m ≤ max base 128 ∧ Hid (s.polls base = dbl (x - k) (min m 64)) ∧ n = .int .i64 m ∧ i = .int .i64 k) (fun _ i => x - (intOf i).toNat)
    case atStart => exact ⟨0, _, Nat.zero_le _, by omega, by omega, hid (by rw [Hp.out, Nat.sub_zero]; congr 1; omega), rfl, rfl⟩
    case round =>
      obtain ⟨k, m, hk, hm, hmb, hrel, rfl, rfl⟩ := hrel
      by_cases hlt : k < x
      · have e1 : (k : Int) < s.exp := by have := Hx.out; omega
        by_cases hm64 : m < 64
        · have hst : Hid (s.polls base = dbl (x - (k + 1)) (min (m * 2) 64)) := hid (by
            rw [hrel.out, show x - k = (x - (k + 1)) + 1 from by omega, dbl]; congr 1; omega)
          go_wp2
          go_round
          case rel => exact ⟨k + 1, m * 2, by omega, by omega, by omega, hst, by go_num, by go_num⟩
          case measure => simp [intOf]; omega
        · have hend : Hid (min m 64 = s.polls base) := hid (by rw [hrel.out, show min m 64 = 64 from by omega, dbl_64])
          go_wp2
          all_goals
            go_ret
            exact ⟨ret_int (by have := hend.out; omega), (Below.refl _ _).alloc (Nat.le_refl _) _⟩
      · have hkx : k = x := by omega
        subst hkx
        have e1 : ¬ (k : Int) < s.exp := by have := Hx.out; omega
        have hend : Hid (min m 64 = s.polls base) := hid (by rw [hrel.out, Nat.sub_self]; rfl)
        go_wp2
        all_goals
          go_ret
          exact ⟨ret_int (by have := hend.out; omega), (Below.refl _ _).alloc (Nat.le_refl _) _⟩
end Go.Proofs.Ytkilpnfgpepfmaa
