/- layout's places: at, Next, Slot, Cells. -/
import Derived.Test.YtkilpnfgpepfmaaLay
set_option linter.unusedSimpArgs false
set_option linter.unusedVariables false
set_option linter.unusedSectionVars false
open Go Go.RowKit Hat
namespace Go.Proofs.Ytkilpnfgpepfmaa
set_option maxHeartbeats 1000000
set_option maxRecDepth 100000

theorem at0_ok (c : Cfg) (k : Int) (w : World) (h : c.ok = true) (hk0 : -9223372036854775808 ≤ k) (hk1 : k < 9223372036854775808) :
    Calls Try.prog 58 #[.agg #[.int .i64 c.nodes, .int .i64 c.slots, .int .i64 c.holders, .int .u32 c.tag], .int .i64 0, .int .i64 k] w fun e w' =>
      e = .returned (.int .i64 (if 0 ≤ k ∧ k < (2 + 2 * c.nodes) - 2 then 2 + k else -1)) ∧ Below w.heap.size w w' := by
  obtain ⟨h0, h1, h2, h3, h4, h5⟩ := (ok_iff c).1 h
  have H := hid h
  clear h
  by_cases a : k < 0
  · rw [if_neg (by omega)]
    have a1 : decide (k < 0) = true := by simp [a]
    go_enter Try.func58, Try.ntmps58
    go_wp2_with (go_at_call 77; refine (begins_ok c _ H.out).mono ?_; rintro e w1 ⟨rfl, hb1⟩; obtain ⟨hc1, hf1, hz1⟩ := bcell hb1; have hB1 : Below w.heap.size w w1 := below_step (by go_grown) hb1; have z1 : w.heap.size < w1.heap.size := hz1 _ (by simp only [World.size_alloc, World.size_setCell]; omega))
    go_quiet (fail)
    go_wp2
    go_ret
    exact ⟨ret_int (by omega), below_draws (by go_grown) _⟩
  · have a1 : decide (k < 0) = false := by simp [a]
    by_cases b : k < (2 + 2 * c.nodes) - 2
    · rw [if_pos (by omega)]
      have b1 : decide ((2 + 2 * c.nodes) - 2 ≤ k) = false := by simp; omega
      go_enter Try.func58, Try.ntmps58
      go_wp2_with (go_at_call 77; refine (begins_ok c _ H.out).mono ?_; rintro e w1 ⟨rfl, hb1⟩; obtain ⟨hc1, hf1, hz1⟩ := bcell hb1; have hB1 : Below w.heap.size w w1 := below_step (by go_grown) hb1; have z1 : w.heap.size < w1.heap.size := hz1 _ (by simp only [World.size_alloc, World.size_setCell]; omega))
      go_quiet (fail)
      go_wp2
      go_ret
      exact ⟨ret_int (by omega), below_draws (by go_grown) _⟩
    · rw [if_neg (by omega)]
      have b1 : decide ((2 + 2 * c.nodes) - 2 ≤ k) = true := by simp; omega
      go_enter Try.func58, Try.ntmps58
      go_wp2_with (go_at_call 77; refine (begins_ok c _ H.out).mono ?_; rintro e w1 ⟨rfl, hb1⟩; obtain ⟨hc1, hf1, hz1⟩ := bcell hb1; have hB1 : Below w.heap.size w w1 := below_step (by go_grown) hb1; have z1 : w.heap.size < w1.heap.size := hz1 _ (by simp only [World.size_alloc, World.size_setCell]; omega))
      go_quiet (fail)
      go_wp2
      go_ret
      exact ⟨ret_int (by omega), below_draws (by go_grown) _⟩
theorem at0_bad (c : Cfg) (k : Int) (w : World) (h : c.ok = false) (hk0 : -9223372036854775808 ≤ k) (hk1 : k < 9223372036854775808) :
    Calls Try.prog 58 #[.agg #[.int .i64 c.nodes, .int .i64 c.slots, .int .i64 c.holders, .int .u32 c.tag], .int .i64 0, .int .i64 k] w fun e w' => e = .returned (.int .i64 (-1)) ∧ Below w.heap.size w w' := by
  have H := hid h
  clear h
  by_cases a : k < 0
  · have a1 : decide (k < 0) = true := by simp [a]
    go_enter Try.func58, Try.ntmps58
    go_wp2_with (go_at_call 77; refine (begins_bad c _ H.out).mono ?_; rintro e w1 ⟨rfl, hb1⟩; obtain ⟨hc1, hf1, hz1⟩ := bcell hb1; have hB1 : Below w.heap.size w w1 := below_step (by go_grown) hb1; have z1 : w.heap.size < w1.heap.size := hz1 _ (by simp only [World.size_alloc, World.size_setCell]; omega))
    go_quiet (fail)
    go_wp2
    go_ret
    exact ⟨ret_int (by omega), below_draws (by go_grown) _⟩
  · have a1 : decide (k < 0) = false := by simp [a]
    have b1 : decide (0 ≤ k) = true := by simp; omega
    go_enter Try.func58, Try.ntmps58
    go_wp2_with (go_at_call 77; refine (begins_bad c _ H.out).mono ?_; rintro e w1 ⟨rfl, hb1⟩; obtain ⟨hc1, hf1, hz1⟩ := bcell hb1; have hB1 : Below w.heap.size w w1 := below_step (by go_grown) hb1; have z1 : w.heap.size < w1.heap.size := hz1 _ (by simp only [World.size_alloc, World.size_setCell]; omega))
    go_quiet (fail)
    go_wp2
    go_ret
    exact ⟨ret_int (by omega), below_draws (by go_grown) _⟩

theorem at1_ok (c : Cfg) (k : Int) (w : World) (h : c.ok = true) (hk0 : -9223372036854775808 ≤ k) (hk1 : k < 9223372036854775808) :
    Calls Try.prog 58 #[.agg #[.int .i64 c.nodes, .int .i64 c.slots, .int .i64 c.holders, .int .u32 c.tag], .int .i64 1, .int .i64 k] w fun e w' =>
      e = .returned (.int .i64 (if 0 ≤ k ∧ k < (2 + 2 * c.nodes + c.slots) - (2 + 2 * c.nodes) then (2 + 2 * c.nodes) + k else -1)) ∧ Below w.heap.size w w' := by
  obtain ⟨h0, h1, h2, h3, h4, h5⟩ := (ok_iff c).1 h
  have H := hid h
  clear h
  by_cases a : k < 0
  · rw [if_neg (by omega)]
    have a1 : decide (k < 0) = true := by simp [a]
    go_enter Try.func58, Try.ntmps58
    go_wp2_with (go_at_call 77; refine (begins_ok c _ H.out).mono ?_; rintro e w1 ⟨rfl, hb1⟩; obtain ⟨hc1, hf1, hz1⟩ := bcell hb1; have hB1 : Below w.heap.size w w1 := below_step (by go_grown) hb1; have z1 : w.heap.size < w1.heap.size := hz1 _ (by simp only [World.size_alloc, World.size_setCell]; omega))
    go_quiet (fail)
    go_wp2
    go_ret
    exact ⟨ret_int (by omega), below_draws (by go_grown) _⟩
  · have a1 : decide (k < 0) = false := by simp [a]
    by_cases b : k < (2 + 2 * c.nodes + c.slots) - (2 + 2 * c.nodes)
    · rw [if_pos (by omega)]
      have b1 : decide ((2 + 2 * c.nodes + c.slots) - (2 + 2 * c.nodes) ≤ k) = false := by simp; omega
      go_enter Try.func58, Try.ntmps58
      go_wp2_with (go_at_call 77; refine (begins_ok c _ H.out).mono ?_; rintro e w1 ⟨rfl, hb1⟩; obtain ⟨hc1, hf1, hz1⟩ := bcell hb1; have hB1 : Below w.heap.size w w1 := below_step (by go_grown) hb1; have z1 : w.heap.size < w1.heap.size := hz1 _ (by simp only [World.size_alloc, World.size_setCell]; omega))
      go_quiet (fail)
      go_wp2
      go_ret
      exact ⟨ret_int (by omega), below_draws (by go_grown) _⟩
    · rw [if_neg (by omega)]
      have b1 : decide ((2 + 2 * c.nodes + c.slots) - (2 + 2 * c.nodes) ≤ k) = true := by simp; omega
      go_enter Try.func58, Try.ntmps58
      go_wp2_with (go_at_call 77; refine (begins_ok c _ H.out).mono ?_; rintro e w1 ⟨rfl, hb1⟩; obtain ⟨hc1, hf1, hz1⟩ := bcell hb1; have hB1 : Below w.heap.size w w1 := below_step (by go_grown) hb1; have z1 : w.heap.size < w1.heap.size := hz1 _ (by simp only [World.size_alloc, World.size_setCell]; omega))
      go_quiet (fail)
      go_wp2
      go_ret
      exact ⟨ret_int (by omega), below_draws (by go_grown) _⟩
theorem at1_bad (c : Cfg) (k : Int) (w : World) (h : c.ok = false) (hk0 : -9223372036854775808 ≤ k) (hk1 : k < 9223372036854775808) :
    Calls Try.prog 58 #[.agg #[.int .i64 c.nodes, .int .i64 c.slots, .int .i64 c.holders, .int .u32 c.tag], .int .i64 1, .int .i64 k] w fun e w' => e = .returned (.int .i64 (-1)) ∧ Below w.heap.size w w' := by
  have H := hid h
  clear h
  by_cases a : k < 0
  · have a1 : decide (k < 0) = true := by simp [a]
    go_enter Try.func58, Try.ntmps58
    go_wp2_with (go_at_call 77; refine (begins_bad c _ H.out).mono ?_; rintro e w1 ⟨rfl, hb1⟩; obtain ⟨hc1, hf1, hz1⟩ := bcell hb1; have hB1 : Below w.heap.size w w1 := below_step (by go_grown) hb1; have z1 : w.heap.size < w1.heap.size := hz1 _ (by simp only [World.size_alloc, World.size_setCell]; omega))
    go_quiet (fail)
    go_wp2
    go_ret
    exact ⟨ret_int (by omega), below_draws (by go_grown) _⟩
  · have a1 : decide (k < 0) = false := by simp [a]
    have b1 : decide (0 ≤ k) = true := by simp; omega
    go_enter Try.func58, Try.ntmps58
    go_wp2_with (go_at_call 77; refine (begins_bad c _ H.out).mono ?_; rintro e w1 ⟨rfl, hb1⟩; obtain ⟨hc1, hf1, hz1⟩ := bcell hb1; have hB1 : Below w.heap.size w w1 := below_step (by go_grown) hb1; have z1 : w.heap.size < w1.heap.size := hz1 _ (by simp only [World.size_alloc, World.size_setCell]; omega))
    go_quiet (fail)
    go_wp2
    go_ret
    exact ⟨ret_int (by omega), below_draws (by go_grown) _⟩

theorem at2_ok (c : Cfg) (k : Int) (w : World) (h : c.ok = true) (hk0 : -9223372036854775808 ≤ k) (hk1 : k < 9223372036854775808) :
    Calls Try.prog 58 #[.agg #[.int .i64 c.nodes, .int .i64 c.slots, .int .i64 c.holders, .int .u32 c.tag], .int .i64 2, .int .i64 k] w fun e w' =>
      e = .returned (.int .i64 (if 0 ≤ k ∧ k < (2 + 2 * c.nodes + c.slots + c.holders) - (2 + 2 * c.nodes + c.slots) then (2 + 2 * c.nodes + c.slots) + k else -1)) ∧ Below w.heap.size w w' := by
  obtain ⟨h0, h1, h2, h3, h4, h5⟩ := (ok_iff c).1 h
  have H := hid h
  clear h
  by_cases a : k < 0
  · rw [if_neg (by omega)]
    have a1 : decide (k < 0) = true := by simp [a]
    go_enter Try.func58, Try.ntmps58
    go_wp2_with (go_at_call 77; refine (begins_ok c _ H.out).mono ?_; rintro e w1 ⟨rfl, hb1⟩; obtain ⟨hc1, hf1, hz1⟩ := bcell hb1; have hB1 : Below w.heap.size w w1 := below_step (by go_grown) hb1; have z1 : w.heap.size < w1.heap.size := hz1 _ (by simp only [World.size_alloc, World.size_setCell]; omega))
    go_quiet (fail)
    go_wp2
    go_ret
    exact ⟨ret_int (by omega), below_draws (by go_grown) _⟩
  · have a1 : decide (k < 0) = false := by simp [a]
    by_cases b : k < (2 + 2 * c.nodes + c.slots + c.holders) - (2 + 2 * c.nodes + c.slots)
    · rw [if_pos (by omega)]
      have b1 : decide ((2 + 2 * c.nodes + c.slots + c.holders) - (2 + 2 * c.nodes + c.slots) ≤ k) = false := by simp; omega
      go_enter Try.func58, Try.ntmps58
      go_wp2_with (go_at_call 77; refine (begins_ok c _ H.out).mono ?_; rintro e w1 ⟨rfl, hb1⟩; obtain ⟨hc1, hf1, hz1⟩ := bcell hb1; have hB1 : Below w.heap.size w w1 := below_step (by go_grown) hb1; have z1 : w.heap.size < w1.heap.size := hz1 _ (by simp only [World.size_alloc, World.size_setCell]; omega))
      go_quiet (fail)
      go_wp2
      go_ret
      exact ⟨ret_int (by omega), below_draws (by go_grown) _⟩
    · rw [if_neg (by omega)]
      have b1 : decide ((2 + 2 * c.nodes + c.slots + c.holders) - (2 + 2 * c.nodes + c.slots) ≤ k) = true := by simp; omega
      go_enter Try.func58, Try.ntmps58
      go_wp2_with (go_at_call 77; refine (begins_ok c _ H.out).mono ?_; rintro e w1 ⟨rfl, hb1⟩; obtain ⟨hc1, hf1, hz1⟩ := bcell hb1; have hB1 : Below w.heap.size w w1 := below_step (by go_grown) hb1; have z1 : w.heap.size < w1.heap.size := hz1 _ (by simp only [World.size_alloc, World.size_setCell]; omega))
      go_quiet (fail)
      go_wp2
      go_ret
      exact ⟨ret_int (by omega), below_draws (by go_grown) _⟩
theorem at2_bad (c : Cfg) (k : Int) (w : World) (h : c.ok = false) (hk0 : -9223372036854775808 ≤ k) (hk1 : k < 9223372036854775808) :
    Calls Try.prog 58 #[.agg #[.int .i64 c.nodes, .int .i64 c.slots, .int .i64 c.holders, .int .u32 c.tag], .int .i64 2, .int .i64 k] w fun e w' => e = .returned (.int .i64 (-1)) ∧ Below w.heap.size w w' := by
  have H := hid h
  clear h
  by_cases a : k < 0
  · have a1 : decide (k < 0) = true := by simp [a]
    go_enter Try.func58, Try.ntmps58
    go_wp2_with (go_at_call 77; refine (begins_bad c _ H.out).mono ?_; rintro e w1 ⟨rfl, hb1⟩; obtain ⟨hc1, hf1, hz1⟩ := bcell hb1; have hB1 : Below w.heap.size w w1 := below_step (by go_grown) hb1; have z1 : w.heap.size < w1.heap.size := hz1 _ (by simp only [World.size_alloc, World.size_setCell]; omega))
    go_quiet (fail)
    go_wp2
    go_ret
    exact ⟨ret_int (by omega), below_draws (by go_grown) _⟩
  · have a1 : decide (k < 0) = false := by simp [a]
    have b1 : decide (0 ≤ k) = true := by simp; omega
    go_enter Try.func58, Try.ntmps58
    go_wp2_with (go_at_call 77; refine (begins_bad c _ H.out).mono ?_; rintro e w1 ⟨rfl, hb1⟩; obtain ⟨hc1, hf1, hz1⟩ := bcell hb1; have hB1 : Below w.heap.size w w1 := below_step (by go_grown) hb1; have z1 : w.heap.size < w1.heap.size := hz1 _ (by simp only [World.size_alloc, World.size_setCell]; omega))
    go_quiet (fail)
    go_wp2
    go_ret
    exact ⟨ret_int (by omega), below_draws (by go_grown) _⟩


theorem next_calls (c : Cfg) (i : Int) (w : World) (hi0 : 0 ≤ i) (hi1 : i < 4294967296) :
    Calls Try.prog 74 #[.agg #[.int .i64 c.nodes, .int .i64 c.slots, .int .i64 c.holders, .int .u32 c.tag], .int .u32 i] w fun e w' => e = .returned (.int .i64 (c.next i)) ∧ Below w.heap.size w w' := by
  cases h : c.ok with
  | true =>
    obtain ⟨h0, h1, h2, h3, h4, h5⟩ := (ok_iff c).1 h
    have Hf : Hid ((if 0 ≤ 2 * (i - 1) ∧ 2 * (i - 1) < (2 + 2 * c.nodes) - 2 then 2 + (2 * (i - 1)) else -1) = c.next i) := hid (by simp only [Cfg.next, h, true_and]; split <;> split <;> omega)
    have H := hid h
    clear h
    go_enter Try.func74, Try.ntmps74
    go_wp2_with (go_at_call 58; refine (at0_ok c (2 * (i - 1)) _ H.out (by omega) (by omega)).mono ?_; rw [Hf.out]; rintro e w1 ⟨rfl, hb1⟩)
    go_ret
    exact ⟨rfl, below_step (by go_grown) hb1⟩
  | false =>
    have Hf : Hid ((-1 : Int) = c.next i) := hid (by unfold Cfg.next; simp [h])
    have H := hid h
    clear h
    go_enter Try.func74, Try.ntmps74
    go_wp2_with (go_at_call 58; refine (at0_bad c (2 * (i - 1)) _ H.out (by omega) (by omega)).mono ?_; rw [Hf.out]; rintro e w1 ⟨rfl, hb1⟩)
    go_ret
    exact ⟨rfl, below_step (by go_grown) hb1⟩

theorem slot_calls (c : Cfg) (k : Int) (w : World) (hk0 : -9223372036854775808 ≤ k) (hk1 : k < 9223372036854775808) :
    Calls Try.prog 19 #[.agg #[.int .i64 c.nodes, .int .i64 c.slots, .int .i64 c.holders, .int .u32 c.tag], .int .i64 k] w fun e w' => e = .returned (.int .i64 (c.slot k)) ∧ Below w.heap.size w w' := by
  cases h : c.ok with
  | true =>
    obtain ⟨h0, h1, h2, h3, h4, h5⟩ := (ok_iff c).1 h
    have Hf : Hid ((if 0 ≤ k ∧ k < (2 + 2 * c.nodes + c.slots) - (2 + 2 * c.nodes) then (2 + 2 * c.nodes) + (k) else -1) = c.slot k) := hid (by simp only [Cfg.slot, h, true_and]; split <;> split <;> omega)
    have H := hid h
    clear h
    go_enter Try.func19, Try.ntmps19
    go_wp2_with (go_at_call 58; refine (at1_ok c (k) _ H.out (by omega) (by omega)).mono ?_; rw [Hf.out]; rintro e w1 ⟨rfl, hb1⟩)
    go_ret
    exact ⟨rfl, below_step (by go_grown) hb1⟩
  | false =>
    have Hf : Hid ((-1 : Int) = c.slot k) := hid (by unfold Cfg.slot; simp [h])
    have H := hid h
    clear h
    go_enter Try.func19, Try.ntmps19
    go_wp2_with (go_at_call 58; refine (at1_bad c (k) _ H.out (by omega) (by omega)).mono ?_; rw [Hf.out]; rintro e w1 ⟨rfl, hb1⟩)
    go_ret
    exact ⟨rfl, below_step (by go_grown) hb1⟩

theorem cells_calls (c : Cfg) (w : World) :
    Calls Try.prog 72 #[.agg #[.int .i64 c.nodes, .int .i64 c.slots, .int .i64 c.holders, .int .u32 c.tag]] w fun e w' => e = .returned (.int .i64 c.cells) ∧ Below w.heap.size w w' := by
  have i3 : ∀ (x y z u : Int) (w : World), (Instr.index 148 (.agg #[.int .i64 x, .int .i64 y, .int .i64 z, .int .i64 u]) (.int .i64 3)).run Try.prog w = .ok (.int .i64 u) w := fun _ _ _ _ _ => by kernel_rfl
  cases h : c.ok with
  | true =>
    have Hf : Hid ((2 + 2 * c.nodes + c.slots + c.holders) = c.cells) := hid (by unfold Cfg.cells; rw [if_pos h])
    have H := hid h
    clear h
    go_enter Try.func72, Try.ntmps72
    go_wp2_with (go_at_call 77; refine (begins_ok c _ H.out).mono ?_; rintro e w1 ⟨rfl, hb1⟩)
    go_ret
    exact ⟨ret_int Hf.out, below_step (by go_grown) hb1⟩
  | false =>
    have Hf : Hid ((0 : Int) = c.cells) := hid (by unfold Cfg.cells; simp [h])
    have H := hid h
    clear h
    go_enter Try.func72, Try.ntmps72
    go_wp2_with (go_at_call 77; refine (begins_bad c _ H.out).mono ?_; rintro e w1 ⟨rfl, hb1⟩)
    go_ret
    exact ⟨ret_int Hf.out, below_step (by go_grown) hb1⟩
end Go.Proofs.Ytkilpnfgpepfmaa
