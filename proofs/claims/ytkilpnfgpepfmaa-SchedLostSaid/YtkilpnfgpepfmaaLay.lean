/- package layout: where things are. -/
import Derived.Test.YtkilpnfgpepfmaaPol2
set_option linter.unusedSimpArgs false
set_option linter.unusedVariables false
set_option linter.unusedSectionVars false
open Go Go.RowKit Hat
namespace Go.Proofs.Ytkilpnfgpepfmaa
set_option maxHeartbeats 1000000
set_option maxRecDepth 100000

theorem ok_iff (c : Cfg) : c.ok = true ↔ 1 ≤ c.nodes ∧ c.nodes ≤ 64 ∧ 0 ≤ c.slots ∧ c.slots ≤ 16 ∧ 0 ≤ c.holders ∧ c.holders ≤ 64 := by simp [Cfg.ok]
def chk (c : Cfg) : Int := if c.ok = true then 0 else 1
theorem chk_ok {c : Cfg} (h : c.ok = true) : chk c = 0 := if_pos h
theorem chk_bad {c : Cfg} (h : c.ok = false) : chk c = 1 := if_neg (by simp [h])
theorem chk_range (c : Cfg) : 0 ≤ chk c ∧ chk c ≤ 1 := by unfold chk; split <;> omega
theorem check_calls (c : Cfg) (w : World) :
    Calls Try.prog 53 #[.agg #[.int .i64 c.nodes, .int .i64 c.slots, .int .i64 c.holders, .int .u32 c.tag]] w fun e w' =>
      e = .returned (.int .i64 (chk c)) ∧ Below w.heap.size w w' := by
  have Hok := hid (ok_iff c)
  go_enter Try.func53, Try.ntmps53
  go_wp2
  all_goals
    go_ret
    refine ⟨ret_int ?_, (Below.refl _ _).alloc (Nat.le_refl _) _⟩
    have := Hok.out
    unfold chk
    by_cases hk : c.ok = true
    · have e : (if c.ok = true then (0 : Int) else 1) = 0 := if_pos hk
      rw [e]
      first
        | done
        | (have := this.1 hk; omega)
    · have e : (if c.ok = true then (0 : Int) else 1) = 1 := if_neg hk
      rw [e]
      first
        | done
        | (exfalso; exact hk (this.2 (by omega)))

/-- The four places at which parts begin. -/
def begins4 (c : Cfg) : Value :=
  if c.ok = true then .agg #[.int .i64 2, .int .i64 (2 + 2 * c.nodes), .int .i64 (2 + 2 * c.nodes + c.slots), .int .i64 (2 + 2 * c.nodes + c.slots + c.holders)]
  else .agg #[.int .i64 0, .int .i64 0, .int .i64 0, .int .i64 0]

theorem begins_ok (c : Cfg) (w : World) (h : c.ok = true) :
    Calls Try.prog 77 #[.agg #[.int .i64 c.nodes, .int .i64 c.slots, .int .i64 c.holders, .int .u32 c.tag]] w fun e w' =>
      e = .returned (.agg #[.int .i64 2, .int .i64 (2 + 2 * c.nodes), .int .i64 (2 + 2 * c.nodes + c.slots), .int .i64 (2 + 2 * c.nodes + c.slots + c.holders)]) ∧ Below w.heap.size w w' := by
  obtain ⟨h0, h1, h2, h3, h4, h5⟩ := (ok_iff c).1 h
  have H := hid h
  clear h
  go_enter Try.func77, Try.ntmps77
  have i0 : ∀ (x y z : Int) (w : World), (Instr.index 165 (.agg #[.int .i64 x, .int .i64 y, .int .i64 z]) (.int .i64 0)).run Try.prog w = .ok (.int .i64 x) w := fun _ _ _ _ => by kernel_rfl
  have i1 : ∀ (x y z : Int) (w : World), (Instr.index 165 (.agg #[.int .i64 x, .int .i64 y, .int .i64 z]) (.int .i64 1)).run Try.prog w = .ok (.int .i64 y) w := fun _ _ _ _ => by kernel_rfl
  have i2 : ∀ (x y z : Int) (w : World), (Instr.index 165 (.agg #[.int .i64 x, .int .i64 y, .int .i64 z]) (.int .i64 2)).run Try.prog w = .ok (.int .i64 z) w := fun _ _ _ _ => by kernel_rfl
  go_wp2_with (go_at_call 53; refine (check_calls c _).mono ?_; rw [chk_ok H.out]; rintro e w1 ⟨rfl, hb1⟩; obtain ⟨hc1, hf1, hz1⟩ := bcell hb1; have hB1 : Below w.heap.size w w1 := below_step (by go_grown) hb1; have z1 : w.heap.size < w1.heap.size := hz1 _ (by simp only [World.size_alloc, World.size_setCell]; omega); have z2 : w.heap.size + 1 < w1.heap.size := hz1 _ (by simp only [World.size_alloc, World.size_setCell]; omega))
  go_rounds 4
  refine bodyPost_ret (v := .agg #[.int .i64 2, .int .i64 (2 + 2 * c.nodes), .int .i64 (2 + 2 * c.nodes + c.slots), .int .i64 (2 + 2 * c.nodes + c.slots + c.holders)]) (by simp [results, Try.results77, go_sem, hc1, z2]) rfl ⟨rfl, ?_⟩
  go_grown

theorem begins_bad (c : Cfg) (w : World) (h : c.ok = false) :
    Calls Try.prog 77 #[.agg #[.int .i64 c.nodes, .int .i64 c.slots, .int .i64 c.holders, .int .u32 c.tag]] w fun e w' =>
      e = .returned (.agg #[.int .i64 0, .int .i64 0, .int .i64 0, .int .i64 0]) ∧ Below w.heap.size w w' := by
  have H := hid h
  clear h
  go_enter Try.func77, Try.ntmps77
  go_wp2_with (go_at_call 53; refine (check_calls c _).mono ?_; rw [chk_bad H.out]; rintro e w1 ⟨rfl, hb1⟩; obtain ⟨hc1, hf1, hz1⟩ := bcell hb1; have hB1 : Below w.heap.size w w1 := below_step (by go_grown) hb1; have z1 : w.heap.size < w1.heap.size := hz1 _ (by simp only [World.size_alloc, World.size_setCell]; omega); have z2 : w.heap.size + 1 < w1.heap.size := hz1 _ (by simp only [World.size_alloc, World.size_setCell]; omega))
  refine bodyPost_ret (v := .agg #[.int .i64 0, .int .i64 0, .int .i64 0, .int .i64 0]) (by simp [results, Try.results77, go_sem, hc1]) rfl ⟨rfl, ?_⟩
  go_grown
end Go.Proofs.Ytkilpnfgpepfmaa
