/- hatstandlaw12: begun, pick. -/
import Derived.Test.YtkilpnfgpepfmaaFresh
set_option linter.unusedSimpArgs false
set_option linter.unusedVariables false
set_option linter.unusedSectionVars false
open Go Go.RowKit Hat
namespace Go.Proofs.Ytkilpnfgpepfmaa
set_option maxHeartbeats 2000000
set_option maxRecDepth 100000

theorem all_set {P : Int → Prop} {l : List Int} (h : ∀ x ∈ l, P x) (k : Nat) (y : Int) (hy : P y) : ∀ x ∈ l.set k y, P x := by
  intro x hx
  rcases List.mem_or_eq_of_mem_set hx with h1 | h1
  · exact h x h1
  · exact h1 ▸ hy
theorem fresh_bd (c : Cfg) (h : c.ok = true) (t0 : 0 ≤ c.tag) (t1 : c.tag < 4294967296) : ∀ x ∈ fresh c, 0 ≤ x ∧ x < 18446744073709551616 := by
  obtain ⟨n1, n2, s1, s2, g1, g2⟩ := (ok_iff c).1 h
  have p0 : 0 ≤ pword 0 c.tag ∧ pword 0 c.tag < 18446744073709551616 := by unfold pword; omega
  have p1 : 0 ≤ pword 1 c.tag ∧ pword 1 c.tag < 18446744073709551616 := by unfold pword; omega
  have b0 : ∀ x ∈ f0 c, 0 ≤ x ∧ x < 18446744073709551616 := by
    unfold f0
    refine all_set (all_set ?_ _ _ p0) _ _ p1
    intro x hx
    rw [List.eq_of_mem_replicate hx]
    omega
  have b1 : ∀ k : Nat, k < 1000 → ∀ x ∈ f1 c k, 0 ≤ x ∧ x < 18446744073709551616 := by
    intro k
    induction k with
    | zero => exact fun _ => b0
    | succ k ih => exact fun hk => all_set (ih (by omega)) _ _ (by omega)
  have b2 : ∀ k : Nat, ∀ x ∈ f2 c k, 0 ≤ x ∧ x < 18446744073709551616 := by
    intro k
    induction k with
    | zero => exact b1 _ (by omega)
    | succ k ih => exact all_set ih _ _ p0
  exact b2 _
theorem fresh_len (c : Cfg) (h : c.ok = true) : (fresh c).length ≤ 1024 := by
  obtain ⟨n1, n2, s1, s2, g1, g2⟩ := (ok_iff c).1 h
  unfold fresh
  rw [f2_len]
  unfold Cfg.cells
  rw [if_pos h]
  omega

theorem begun_calls (c : Cfg) (h : c.ok = true) (t0 : 0 ≤ c.tag) (t1 : c.tag < 4294967296) (t : Nat) (w : World) (ow : Nat → Nat) :
    Calls Try.prog 13 #[.agg #[.int .i64 c.nodes, .int .i64 c.slots, .int .i64 c.holders, .int .u32 c.tag]] w fun e w' =>
      ∃ p, Post [] w ow (.pointer (some ⟨p, 0, none⟩)) (IsMem t p ⟨fresh c, []⟩) e w' := by
  go_enter Try.func13, Try.ntmps13
  go_wp2_with (first
    | (go_at_call 46
       refine (fresh_ok c h t0 t1 0 _ ow).mono ?_
       rintro e w1 ⟨v1, rfl, ow1, hf1, hs1⟩
       have hr1 := hs1.rd
       have HF1 := hid ((Fr.refl [] w ow).alloc0 _ |>.trans hf1 (by simp))
       clear hf1)
    | (go_at_call 29
       refine (wnew_ok t _ (fresh c) _ ow1 hr1 (fresh_bd c h t0 t1) (fresh_len c h)).mono ?_
       rintro e w2 ⟨p, rfl, ow2, hf2, hm2⟩
       have HF2 := hid (HF1.out.trans hf2 (by simp))
       have HM2 := hid hm2
       clear hf2 hm2))
  go_ret
  exact ⟨_, Post.mk rfl ow2 HF2.out HM2.out⟩

def pick (c n : Int) : Int := if c < 0 then (-(c + 1)) % n else c % n
theorem pick_range (c n : Int) (h : 0 < n) : 0 ≤ pick c n ∧ pick c n < n := by
  unfold pick
  split
  · exact ⟨Int.emod_nonneg _ (by omega), Int.emod_lt_of_pos _ h⟩
  · exact ⟨Int.emod_nonneg _ (by omega), Int.emod_lt_of_pos _ h⟩
theorem pick_calls (c n : Int) (w : World) (c0 : -9223372036854775808 ≤ c) (c1 : c < 9223372036854775808) (n0 : 0 < n) (n1 : n < 9223372036854775808) :
    Calls Try.prog 21 #[.int .i64 c, .int .i64 n] w fun e w' => e = .returned (.int .i64 (pick c n)) ∧ w = w' := by
  have hn : (n == 0) = false := by simp; omega
  have hn2 : ¬ n = 0 := by omega
  have tm : ∀ x : Int, 0 ≤ x → Int.tmod x n = x % n := fun x hx => Int.tmod_eq_emod_of_nonneg hx
  by_cases h : c < 0
  · have e : pick c n = Int.tmod (-(c + 1)) n := by unfold pick; rw [if_pos h, tm _ (by omega)]
    have := pick_range c n n0
    rw [e] at *
    go_enter Try.func21, Try.ntmps21
    go_wp2
    go_ret
    exact ⟨rfl, rfl⟩
  · have e : pick c n = Int.tmod c n := by unfold pick; rw [if_neg h, tm _ (by omega)]
    have := pick_range c n n0
    rw [e] at *
    go_enter Try.func21, Try.ntmps21
    go_wp2
    go_ret
    exact ⟨rfl, rfl⟩
end Go.Proofs.Ytkilpnfgpepfmaa
