/- exchange: a visit's swap. -/
import Derived.Test.YtkilpnfgpepfmaaExA
set_option linter.unusedSimpArgs false
set_option linter.unusedVariables false
set_option linter.unusedSectionVars false
open Go Go.RowKit Hat
namespace Go.Proofs.Ytkilpnfgpepfmaa
set_option maxHeartbeats 2000000
set_option maxRecDepth 100000

theorem swap_err (m : Mem) (a o v : Int) : ((m.swap a o v).1.2 = 0) ∨ ((m.swap a o v).1.2 = 2) := by
  unfold Mem.swap; split
  · split <;> simp
  · simp
/-- What a visit's swap comes to. -/
def swapped (r : (Bool × Int) × Mem) (yes no : Int) : Int := if r.1.2 ≠ 0 then 5 else if r.1.1 = true then yes else no
theorem exswap_calls (t p tm pm : Nat) (x : Ex) (s : Int) (m : Mem) (nw yes no : Int) (w : World) (ow : Nat → Nat) (h : IsExS t p x s w ow) (hm : IsMem tm pm m w ow)
    (hn : m.ns.length < 1000000000) (h0 : 0 ≤ nw) (h1 : nw < 18446744073709551616) :
    Calls Try.prog 101 #[.pointer (some ⟨p, 0, none⟩), .pointer (some ⟨pm, 0, none⟩), .int .u64 nw, .int .i64 yes, .int .i64 no] w
      (Post [tm, tm + 1, tm + 2] w ow (.int .i64 (swapped (m.swap x.at_ x.w nw) yes no)) (IsMem tm pm (m.swap x.at_ x.w nw).2)) := by
  obtain ⟨hop, hwf, nv, hb, hnx⟩ := h
  have HM : ∀ n, IsMem tm pm m (w.drewN n) ow := fun n => Locl.keep IsMem.loc hm (us := []) ((Fr.refl _ _ _).drewN _) (by simp)
  have HL := fun n => swap_calls tm pm m x.at_ x.w nw (w.drewN n) ow (HM n) hn h0 h1
  clear HM hm
  have herr := swap_err m x.at_ x.w nw
  generalize m.swap x.at_ x.w nw = r at *
  obtain ⟨⟨hit, er⟩, m1⟩ := r
  dsimp only at *
  obtain ⟨hcp, hfp, hpl⟩ := hb.all
  have HL' := hid HL
  clear HL hb hwf hnx
  rcases herr with he | he
  · subst he
    cases hit with
    | true =>
      rw [show swapped ((true, 0), m1) yes no = yes from rfl]
      go_enter Try.func101, Try.ntmps101
      go_wp2
      go_region_with (go_at_call 107; refine (HL'.out 1).mono ?_; rintro e w1 ⟨rfl, ow1, hf1, hm1⟩)
      all_goals
        go_wp2
        go_ret
        exact Post.mk rfl ow1 (((Fr.refl _ _ _).drewN 1).trans hf1 (by simp)) hm1
    | false =>
      rw [show swapped ((false, 0), m1) yes no = no from rfl]
      go_enter Try.func101, Try.ntmps101
      go_wp2
      go_region_with (go_at_call 107; refine (HL'.out 1).mono ?_; rintro e w1 ⟨rfl, ow1, hf1, hm1⟩)
      all_goals
        go_wp2
        go_ret
        exact Post.mk rfl ow1 (((Fr.refl _ _ _).drewN 1).trans hf1 (by simp)) hm1
  · subst he
    rw [show swapped ((hit, 2), m1) yes no = 5 from rfl]
    go_enter Try.func101, Try.ntmps101
    go_wp2
    go_region_with (go_at_call 107; refine (HL'.out 1).mono ?_; rintro e w1 ⟨rfl, ow1, hf1, hm1⟩)
    all_goals
      go_wp2
      go_ret
      exact Post.mk rfl ow1 (((Fr.refl _ _ _).drewN 1).trans hf1 (by simp)) hm1
end Go.Proofs.Ytkilpnfgpepfmaa
