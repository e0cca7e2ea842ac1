/- exchange: a step of a visit, whole; whether it met. -/
import Derived.Test.YtkilpnfgpepfmaaExE
set_option linter.unusedSimpArgs false
set_option linter.unusedVariables false
set_option linter.unusedSectionVars false
open Go Go.RowKit Hat
namespace Go.Proofs.Ytkilpnfgpepfmaa
set_option maxHeartbeats 2000000
set_option maxRecDepth 100000

theorem ex_step (t p tm pm : Nat) (x : Ex) (m : Mem) (now : Int) (w : World) (ow : Nat → Nat) (h : IsEx t p x w ow) (hm : IsMem tm pm m w ow)
    (hd : t < tm ∨ tm + 2 < t) (hn : m.ns.length < 1000000000) (hlk : -8000000000000000000 ≤ x.looks) :
    Calls Try.prog 55 #[.pointer (some ⟨p, 0, none⟩), .pointer (some ⟨pm, 0, none⟩), .int .u64 now] w
      (Post [t, tm, tm + 1, tm + 2] w ow (.tuple #[.int .i64 (x.step m now).1.1, .int .u32 (x.step m now).1.2]) (fun w' ow' => IsEx t p (x.step m now).2.1 w' ow' ∧ IsMem tm pm (x.step m now).2.2 w' ow')) := by
  by_cases hst : x.st = 0
  · have hs : x.step m now = ((x.go m now).1.tells, (x.go m now).1, (x.go m now).2) := by simp [Ex.step, hst]
    rw [hs]
    unfold IsEx at h
    rw [hst] at h
    obtain ⟨hop, hwf, nv, hb, hnx⟩ := id h
    rcases hnx with hx | hx | hx | hx | hx | hx | hx
    · exact absurd hst hx
    · exact step_pc0 t p tm pm x m now w ow h hm hx.1 hst hd hn hlk
    · exact step_pc1 t p tm pm x m now w ow h hm hx.1 hst hd hn hlk
    · exact step_pc2 t p tm pm x m now w ow h hm hx.1 hst hd hn hlk
    · exact step_pc3 t p tm pm x m now w ow h hm hx.1 hst hd hn hlk
    · exact step_pc4 t p tm pm x m now w ow h hm hx.1 hst hd hn hlk
    · exact step_pc5 t p tm pm x m now w ow h hm hx.1 hst hd hn hlk
  · have hs : x.step m now = (x.tells, x, m) := by simp [Ex.step, hst]
    rw [hs]
    obtain ⟨hop, hwf, nv, hb, hnx⟩ := id h
    obtain ⟨hcp, hfp, hpl⟩ := hb.all
    have H := hid (And.intro h hm)
    have e0 : (x.st == 0) = false := by simp [hst]
    clear h hm hb hwf hnx
    by_cases h1 : x.st = 1
    · have e1 : (x.st != 1) = false := by simp [h1]
      cases hpu : x.push with
      | true =>
        rw [show x.tells = (x.st, 0) from by simp [Ex.tells, h1, hpu]]
        clear h1 hst
        go_enter Try.func55, Try.ntmps55
        go_wp2
        go_ret2
        exact Post.mk rfl ow (Fr.refl _ _ _) H.out
      | false =>
        rw [show x.tells = (x.st, x.i) from by simp [Ex.tells, h1, hpu]]
        clear h1 hst
        go_enter Try.func55, Try.ntmps55
        go_wp2
        go_quiet (fail)
        go_wp2
        go_ret2
        exact Post.mk rfl ow ((Fr.refl _ _ _).drewN _) H.out
    · have e1 : (x.st != 1) = true := by simp [h1]
      rw [show x.tells = (x.st, 0) from by simp [Ex.tells, h1]]
      clear h1 hst
      go_enter Try.func55, Try.ntmps55
      go_wp2
      go_ret2
      exact Post.mk rfl ow (Fr.refl _ _ _) H.out

theorem ex_met (t p g : Nat) (x : Ex) (ws : List Int) (v : Value) (w : World) (ow : Nat → Nat) (h : IsEx t p x w ow) (hv : Sl g 22 1 v (u64s ws) w ow) (h0 : x.offered = true → 0 ≤ x.at_) :
    Calls Try.prog 60 #[.pointer (some ⟨p, 0, none⟩), v] w fun e w' => e = .returned (.bool (x.met ws)) ∧ ∃ n, w' = w.drewN n := by
  obtain ⟨hop, hwf, nv, hb, hnx⟩ := h
  obtain ⟨hcp, hfp, hpl⟩ := hb.all
  clear hb hwf hnx
  by_cases hst : x.st = 0
  · have e0 : (x.st != 0) = false := by simp [hst]
    have e1 : (x.st == 1) = false := by simp [hst]
    cases hof : x.offered with
    | false =>
      rw [show x.met ws = false from by simp [Ex.met, hst, hof]]
      clear hst h0
      go_enter Try.func60, Try.ntmps60
      go_wp2
      go_ret
      exact ⟨rfl, 0, rfl⟩
    | true =>
      have ha := h0 hof
      obtain ⟨k, hk⟩ := Int.eq_ofNat_of_zero_le ha
      by_cases hlt : k < ws.length
      · obtain ⟨b, n, c, rfl, hl, hob, hbl, hcb, hfb⟩ := hv.cells (by intro e; have := congrArg List.length e; simp [u64s] at this; rw [this] at hlt; simp at hlt)
        have hn : n = ws.length := by simpa [length_u64s] using hl.symm
        subst hn
        have hcell := hcb k _ (u64s_get ws k hlt)
        rw [show x.met ws = (ws.getD k 0 != x.w) from by
          simp only [Ex.met, hst, hof]
          rw [if_neg (by simp), hk]
          have : (k : Int) < ws.length := by omega
          rw [Bool.eq_iff_iff]; simp [this]]
        generalize ws.getD k 0 = y at *
        have d1 : decide (x.at_ < (ws.length : Int)) = true := by simp; omega
        have d2 : (0 : Int) ≤ x.at_ := ha
        have d3 : x.at_ < (ws.length : Int) := by omega
        rw [hk] at hcp d1 d2 d3
        rw [hof] at hcp
        clear hst h0 hcb hv hk hl ha hof
        go_enter Try.func60, Try.ntmps60
        go_wp2
        go_quiet (fail)
        go_wp2
        go_ret
        exact ⟨rfl, _, rfl⟩
      · obtain ⟨a, n, c, rfl, hl⟩ := hv.form
        have hn : n = ws.length := by simpa [length_u64s] using hl.symm
        subst hn
        rw [show x.met ws = false from by
          simp only [Ex.met, hst, hof]
          rw [if_neg (by simp), hk]
          have : ¬ (k : Int) < ws.length := by omega
          simp [this]]
        have d1 : decide (x.at_ < (ws.length : Int)) = false := by simp; omega
        rw [hof] at hcp
        clear hst h0 hv hl ha hof hk
        go_enter Try.func60, Try.ntmps60
        go_wp2
        go_quiet (fail)
        go_wp2
        go_ret
        exact ⟨rfl, _, rfl⟩
  · have e0 : (x.st != 0) = true := by simp [hst]
    rw [show x.met ws = (x.st == 1) from by simp only [Ex.met]; rw [if_pos (.inl hst)]; rw [Bool.eq_iff_iff]; simp]
    clear hst h0
    go_enter Try.func60, Try.ntmps60
    go_wp2
    go_ret
    exact ⟨rfl, 0, rfl⟩
end Go.Proofs.Ytkilpnfgpepfmaa
