/- hatstandlaw12.ElimNone: the plain law. -/
import Derived.Test.YtkilpnfgpepfmaaShown
set_option linter.unusedSimpArgs false
set_option linter.unusedVariables false
set_option linter.unusedSectionVars false
open Go Go.RowKit Hat
namespace Go.Proofs.Ytkilpnfgpepfmaa
set_option maxHeartbeats 2000000
set_option maxRecDepth 100000

def cN (n : Int) : Cfg := ⟨3, n, 0, 0⟩
theorem cN_ok {n : Int} (h0 : 0 ≤ n) (h1 : n ≤ 16) : (cN n).ok = true := by simp [Cfg.ok, cN]; omega
def nt0 (n R E : Int) (push : Bool) : Trio := (El.new (cN n) ⟨R, E⟩ push 1 3 2, ⟨fresh (cN n), []⟩, ⟨0, [3]⟩)
def nt1 (n R E : Int) (push : Bool) : Trio := ({ El.new (cN n) ⟨R, E⟩ push 1 3 2 with ended := 2 }, ⟨fresh (cN n), []⟩, ⟨0, [3]⟩)
theorem none_bad {n R E : Int} {push : Bool} (h : n = 0 ∨ Pol.right ⟨R, E⟩ n = false) :
    (nt0 n R E push).1.step (nt0 n R E push).2.1 (nt0 n R E push).2.2 = ((2, 0), nt1 n R E push) := by
  rcases h with h | h
  · subst h
    simp [nt0, nt1, El.step, El.new, cN]
    rfl
  · simp [nt0, nt1, El.step, El.new, cN, h]
    rfl
theorem none_bad2 {n R E : Int} {push : Bool} :
    (nt1 n R E push).1.step (nt1 n R E push).2.1 (nt1 n R E push).2.2 = ((2, 0), nt1 n R E push) := by
  simp [nt1, El.step, El.new]
  rfl
def goodAt (n R E : Nat) (push : Bool) : Bool :=
  let s := nt0 n R E push
  decide (s.st = 0) && decide (s.step.2.1.ns.length = 1) && decide (s.step.2.2.draws.length = 0)
theorem goodAll : ((List.range 17).all fun n => (List.range 17).all fun R => (List.range 7).all fun E => [true, false].all fun push => !(decide (1 ≤ R) && decide (R ≤ n)) || goodAt n R E push) = true := by decide +kernel
theorem none_good {n R E : Int} {push : Bool} (h0 : 1 ≤ R) (h1 : R ≤ n) (h2 : n ≤ 16) (h3 : 0 ≤ E) (h4 : E ≤ 6) :
    (nt0 n R E push).st = 0 ∧ (nt0 n R E push).step.2.1.ns.length = 1 ∧ (nt0 n R E push).step.2.2.draws.length = 0 := by
  obtain ⟨a, rfl⟩ := Int.eq_ofNat_of_zero_le (show 0 ≤ n by omega)
  obtain ⟨b, rfl⟩ := Int.eq_ofNat_of_zero_le (show 0 ≤ R by omega)
  obtain ⟨c, rfl⟩ := Int.eq_ofNat_of_zero_le (show 0 ≤ E by omega)
  have h := goodAll
  simp only [List.all_eq_true, List.mem_range] at h
  have := h a (by omega) b (by omega) c (by omega) push (by cases push <;> simp)
  have e1 : decide (1 ≤ b) = true := by simp; omega
  have e2 : decide (b ≤ a) = true := by simp; omega
  rw [e1, e2] at this
  simpa [goodAt, and_assoc] using this
end Go.Proofs.Ytkilpnfgpepfmaa
