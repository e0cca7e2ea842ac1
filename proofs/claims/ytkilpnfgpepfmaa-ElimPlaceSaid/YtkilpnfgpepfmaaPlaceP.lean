/- hatstandlaw12.ElimPlace: the plain law. -/
import Derived.Test.YtkilpnfgpepfmaaPairP
set_option linter.unusedSimpArgs false
set_option linter.unusedVariables false
set_option linter.unusedSectionVars false
open Go Go.RowKit Hat
namespace Go.Proofs.Ytkilpnfgpepfmaa
set_option maxRecDepth 100000
/-- ElimPlace's config. -/
def cP (n : Int) : Cfg := ⟨3, n, 0, 5⟩
theorem cP_ok {n : Int} (h0 : 0 ≤ n) (h1 : n ≤ 16) : (cP n).ok = true := by simp [Cfg.ok, cP]; omega
def exIt (s : Ex × Mem) (now : Int) : Nat → Ex × Mem
  | 0 => s
  | j + 1 => ((exIt s now j).1.step (exIt s now j).2 now).2
def exSt (s : Ex × Mem) (now : Int) (j : Nat) : Int := ((exIt s now j).1.step (exIt s now j).2 now).1.1
def pl0 (n p : Nat) (push : Bool) : Ex × Mem := (Ex.new (8 + p) push 1 2 3, ⟨fresh (cP n), []⟩)
def placeAt (n p : Nat) (push : Bool) : Bool :=
  decide ((cP n).slot p = 8 + p) && decide ((fresh (cP n)).length = 8 + n) &&
  ((List.range 5).all fun j => decide (exSt (pl0 n p push) 0 j = 0) && decide ((exIt (pl0 n p push) 0 (j + 1)).1.looks ≥ 0) && decide ((exIt (pl0 n p push) 0 (j + 1)).2.ns.length < 9)) &&
  decide (exSt (pl0 n p push) 0 5 = 4) &&
  decide ((exIt (pl0 n p push) 0 6).2.ns.length = 6) && ((exIt (pl0 n p push) 0 6).2.ns.all fun x => decide (x.at_ = 8 + p)) &&
  decide ((exIt (pl0 n p push) 0 6).2.ws.length = 8 + n) && decide ((exIt (pl0 n p push) 0 6).2.ws.getD (8 + p) 0 = sword 0 0 6)
theorem place0 : ((List.range 17).all fun n => (List.range 16).all fun p => [true, false].all fun b => !(decide (p < n)) || placeAt n p b) = true := by decide +kernel
theorem place1 {n p : Nat} {push : Bool} (hn : n ≤ 16) (hp : p < n) : placeAt n p push = true := by
  have h := place0
  simp only [List.all_eq_true, List.mem_range] at h
  have h := h n (by omega) p (by omega) push (by cases push <;> simp)
  have e1 : decide (p < n) = true := by simp; omega
  rw [e1] at h
  simpa using h

def plv (n : Nat) (k : Nat) (push : Bool) (p : Nat) (e : Ex) : El := { El.new (cP n) ⟨k, 0⟩ push 1 3 2 with place := 8 + p, v := some e }
def plT (n k : Nat) (push : Bool) (ds : List Int) : Trio := (El.new (cP n) ⟨k, 0⟩ push 1 3 2, ⟨fresh (cP n), []⟩, ⟨0, ds⟩)
section
variable {n k p : Nat} {push : Bool} {ds : List Int} (hn : n ≤ 16) (hk : k ≤ n) (hk0 : 0 < k) (hp : p < k) (hd : (⟨0, ds⟩ : Src).draw k = ((p : Int), ⟨0, []⟩))
include hn hk hk0 hp hd
theorem pl_iter (j : Nat) (hj : j < 5) : ((plT n k push ds).iter j).st = 0 ∧ (plT n k push ds).iter (j + 1) = (plv n k push p (exIt (pl0 n p push) 0 (j + 1)).1, (exIt (pl0 n p push) 0 (j + 1)).2, ⟨0, []⟩) := by
  have h := place1 (push := push) hn (show p < n by omega)
  simp only [placeAt, Bool.and_eq_true, decide_eq_true_eq, List.all_eq_true, List.mem_range] at h
  obtain ⟨⟨⟨⟨⟨⟨⟨h1, h2⟩, h3⟩, h4⟩, h5⟩, h6⟩, h7⟩, h8⟩ := h
  induction j with
  | zero =>
    have h3 := (h3 0 (by omega)).1.1
    have e := el_first (x := El.new (cP n) ⟨k, 0⟩ push 1 3 2) (m := ⟨fresh (cP n), []⟩) (r := ⟨0, ds⟩) (d := (p : Int)) (r' := ⟨0, []⟩) (o := ((exIt (pl0 n p push) 0 0).1.step (exIt (pl0 n p push) 0 0).2 0).1.2)
      (v' := (exIt (pl0 n p push) 0 1).1) (m' := (exIt (pl0 n p push) 0 1).2) rfl rfl (cP_ok (n := (n : Int)) (by omega) (by omega)) (by simp [El.new, cP]; omega)
      (by simp [El.new, cP, Pol.right, show ¬ (n = 0) by omega]; omega) hd (by
        have e1 : (El.new (cP n) ⟨k, 0⟩ push 1 3 2).c.slot p = 8 + p := h1
        rw [e1]
        have e2 : (Ex.new (8 + (p : Int)) (El.new (cP n) ⟨k, 0⟩ push 1 3 2).push (El.new (cP n) ⟨k, 0⟩ push 1 3 2).i (deadline (⟨0, []⟩ : Src).now (El.new (cP n) ⟨k, 0⟩ push 1 3 2).wait) ((El.new (cP n) ⟨k, 0⟩ push 1 3 2).s.polls (El.new (cP n) ⟨k, 0⟩ push 1 3 2).base)) = Ex.new (8 + (p : Int)) push 1 2 3 := rfl
        rw [e2]
        refine Prod.ext (Prod.ext h3 rfl) rfl)
    refine ⟨congrArg (fun q => q.1.1) e, (Trio.step_eq e).trans ?_⟩
    have e1 : (El.new (cP n) ⟨k, 0⟩ push 1 3 2).c.slot p = 8 + p := h1
    rw [e1]
    rfl
  | succ j ih =>
    have h3 := (h3 (j + 1) (by omega)).1.1
    show ((plT n k push ds).iter (j + 1)).st = 0 ∧ Trio.step ((plT n k push ds).iter (j + 1)) = _
    rw [(ih (by omega)).2]
    have e := el_on (x := plv n k push p (exIt (pl0 n p push) 0 (j + 1)).1) (m := (exIt (pl0 n p push) 0 (j + 1)).2) (r := ⟨0, []⟩) (v := (exIt (pl0 n p push) 0 (j + 1)).1)
      (o := ((exIt (pl0 n p push) 0 (j + 1)).1.step (exIt (pl0 n p push) 0 (j + 1)).2 0).1.2) (v' := (exIt (pl0 n p push) 0 (j + 1 + 1)).1) (m' := (exIt (pl0 n p push) 0 (j + 1 + 1)).2) rfl rfl
      (Prod.ext (Prod.ext h3 rfl) rfl)
    exact ⟨congrArg (fun q => q.1.1) e, Trio.step_eq e⟩
theorem place_law :
    (∀ j, j < 5 → ((plT n k push ds).iter j).st = 0) ∧ (∀ j, j < 6 → ((plT n k push ds).iter j).fits = true) ∧ ((plT n k push ds).iter 5).st = 4 ∧
    ((plT n k push ds).iter 6).1.place = (cP n).slot p ∧ ((plT n k push ds).iter 6).2.2.draws = [] ∧ ((plT n k push ds).iter 6).2.1.ns.length = 6 ∧
    (∀ x ∈ ((plT n k push ds).iter 6).2.1.ns, x.at_ = (cP n).slot p) ∧ ((plT n k push ds).iter 6).2.1.ws.length = 8 + n ∧ (cP n).slot p = 8 + p ∧ ((plT n k push ds).iter 6).2.1.ws.getD (8 + p) 0 = sword 0 0 6 := by
  have hi := pl_iter (push := push) hn hk hk0 hp hd
  have h := place1 (push := push) hn (show p < n by omega)
  simp only [placeAt, Bool.and_eq_true, decide_eq_true_eq, List.all_eq_true, List.mem_range] at h
  obtain ⟨⟨⟨⟨⟨⟨⟨h1, h2⟩, h3⟩, h4⟩, h5⟩, h6⟩, h7⟩, h8⟩ := h
  have e5 := el_end (x := plv n k push p (exIt (pl0 n p push) 0 5).1) (m := (exIt (pl0 n p push) 0 5).2) (r := ⟨0, []⟩) (v := (exIt (pl0 n p push) 0 5).1) (st := 4)
      (o := ((exIt (pl0 n p push) 0 5).1.step (exIt (pl0 n p push) 0 5).2 0).1.2) (v' := (exIt (pl0 n p push) 0 6).1) (m' := (exIt (pl0 n p push) 0 6).2) rfl rfl
      (Prod.ext (Prod.ext h4 rfl) rfl) (by decide)
  have e6 := Trio.step_eq e5
  rw [← (hi 4 (by omega)).2] at e6
  have e6 := (show (plT n k push ds).iter 6 = Trio.step ((plT n k push ds).iter 5) from rfl).trans e6
  refine ⟨?_, ?_, ?_, ?_, ?_, ?_, ?_, ?_, h1, ?_⟩
  · exact fun j hj => (hi j hj).1
  · intro j hj
    rcases j with _ | j
    · rfl
    · rw [(hi j (by omega)).2]
      have := h3 j (by omega)
      simp [Trio.fits, plv]
      omega
  · rw [(hi 4 (by omega)).2]
    unfold Trio.st
    dsimp only
    rw [e5]
  · rw [e6, h1]; rfl
  · rw [e6]
  · rw [e6]; exact h5
  · rw [e6, h1]; exact h6
  · rw [e6]; exact h7
  · rw [e6]; exact h8
end
end Go.Proofs.Ytkilpnfgpepfmaa
