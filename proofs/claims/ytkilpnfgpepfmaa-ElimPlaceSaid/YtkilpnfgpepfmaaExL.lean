/- The steps of a visit at a slot, one by one (plain). -/
import Derived.Test.YtkilpnfgpepfmaaAm
set_option linter.unusedSimpArgs false
set_option linter.unusedVariables false
set_option linter.unusedSectionVars false
open Hat
namespace Go.Proofs.Ytkilpnfgpepfmaa

theorem ex_first (pl : Int) (push : Bool) (i dl P now : Int) (m : Mem) (hh : m.has pl = true) (hg : m.get pl = 0) :
    (Ex.new pl push i dl P).step m now = ((0, 0), ⟨pl, push, i, dl, max P 1, 0, 0, 2, 0, false⟩, { m with ns := m.ns ++ [⟨108, pl, 0, 0, true⟩] }) := by
  cases push <;> simp [Ex.step, Ex.new, Ex.go, Mem.load, hh, hg, meets, sstate, waits, Ex.tells]
theorem ex_offer (pl : Int) (push : Bool) (i dl P now : Int) (m : Mem) (hh : m.has pl = true) (hg : m.get pl = 0) :
    (⟨pl, push, i, dl, P, 0, 0, 2, 0, false⟩ : Ex).step m now = ((0, 0), ⟨pl, push, i, dl, P, (offer 0 push i).1, 0, 3, 0, true⟩, { ws := m.ws.set pl.toNat (offer 0 push i).1, ns := m.ns ++ [⟨99, pl, 0, (offer 0 push i).1, true⟩] }) := by
  simp [Ex.step, Ex.go, Mem.swap, hh, hg, Ex.tells]
theorem ex_look (pl : Int) (push : Bool) (i dl P now w : Int) (m : Mem) (hh : m.has pl = true) (hg : m.get pl = w) (hP : 1 < P) (hn : now < dl) :
    (⟨pl, push, i, dl, P, w, 0, 3, 0, true⟩ : Ex).step m now = ((0, 0), ⟨pl, push, i, dl, P - 1, w, 0, 3, 0, true⟩, { m with ns := m.ns ++ [⟨108, pl, w, w, true⟩] }) := by
  have h : ¬ (P - 1 ≤ 0 ∨ now ≥ dl) := by omega
  simp only [Ex.step, Ex.go, Mem.load, hh, hg, if_true]
  simp [Ex.tells, h]
theorem ex_meets (pl : Int) (push : Bool) (i dl P now w : Int) (m : Mem) (hh : m.has pl = true) (hg : m.get pl = w) (hm : meets w push = true) :
    (Ex.new pl push i dl P).step m now = ((0, 0), ⟨pl, push, i, dl, max P 1, w, 0, 1, 0, false⟩, { m with ns := m.ns ++ [⟨108, pl, w, w, true⟩] }) := by
  simp [Ex.step, Ex.new, Ex.go, Mem.load, hh, hg, hm, Ex.tells]
theorem ex_claim (pl : Int) (push : Bool) (i dl P now w : Int) (m : Mem) (hh : m.has pl = true) (hg : m.get pl = w) :
    (⟨pl, push, i, dl, P, w, 0, 1, 0, false⟩ : Ex).step m now = ((1, if push then 0 else sindex (claim w push i).1), ⟨pl, push, sindex (claim w push i).1, dl, P, w, 0, 1, 1, false⟩, { ws := m.ws.set pl.toNat (claim w push i).1, ns := m.ns ++ [⟨99, pl, w, (claim w push i).1, true⟩] }) := by
  cases push <;> simp [Ex.step, Ex.go, Mem.swap, hh, hg, Ex.tells]
theorem ex_found (pl : Int) (push : Bool) (i dl P now w u : Int) (m : Mem) (hh : m.has pl = true) (hg : m.get pl = u) (hne : u ≠ w) (h3 : sstate u = 3) (hs : sstamp u = sstamp w) :
    (⟨pl, push, i, dl, P, w, 0, 3, 0, true⟩ : Ex).step m now = ((0, 0), ⟨pl, push, sindex u, dl, P, w, u, 5, 0, true⟩, { m with ns := m.ns ++ [⟨108, pl, u, u, true⟩] }) := by
  simp [Ex.step, Ex.go, Mem.load, hh, hg, hne, h3, hs, Ex.tells]
theorem ex_clear (pl : Int) (push : Bool) (i dl P now w u : Int) (m : Mem) (hh : m.has pl = true) (hg : m.get pl = u) :
    (⟨pl, push, i, dl, P, w, u, 5, 0, true⟩ : Ex).step m now = ((1, if push then 0 else i), ⟨pl, push, i, dl, P, w, u, 5, 1, true⟩, { ws := m.ws.set pl.toNat (sclear u), ns := m.ns ++ [⟨115, pl, u, sclear u, true⟩] }) := by
  cases push <;> simp [Ex.step, Ex.go, Mem.store, hh, hg, Ex.tells]
end Go.Proofs.Ytkilpnfgpepfmaa
