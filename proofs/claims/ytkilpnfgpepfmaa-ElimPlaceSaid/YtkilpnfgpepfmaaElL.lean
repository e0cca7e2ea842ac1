/- The steps of a visit of the array, one by one (plain). -/
import Derived.Test.YtkilpnfgpepfmaaNoneP
import Derived.Test.YtkilpnfgpepfmaaExL
set_option linter.unusedSimpArgs false
set_option linter.unusedVariables false
set_option linter.unusedSectionVars false
open Go Go.RowKit Hat
namespace Go.Proofs.Ytkilpnfgpepfmaa
set_option maxRecDepth 100000
theorem el_first {x : El} {m m' : Mem} {r r' : Src} {d o : Int} {v' : Ex} (h0 : x.ended = 0) (hv : x.v = none) (hc : x.c.ok = true) (hs : x.c.slots ≠ 0) (hr : x.s.right x.c.slots = true)
    (hd : r.draw x.s.range = (d, r')) (he : (Ex.new (x.c.slot d) x.push x.i (deadline r'.now x.wait) (x.s.polls x.base)).step m r'.now = ((0, o), v', m')) :
    x.step m r = ((0, o), { x with place := x.c.slot d, v := some v' }, m', r') := by
  have e : r'.now = r.now := by
    unfold Src.draw at hd
    split at hd
    · injection hd with _ h; rw [← h]
    · split at hd <;> (injection hd with _ h; rw [← h])
  cases x
  simp only at h0 hv hc hs hr hd he
  subst h0 hv
  simp [El.step, hc, hs, hr, El.begun, hd, El.does, he]
theorem el_on {x : El} {m m' : Mem} {r : Src} {o : Int} {v v' : Ex} (h0 : x.ended = 0) (hv : x.v = some v) (he : v.step m r.now = ((0, o), v', m')) :
    x.step m r = ((0, o), { x with v := some v' }, m', r) := by
  cases x
  simp only at h0 hv
  subst h0 hv
  simp [El.step, El.does, he]
theorem el_end {x : El} {m m' : Mem} {r : Src} {o st : Int} {v v' : Ex} (h0 : x.ended = 0) (hv : x.v = some v) (he : v.step m r.now = ((st, o), v', m')) (hst : st ≠ 0) :
    x.step m r = ((st, o), { x with v := some v', ended := st, s := x.s.after x.c.slots st }, m', r) := by
  cases x
  simp only at h0 hv
  subst h0 hv
  simp [El.step, El.does, he, hst]
theorem slots0 : ((List.range 17).all fun n => (List.range 16).all fun k => !(decide (k < n)) || (decide ((cN n).slot k = 8 + k) && decide ((fresh (cN n)).length = 8 + n) && decide ((fresh (cN n)).getD (8 + k) 0 = 0))) = true := by decide +kernel
theorem slots1 {n k : Nat} (hn : n ≤ 16) (hk : k < n) : (cN n).slot k = 8 + k ∧ (fresh (cN n)).length = 8 + n ∧ (fresh (cN n)).getD (8 + k) 0 = 0 := by
  have h := slots0
  simp only [List.all_eq_true, List.mem_range] at h
  have h := h n (by omega) k (by omega)
  have e1 : decide (k < n) = true := by simp; omega
  rw [e1] at h
  simpa [and_assoc] using h
end Go.Proofs.Ytkilpnfgpepfmaa
