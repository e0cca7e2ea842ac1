/- hatstandlaw12.ElimPair: the plain law. -/
import Derived.Test.YtkilpnfgpepfmaaElL
set_option linter.unusedSimpArgs false
set_option linter.unusedVariables false
set_option linter.unusedSectionVars false
open Go Go.RowKit Hat
namespace Go.Proofs.Ytkilpnfgpepfmaa
set_option maxRecDepth 100000
set_option linter.unusedSectionVars false
theorem Trio.step_eq {x : El} {m : Mem} {r : Src} {o : Int × Int} {y : Trio} (h : x.step m r = (o, y)) : Trio.step (x, m, r) = y := by unfold Trio.step; dsimp only; rw [h]
/-- The visits of ElimPair. -/
def pvA (n k : Nat) (pf : Bool) (node P w : Int) (pc : Nat) : El := ⟨cN n, ⟨n, 3⟩, pf, node, 8, 100, 8 + k, 0, some ⟨8 + k, pf, node, 100, P, w, 0, pc, 0, decide (pc = 3)⟩⟩
def pa0 (n k : Nat) (pf : Bool) (node : Int) : Trio := (El.new (cN n) ⟨n, 3⟩ pf node 8 100, ⟨fresh (cN n), []⟩, ⟨0, [(k : Int), (k : Int)]⟩)
def pb0 (n : Nat) (pf : Bool) (node : Int) : El := El.new (cN n) ⟨n, 2⟩ (!pf) node 8 100
def pW (pf : Bool) (node : Int) : Int := (offer 0 pf node).1
def pU (node : Int) : Int := sword 3 node 0
def pM (n k : Nat) (x : Int) (l : List Note) : Mem := ⟨(fresh (cN n)).set (8 + k) x, l⟩

theorem pM_has {n k : Nat} {x : Int} {l : List Note} (hn : n ≤ 16) (hk : k < n) : (pM n k x l).has (8 + k) = true := by
  have h := slots1 hn hk
  simp [Mem.has, pM, h.2.1]; omega
theorem pM_get {n k : Nat} {x : Int} {l : List Note} (hn : n ≤ 16) (hk : k < n) : (pM n k x l).get (8 + k) = x := by
  have h := slots1 hn hk
  unfold Mem.get pM
  have e : ((8 : Int) + k).toNat = 8 + k := by omega
  simp only [e]
  rw [List.getD_eq_getElem?_getD, List.getElem?_set_self (by omega)]
  rfl
theorem pM_set {n k : Nat} {x y : Int} {l : List Note} : (pM n k x l).ws.set ((8 : Int) + k).toNat y = (pM n k y l).ws := by
  unfold pM
  have e : ((8 : Int) + k).toNat = 8 + k := by omega
  simp only [e, List.set_set]
theorem pM_0 {n k : Nat} (hn : n ≤ 16) (hk : k < n) : (⟨fresh (cN n), []⟩ : Mem) = pM n k 0 [] := by
  have h := slots1 hn hk
  unfold pM
  congr 1
  apply List.ext_getElem?
  intro i
  rw [List.getElem?_set]
  split
  · rename_i hi
    subst hi
    have h3 := h.2.2
    rw [List.getD_eq_getElem?_getD] at h3
    have hl : 8 + k < (fresh (cN n)).length := by omega
    rw [if_pos hl]
    rw [List.getElem?_eq_getElem hl] at h3 ⊢
    simpa using h3
  · rfl
theorem pright {n : Nat} {e : Int} (h1 : n ≤ 16) (h0 : 0 < n) (he : 0 ≤ e ∧ e ≤ 6) : Pol.right ⟨n, e⟩ n = true := by
  simp [Pol.right, show ¬ (n = 0) by omega]; omega

section
variable {n k : Nat} {pf : Bool} {node : Int} (hn : n ≤ 16) (hk : k < n) (i0 : 0 ≤ node) (i1 : node < 1073741824)
include hn hk
theorem pa1 : (pa0 n k pf node).1.step (pa0 n k pf node).2.1 (pa0 n k pf node).2.2 = ((0, 0), pvA n k pf node 64 0 2, pM n k 0 [⟨108, 8 + k, 0, 0, true⟩], ⟨0, [(k : Int)]⟩) := by
  have h := slots1 hn hk
  have hd : (⟨0, [(k : Int), (k : Int)]⟩ : Src).draw n = ((k : Int), ⟨0, [(k : Int)]⟩) := by
    have : (k : Int) % n = k := Int.emod_eq_of_lt (by omega) (by omega)
    simp [Src.draw, show ¬ ((n : Int) < 1) by omega, this]
  have e := el_first (x := El.new (cN n) ⟨n, 3⟩ pf node 8 100) (m := pM n k 0 []) (r := ⟨0, [(k : Int), (k : Int)]⟩) (d := (k : Int)) rfl rfl (cN_ok (n := (n : Int)) (by omega) (by omega)) (by simp [El.new, cN]; omega)
    (pright hn (by omega) (by omega)) hd
    (by
      have h2 := ex_first (8 + k) pf node (deadline 0 100) 64 0 (pM n k 0 []) (pM_has hn hk) (pM_get hn hk)
      have e1 : (El.new (cN n) ⟨n, 3⟩ pf node 8 100).c.slot k = 8 + k := h.1
      have e2 : (El.new (cN n) ⟨n, 3⟩ pf node 8 100).s.polls (El.new (cN n) ⟨n, 3⟩ pf node 8 100).base = 64 := rfl
      rw [e1, e2]
      exact h2)
  rw [show (pa0 n k pf node).2.1 = pM n k 0 [] from pM_0 hn hk]
  refine e.trans ?_
  simp only [El.new, h.1, show (cN (n : Int)).slot k = 8 + k from h.1]
  rfl
theorem pa2 (l : List Note) (r : Src) : (pvA n k pf node 64 0 2).step (pM n k 0 l) r = ((0, 0), pvA n k pf node 64 (pW pf node) 3, pM n k (pW pf node) (l ++ [⟨99, 8 + k, 0, pW pf node, true⟩]), r) := by
  have h2 := ex_offer (8 + k) pf node 100 64 r.now (pM n k 0 l) (pM_has hn hk) (pM_get hn hk)
  rw [pM_set] at h2
  exact el_on (x := pvA n k pf node 64 0 2) rfl rfl h2
theorem pa3 (l : List Note) (r : Src) (P w : Int) (hP : 1 < P) (hr : r.now < 100) : (pvA n k pf node P w 3).step (pM n k w l) r = ((0, 0), pvA n k pf node (P - 1) w 3, pM n k w (l ++ [⟨108, 8 + k, w, w, true⟩]), r) := by
  have h2 := ex_look (8 + k) pf node 100 P r.now w (pM n k w l) (pM_has hn hk) (pM_get hn hk) hP hr
  exact el_on (x := pvA n k pf node P w 3) rfl rfl h2
/-- The words and notes behind so many steps of a. -/
theorem pa_iter (j : Nat) (hj : j ≤ 30) : ∃ l : List Note, l.length = 2 + j ∧ (pa0 n k pf node).iter (2 + j) = (pvA n k pf node (64 - j) (pW pf node) 3, pM n k (pW pf node) l, ⟨0, [(k : Int)]⟩) := by
  induction j with
  | zero =>
    refine ⟨[⟨108, 8 + k, 0, 0, true⟩] ++ [⟨99, 8 + k, 0, pW pf node, true⟩], rfl, ?_⟩
    show Trio.step (Trio.step (pa0 n k pf node)) = _
    unfold Trio.step
    rw [pa1 hn hk]
    dsimp only
    rw [pa2 hn hk]
    rfl
  | succ j ih =>
    obtain ⟨l, hl, e⟩ := ih (by omega)
    refine ⟨l ++ [⟨108, 8 + k, pW pf node, pW pf node, true⟩], by simp [hl]; omega, ?_⟩
    show Trio.step ((pa0 n k pf node).iter (2 + j)) = _
    rw [e]
    unfold Trio.step
    dsimp only
    rw [pa3 hn hk l _ _ _ (by omega) (by simp)]
    have : (64 : Int) - j - 1 = 64 - (j + 1 : Nat) := by omega
    rw [this]
theorem pa_fits (j : Nat) (hj : j < 32) : ((pa0 n k pf node).iter j).st = 0 ∧ ((pa0 n k pf node).iter j).fits = true := by
  rcases j with _ | _ | j
  · refine ⟨?_, rfl⟩
    show (Trio.st (pa0 n k pf node)) = 0
    unfold Trio.st
    rw [pa1 hn hk]
  · refine ⟨?_, ?_⟩
    · show (Trio.st (Trio.step (pa0 n k pf node))) = 0
      unfold Trio.st Trio.step
      rw [pa1 hn hk]
      dsimp only
      rw [pa2 hn hk]
    · show (Trio.fits (Trio.step (pa0 n k pf node))) = true
      unfold Trio.step
      rw [pa1 hn hk]
      rfl
  · obtain ⟨l, hl, e⟩ := pa_iter (pf := pf) (node := node) hn hk j (by omega)
    rw [show j + 1 + 1 = 2 + j by omega, e]
    refine ⟨?_, ?_⟩
    · unfold Trio.st
      rw [pa3 hn hk l _ _ _ (by omega) (by simp)]
    · have : (pM n k (pW pf node) l).ns.length = 2 + j := hl
      simp [Trio.fits, pvA, this]
      omega
def pvB (n k : Nat) (pf : Bool) (node w : Int) : El := ⟨cN n, ⟨n, 2⟩, !pf, node, 8, 100, 8 + k, 0, some ⟨8 + k, !pf, node, 100, 32, w, 0, 1, 0, false⟩⟩
def pvB2 (n k : Nat) (pf : Bool) (node w : Int) : El := ⟨cN n, ⟨n, 0⟩, !pf, node, 8, 100, 8 + k, 1, some ⟨8 + k, !pf, node, 100, 32, w, 0, 1, 1, false⟩⟩
theorem pb1 (l : List Note) : (pb0 n pf node).step (pM n k (pW pf node) l) ⟨0, [(k : Int)]⟩ = ((0, 0), pvB n k pf node (pW pf node), pM n k (pW pf node) (l ++ [⟨108, 8 + k, pW pf node, pW pf node, true⟩]), ⟨0, []⟩) := by
  have h := slots1 hn hk
  have hd : (⟨0, [(k : Int)]⟩ : Src).draw n = ((k : Int), ⟨0, []⟩) := by
    have : (k : Int) % n = k := Int.emod_eq_of_lt (by omega) (by omega)
    simp [Src.draw, show ¬ ((n : Int) < 1) by omega, this]
  have e := el_first (x := pb0 n pf node) (m := pM n k (pW pf node) l) (r := ⟨0, [(k : Int)]⟩) (d := (k : Int)) rfl rfl (cN_ok (n := (n : Int)) (by omega) (by omega)) (by simp [pb0, El.new, cN]; omega)
    (pright hn (by omega) (by omega)) hd
    (by
      have h2 := ex_meets (8 + k) (!pf) node (deadline 0 100) 32 0 (pW pf node) (pM n k (pW pf node) l) (pM_has hn hk) (pM_get hn hk) (by
        cases pf <;> simp [meets, pW, offer, sstate, sword, waits] <;> omega)
      have e1 : (pb0 n pf node).c.slot k = 8 + k := h.1
      have e2 : (pb0 n pf node).s.polls (pb0 n pf node).base = 32 := rfl
      rw [e1, e2]
      exact h2)
  refine e.trans ?_
  simp only [pb0, El.new, h.1, show (cN (n : Int)).slot k = 8 + k from h.1]
  rfl
include i0 i1
theorem pU_claim : (claim (pW pf node) (!pf) node).1 = pU node ∧ sindex (pU node) = node ∧ sstate (pU node) = 3 ∧ sstamp (pU node) = sstamp (pW pf node) ∧ pU node ≠ pW pf node := by
  have hm : meets (pW pf node) (!pf) = true := by cases pf <;> simp [meets, pW, offer, sstate, sword, waits] <;> omega
  refine ⟨?_, ?_, ?_, ?_, ?_⟩
  · unfold claim
    rw [if_pos hm]
    cases pf <;> simp [pW, offer, sstate, sword, waits, sindex, pU, sstamp] <;> omega
  · simp [pU, sindex, sword]; omega
  · simp [pU, sstate, sword]
  · cases pf <;> simp [pW, offer, sstate, sword, waits, pU, sstamp] <;> omega
  · cases pf <;> simp [pW, offer, sstate, sword, waits, pU] <;> omega
theorem pb2 (l : List Note) (r : Src) : (pvB n k pf node (pW pf node)).step (pM n k (pW pf node) l) r = ((1, if pf then node else 0), pvB2 n k pf node (pW pf node), pM n k (pU node) (l ++ [⟨99, 8 + k, pW pf node, pU node, true⟩]), r) := by
  have h2 := ex_claim (8 + k) (!pf) node 100 32 r.now (pW pf node) (pM n k (pW pf node) l) (pM_has hn hk) (pM_get hn hk)
  obtain ⟨c1, c2, c3, c4, c5⟩ := pU_claim (pf := pf) hn hk i0 i1
  rw [pM_set, c1, c2] at h2
  have e := el_end (x := pvB n k pf node (pW pf node)) rfl rfl h2 (by decide)
  rw [e]
  cases pf <;> rfl
def pvA5 (n k : Nat) (pf : Bool) (node P : Int) : El := ⟨cN n, ⟨n, 3⟩, pf, node, 8, 100, 8 + k, 0, some ⟨8 + k, pf, node, 100, P, pW pf node, pU node, 5, 0, true⟩⟩
def pvA6 (n k : Nat) (pf : Bool) (node P : Int) : El := ⟨cN n, ⟨n, 0⟩, pf, node, 8, 100, 8 + k, 1, some ⟨8 + k, pf, node, 100, P, pW pf node, pU node, 5, 1, true⟩⟩
theorem pa4 (l : List Note) (r : Src) (P : Int) : (pvA n k pf node P (pW pf node) 3).step (pM n k (pU node) l) r = ((0, 0), pvA5 n k pf node P, pM n k (pU node) (l ++ [⟨108, 8 + k, pU node, pU node, true⟩]), r) := by
  obtain ⟨c1, c2, c3, c4, c5⟩ := pU_claim (pf := pf) hn hk i0 i1
  have h2 := ex_found (8 + k) pf node 100 P r.now (pW pf node) (pU node) (pM n k (pU node) l) (pM_has hn hk) (pM_get hn hk) c5 c3 c4
  rw [c2] at h2
  exact el_on (x := pvA n k pf node P (pW pf node) 3) rfl rfl h2
omit i0 i1 in
theorem pa5 (l : List Note) (r : Src) (P : Int) : (pvA5 n k pf node P).step (pM n k (pU node) l) r = ((1, if pf then 0 else node), pvA6 n k pf node P, pM n k (sclear (pU node)) (l ++ [⟨115, 8 + k, pU node, sclear (pU node), true⟩]), r) := by
  have h2 := ex_clear (8 + k) pf node 100 P r.now (pW pf node) (pU node) (pM n k (pU node) l) (pM_has hn hk) (pM_get hn hk)
  rw [pM_set] at h2
  exact el_end (x := pvA5 n k pf node P) rfl rfl h2 (by decide)
/-- All of ElimPair: behind 2 + j steps of a. -/
theorem pair_law (j : Nat) (hj : j ≤ 30) :
    let s := (pa0 n k pf node).iter (2 + j)
    let t := Trio.step (pb0 n pf node, s.2)
    let u := Trio.step t
    let v := Trio.step (s.1, u.2)
    (Trio.st (pb0 n pf node, s.2) = 0 ∧ Trio.fits (pb0 n pf node, s.2) = true) ∧
    (t.1.step t.2.1 t.2.2).1 = (1, if pf then node else 0) ∧ t.fits = true ∧
    s.1.met u.2.1.ws = true ∧ u.1.met u.2.1.ws = true ∧
    (∀ e, s.1.v = some e → e.offered = true → 0 ≤ e.at_) ∧ (∀ e, u.1.v = some e → e.offered = true → 0 ≤ e.at_) ∧
    (Trio.st (s.1, u.2) = 0 ∧ Trio.fits (s.1, u.2) = true) ∧
    (v.1.step v.2.1 v.2.2).1 = (1, if pf then 0 else node) ∧ v.fits = true ∧
    v.step.1.s = ⟨n, 0⟩ ∧ u.1.s = ⟨n, 0⟩ := by
  obtain ⟨l, hl, e⟩ := pa_iter (pf := pf) (node := node) hn hk j (by omega)
  have hs := slots1 hn hk
  obtain ⟨c1, c2, c3, c4, c5⟩ := pU_claim (pf := pf) hn hk i0 i1
  simp only [e]
  have et := Trio.step_eq (pb1 (pf := pf) (node := node) hn hk l)
  have eu := pb2 (pf := pf) hn hk i0 i1 (l ++ [⟨108, 8 + k, pW pf node, pW pf node, true⟩]) ⟨0, []⟩
  have eu' := Trio.step_eq eu
  rw [et, eu']
  have ev := pa4 (pf := pf) hn hk i0 i1 ((l ++ [⟨108, 8 + k, pW pf node, pW pf node, true⟩]) ++ [⟨99, 8 + k, pW pf node, pU node, true⟩]) ⟨0, []⟩ (64 - j)
  have ev' := Trio.step_eq ev
  rw [ev']
  dsimp only
  have ez := pa5 (pf := pf) (node := node) hn hk (((l ++ [⟨108, 8 + k, pW pf node, pW pf node, true⟩]) ++ [⟨99, 8 + k, pW pf node, pU node, true⟩]) ++ [⟨108, 8 + k, pU node, pU node, true⟩]) ⟨0, []⟩ (64 - j)
  have hg : ∀ l', (pM n k (pU node) l').ws.getD (8 + k) 0 = pU node := fun l' => by
    have := pM_get (x := pU node) (l := l') hn hk
    unfold Mem.get at this
    rwa [show ((8 : Int) + k).toNat = 8 + k by omega] at this
  have hlen : ∀ l', (pM n k (pU node) l').ws.length = 8 + n := fun l' => by simp [pM, hs.2.1]
  refine ⟨⟨?_, ?_⟩, ?_, ?_, ?_, ?_, ?_, ?_, ⟨?_, ?_⟩, ?_, ?_, ?_, ?_⟩
  · unfold Trio.st; dsimp only; rw [pb1 hn hk]
  · have : (pM n k (pW pf node) l).ns.length = 2 + j := hl
    simp [Trio.fits, pb0, El.new, this]; omega
  · rw [eu]
  · simp [Trio.fits, pvB, pM, hl]; omega
  · simp only [El.met, pvA, Ex.met]
    rw [show ((8 : Int) + k).toNat = 8 + k by omega, hg, hlen]
    simp [c5]; omega
  · rfl
  · intro e1 h1 _; injection h1 with h1; subst h1; show (0 : Int) ≤ 8 + k; omega
  · intro e1 h1 _; injection h1 with h1; subst h1; show (0 : Int) ≤ 8 + k; omega
  · unfold Trio.st; dsimp only; rw [ev]
  · simp [Trio.fits, pvA, pM, hl]; omega
  · rw [ez]
  · simp [Trio.fits, pvA5, pM, hl]; omega
  · rw [Trio.step_eq ez]; rfl
  · rfl
/-- The states of ElimPair behind a's looks, b's first and second step, and a's next one. -/
def psS (n k : Nat) (pf : Bool) (node : Int) (j : Nat) : Trio := (pa0 n k pf node).iter (2 + j)
def ptS (n k : Nat) (pf : Bool) (node : Int) (j : Nat) : Trio := Trio.step (pb0 n pf node, (psS n k pf node j).2)
def puS (n k : Nat) (pf : Bool) (node : Int) (j : Nat) : Trio := (ptS n k pf node j).step
def pvS (n k : Nat) (pf : Bool) (node : Int) (j : Nat) : Trio := Trio.step ((psS n k pf node j).1, (puS n k pf node j).2)
structure PairLaw (n k : Nat) (pf : Bool) (node : Int) (j : Nat) : Prop where
  f1 : Trio.fits (pb0 n pf node, (psS n k pf node j).2) = true
  s1 : ((pb0 n pf node).step (psS n k pf node j).2.1 (psS n k pf node j).2.2).1 = (0, ((pb0 n pf node).step (psS n k pf node j).2.1 (psS n k pf node j).2.2).1.2)
  f2 : Trio.fits ((ptS n k pf node j).1, (ptS n k pf node j).2) = true
  s2 : ((ptS n k pf node j).1.step (ptS n k pf node j).2.1 (ptS n k pf node j).2.2).1 = (1, if pf then node else 0)
  ma : (psS n k pf node j).1.met (puS n k pf node j).2.1.ws = true
  mb : (puS n k pf node j).1.met (puS n k pf node j).2.1.ws = true
  ea : ∀ e, (psS n k pf node j).1.v = some e → e.offered = true → 0 ≤ e.at_
  eb : ∀ e, (puS n k pf node j).1.v = some e → e.offered = true → 0 ≤ e.at_
  f3 : Trio.fits ((psS n k pf node j).1, (puS n k pf node j).2) = true
  s3 : ((psS n k pf node j).1.step (puS n k pf node j).2.1 (puS n k pf node j).2.2).1 = (0, ((psS n k pf node j).1.step (puS n k pf node j).2.1 (puS n k pf node j).2.2).1.2)
  f4 : (pvS n k pf node j).fits = true
  s4 : ((pvS n k pf node j).1.step (pvS n k pf node j).2.1 (pvS n k pf node j).2.2).1 = (1, if pf then 0 else node)
  za : (pvS n k pf node j).step.1.s = ⟨n, 0⟩
  zb : (puS n k pf node j).1.s = ⟨n, 0⟩
theorem pairLaw (j : Nat) (hj : j ≤ 30) : PairLaw n k pf node j := by
  obtain ⟨⟨l1, l2⟩, l3, l4, l5, l6, l7, l8, ⟨l9, l10⟩, l11, l12, l13, l14⟩ := pair_law (n := n) (k := k) (pf := pf) (node := node) hn hk i0 i1 j hj
  exact ⟨l2, Prod.ext l1 rfl, l4, l3, l5, l6, l7, l8, l10, Prod.ext l9 rfl, l12, l11, l13, l14⟩
end
end Go.Proofs.Ytkilpnfgpepfmaa
