/- hatstandlaw12.ElimTime: the plain law. -/
import Derived.Test.YtkilpnfgpepfmaaPairP
set_option linter.unusedSimpArgs false
set_option linter.unusedVariables false
set_option linter.unusedSectionVars false
open Go Go.RowKit Hat
namespace Go.Proofs.Ytkilpnfgpepfmaa
set_option maxRecDepth 100000
theorem ex_look_end (pl : Int) (push : Bool) (i dl P now w : Int) (m : Mem) (hh : m.has pl = true) (hg : m.get pl = w) (hn : dl ≤ now) :
    (⟨pl, push, i, dl, P, w, 0, 3, 0, true⟩ : Ex).step m now = ((0, 0), ⟨pl, push, i, dl, P - 1, w, 0, 4, 0, true⟩, { m with ns := m.ns ++ [⟨108, pl, w, w, true⟩] }) := by
  have h : (P - 1 ≤ 0 ∨ now ≥ dl) := by omega
  simp only [Ex.step, Ex.go, Mem.load, hh, hg, if_true]
  simp [Ex.tells, h]
theorem ex_withdraw (pl : Int) (push : Bool) (i dl P now w : Int) (m : Mem) (hh : m.has pl = true) (hg : m.get pl = w) :
    (⟨pl, push, i, dl, P, w, 0, 4, 0, true⟩ : Ex).step m now = ((4, 0), ⟨pl, push, i, dl, P, w, 0, 3, 4, true⟩, { ws := m.ws.set pl.toNat (sclear w), ns := m.ns ++ [⟨99, pl, w, sclear w, true⟩] }) := by
  simp [Ex.step, Ex.go, Mem.swap, hh, hg, Ex.tells]
/-- The visit of ElimTime. -/
def tvA (a w P x : Int) (pc : Nat) : El := ⟨cN 2, ⟨1, 0⟩, true, 1, 64, w, 8, 0, some ⟨8, true, 1, a + w, P, x, 0, pc, 0, decide (3 ≤ pc)⟩⟩
def ta0 (a w : Int) : Trio := (El.new (cN 2) ⟨1, 0⟩ true 1 64 w, ⟨fresh (cN 2), []⟩, ⟨a, []⟩)
def tW : Int := (offer 0 true 1).1
/-- The state at the begin of round k, each e later. -/
def tIt (a w e : Int) : Nat → Trio
  | 0 => (ta0 a w).iter 2
  | k + 1 => let s := (tIt a w e k).step; (s.1, s.2.1, s.2.2.tick e)
def tJ (w e : Int) : Nat := ((w + e - 1) / e).toNat
theorem tJ_le {w e : Int} (w0 : 0 ≤ w) (w1 : w < 30) (e0 : 1 ≤ e) : tJ w e ≤ 29 := by
  have h : (w + e - 1) / e < 30 := by
    apply Int.ediv_lt_of_lt_mul (by omega)
    have : e * 1 ≤ 30 * e - 29 * e := by omega
    have := Int.mul_le_mul_of_nonneg_left (show (1 : Int) ≤ e by omega) (show (0 : Int) ≤ 29 by omega)
    omega
  unfold tJ; omega
theorem tJ_iff {w e : Int} (w0 : 0 ≤ w) (e0 : 1 ≤ e) (k : Nat) : w ≤ k * e ↔ tJ w e ≤ k := by
  have h : (w + e - 1) / e ≤ k ↔ w ≤ k * e := by
    rw [show ((w + e - 1) / e ≤ (k : Int)) ↔ (w + e - 1) / e < (k : Int) + 1 by omega, Int.ediv_lt_iff_lt_mul (by omega), Int.add_mul]
    omega
  have h2 : 0 ≤ (w + e - 1) / e := Int.ediv_nonneg (by omega) (by omega)
  unfold tJ
  rw [← h]; omega
theorem tJ_q {w e : Int} (w0 : 0 ≤ w) (w1 : w < 30) (e0 : 1 ≤ e) : 0 ≤ (w + e - 1) / e ∧ (w + e - 1) / e ≤ 30 ∧ (((tJ w e : Int) + 1) == 1 + (w + e - 1) / e) = true := by
  have h2 : 0 ≤ (w + e - 1) / e := Int.ediv_nonneg (by omega) (by omega)
  have h3 := tJ_le w0 w1 e0
  unfold tJ at h3 ⊢
  refine ⟨h2, by omega, ?_⟩
  rw [beq_iff_eq]
  omega
section
variable {a w e : Int} (a0 : 0 ≤ a) (a1 : a < 1000) (w0 : 0 ≤ w) (w1 : w < 30) (e0 : 1 ≤ e) (e1 : e ≤ 10)
include a0 a1 w0 w1
theorem t1 : (ta0 a w).1.step (ta0 a w).2.1 (ta0 a w).2.2 = ((0, 0), tvA a w 64 0 2, pM 2 0 0 [⟨108, 8, 0, 0, true⟩], ⟨a, []⟩) := by
  have h := slots1 (n := 2) (k := 0) (by omega) (by omega)
  have hd : (⟨a, []⟩ : Src).draw 1 = (0, ⟨a, []⟩) := rfl
  have ed : deadline a w = a + w := by unfold deadline; omega
  have e := el_first (x := El.new (cN 2) ⟨1, 0⟩ true 1 64 w) (m := pM 2 0 0 []) (r := ⟨a, []⟩) (d := 0) rfl rfl rfl (by simp [El.new, cN]) rfl hd
    (by
      have h2 := ex_first 8 true 1 (a + w) 64 a (pM 2 0 0 []) (pM_has (n := 2) (k := 0) (by omega) (by omega)) (pM_get (n := 2) (k := 0) (by omega) (by omega))
      have e1 : (El.new (cN 2) ⟨1, 0⟩ true 1 64 w).c.slot 0 = 8 := h.1
      have e2 : (El.new (cN 2) ⟨1, 0⟩ true 1 64 w).s.polls (El.new (cN 2) ⟨1, 0⟩ true 1 64 w).base = 64 := rfl
      have e3 : deadline (⟨a, []⟩ : Src).now (El.new (cN 2) ⟨1, 0⟩ true 1 64 w).wait = a + w := ed
      rw [e1, e2, e3]
      exact h2)
  rw [show (ta0 a w).2.1 = pM 2 0 0 [] from pM_0 (n := 2) (k := 0) (by omega) (by omega)]
  refine e.trans ?_
  rfl
omit a0 a1 w0 w1 in
theorem t2 (l : List Note) (r : Src) : (tvA a w 64 0 2).step (pM 2 0 0 l) r = ((0, 0), tvA a w 64 tW 3, pM 2 0 tW (l ++ [⟨99, 8, 0, tW, true⟩]), r) := by
  have h2 := ex_offer 8 true 1 (a + w) 64 r.now (pM 2 0 0 l) (pM_has (n := 2) (k := 0) (by omega) (by omega)) (pM_get (n := 2) (k := 0) (by omega) (by omega))
  have h3 := pM_set (n := 2) (k := 0) (x := 0) (y := (offer 0 true 1).1) (l := l)
  rw [show (8 : Int) + (0 : Nat) = 8 from rfl] at h3
  rw [h3] at h2
  exact el_on (x := tvA a w 64 0 2) rfl rfl h2
theorem t0_2 : tIt a w e 0 = (tvA a w 64 tW 3, pM 2 0 tW ([⟨108, 8, 0, 0, true⟩] ++ [⟨99, 8, 0, tW, true⟩]), ⟨a, []⟩) := by
  show Trio.step (Trio.step (ta0 a w)) = _
  have := Trio.step_eq (x := (ta0 a w).1) (t1 a0 a1 w0 w1)
  rw [show Trio.step (ta0 a w) = _ from this]
  exact Trio.step_eq (t2 _ _)
theorem ta_fits : (ta0 a w).fits = true ∧ ((ta0 a w).iter 1).fits = true := by
  refine ⟨rfl, ?_⟩
  have := Trio.step_eq (x := (ta0 a w).1) (t1 a0 a1 w0 w1)
  rw [show (ta0 a w).iter 1 = _ from this]
  rfl
include e0 e1
omit a0 a1 w1 e1 in
theorem t_look (l : List Note) (k : Nat) (hk : k < 32) : (tvA a w (64 - k) tW 3).step (pM 2 0 tW l) ⟨a + k * e, []⟩ = ((0, 0), tvA a w (64 - k - 1) tW (if tJ w e ≤ k then 4 else 3), pM 2 0 tW (l ++ [⟨108, 8, tW, tW, true⟩]), ⟨a + k * e, []⟩) := by
  have hi := tJ_iff w0 e0 k
  by_cases h : tJ w e ≤ k
  · rw [if_pos h]
    have h2 := ex_look_end 8 true 1 (a + w) (64 - k) (a + k * e) tW (pM 2 0 tW l) (pM_has (n := 2) (k := 0) (by omega) (by omega)) (pM_get (n := 2) (k := 0) (by omega) (by omega)) (by have := hi.2 h; omega)
    exact el_on (x := tvA a w (64 - k) tW 3) (r := ⟨a + k * e, []⟩) rfl rfl h2
  · rw [if_neg h]
    have h2 := ex_look 8 true 1 (a + w) (64 - k) (a + k * e) tW (pM 2 0 tW l) (pM_has (n := 2) (k := 0) (by omega) (by omega)) (pM_get (n := 2) (k := 0) (by omega) (by omega)) (by omega) (by have := fun g => h (hi.1 g); omega)
    exact el_on (x := tvA a w (64 - k) tW 3) (r := ⟨a + k * e, []⟩) rfl rfl h2
omit w0 w1 in
theorem t_now (k : Nat) (hk : k < 32) : 0 ≤ (k : Int) * e ∧ (k : Int) * e ≤ 320 ∧ ((⟨a + k * e, []⟩ : Src).tick e) = ⟨a + (k + 1 : Nat) * e, []⟩ := by
  have h1 : 0 ≤ (k : Int) * e := Int.mul_nonneg (by omega) (by omega)
  have h2 : (k : Int) * e ≤ 32 * 10 := Int.mul_le_mul (by omega) e1 (by omega) (by omega)
  refine ⟨h1, by omega, ?_⟩
  have h3 : ((k + 1 : Nat) : Int) * e = k * e + e := by rw [Int.natCast_add, Int.add_mul]; omega
  simp only [Src.tick, deadline, h3]
  rw [Int.min_eq_left (by omega)]
  congr 1
  omega
theorem t_it (k : Nat) (hk : k ≤ tJ w e + 1) : ∃ l : List Note, l.length = 2 + k ∧ tIt a w e k = (tvA a w (64 - k) tW (if k = tJ w e + 1 then 4 else 3), pM 2 0 tW l, ⟨a + k * e, []⟩) := by
  have hJ := tJ_le w0 w1 e0
  induction k with
  | zero =>
    refine ⟨[⟨108, 8, 0, 0, true⟩] ++ [⟨99, 8, 0, tW, true⟩], rfl, ?_⟩
    rw [t0_2 (e := e) a0 a1 w0 w1, if_neg (by omega)]
    simp
    rfl
  | succ k ih =>
    obtain ⟨l, hl, he⟩ := ih (by omega)
    refine ⟨l ++ [⟨108, 8, tW, tW, true⟩], by simp [hl]; omega, ?_⟩
    show (let s := (tIt a w e k).step; ((s.1, s.2.1, s.2.2.tick e) : Trio)) = _
    rw [he, if_neg (by omega)]
    rw [Trio.step_eq (t_look w0 e0 l k (by omega))]
    dsimp only
    rw [(t_now a0 a1 e0 e1 k (by omega)).2.2]
    have e3 : (64 : Int) - k - 1 = 64 - (k + 1 : Nat) := by omega
    rw [e3]
    by_cases h : tJ w e ≤ k
    · rw [if_pos h, if_pos (by omega)]
    · rw [if_neg h, if_neg (by omega)]
theorem t_law (k : Nat) (hk : k ≤ tJ w e) : (tIt a w e k).st = 0 ∧ (tIt a w e k).fits = true ∧ (tIt a w e k).2.1.ws.getD 8 0 = tW ∧ (tIt a w e k).2.1.ws.length = 10 ∧
    (tIt a w e k).step.2.1.ws.getD 8 0 = tW ∧ (tIt a w e k).step.2.1.ws.length = 10 := by
  have hJ := tJ_le w0 w1 e0
  obtain ⟨l, hl, he⟩ := t_it (e := e) a0 a1 w0 w1 e0 e1 k (by omega)
  rw [he, if_neg (by omega)]
  have h := t_look (a := a) w0 e0 l k (by omega)
  rw [Trio.step_eq h]
  refine ⟨?_, ?_, rfl, rfl, rfl, rfl⟩
  · unfold Trio.st; dsimp only; rw [h]
  · simp [Trio.fits, tvA, pM, hl]; omega
theorem t_end : (tIt a w e (tJ w e + 1)).st = 4 ∧ (tIt a w e (tJ w e + 1)).fits = true ∧ (tIt a w e (tJ w e + 1)).2.1.ws.length = 10 ∧ (tIt a w e (tJ w e + 1)).2.1.ws.getD 8 0 = tW ∧ (tIt a w e (tJ w e + 1)).step.1.s = ⟨1, 1⟩ := by
  have hJ := tJ_le w0 w1 e0
  obtain ⟨l, hl, he⟩ := t_it (e := e) a0 a1 w0 w1 e0 e1 (tJ w e + 1) (by omega)
  rw [he, if_pos rfl]
  have h2 := ex_withdraw 8 true 1 (a + w) (64 - (tJ w e + 1 : Nat)) (a + (tJ w e + 1 : Nat) * e) tW (pM 2 0 tW l) (pM_has (n := 2) (k := 0) (by omega) (by omega)) (pM_get (n := 2) (k := 0) (by omega) (by omega))
  have h := el_end (x := tvA a w (64 - (tJ w e + 1 : Nat)) tW 4) (r := ⟨a + (tJ w e + 1 : Nat) * e, []⟩) rfl rfl h2 (by decide)
  rw [Trio.step_eq h]
  refine ⟨?_, ?_, rfl, rfl, rfl⟩
  · unfold Trio.st; dsimp only; rw [h]
  · simp [Trio.fits, tvA, pM, hl]; omega
theorem t_word (k : Nat) (hk : k ≤ tJ w e + 1) : (tIt a w e k).2.1.ws.length = 10 ∧ (tIt a w e k).2.1.ws.getD 8 0 = tW := by
  rcases Nat.lt_or_ge (tJ w e) k with h | h
  · have : k = tJ w e + 1 := by omega
    subst this
    have := t_end (e := e) a0 a1 w0 w1 e0 e1
    exact ⟨this.2.2.1, this.2.2.2.1⟩
  · have := t_law (e := e) a0 a1 w0 w1 e0 e1 k h
    exact ⟨this.2.2.2.1, this.2.2.1⟩
end
end Go.Proofs.Ytkilpnfgpepfmaa
