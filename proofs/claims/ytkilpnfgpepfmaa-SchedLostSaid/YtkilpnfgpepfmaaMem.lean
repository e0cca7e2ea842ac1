/- package wmem: what a memory is in the heap, and what each access does. -/
import Derived.Test.YtkilpnfgpepfmaaAt
import Derived.Test.YtkilpnfgpepfmaaSl
import Derived.StillTailTactics
import Derived.Deep.RegionLaw
set_option linter.unusedSimpArgs false
set_option linter.unusedVariables false
set_option linter.unusedSectionVars false
open Go Go.RowKit Hat
namespace Go.Proofs.Ytkilpnfgpepfmaa
set_option maxHeartbeats 1000000
set_option maxRecDepth 100000

def u64s (l : List Int) : List Value := l.map (Value.int .u64)
def noteCells (n : Note) : List Value := [.int .u8 n.kind, .int .i64 n.at_, .int .u64 n.old, .int .u64 n.new, .bool n.ok]
def notesV (l : List Note) : List Value := l.flatMap noteCells
def noteV (n : Note) : Value := .agg #[.int .u8 n.kind, .int .i64 n.at_, .int .u64 n.old, .int .u64 n.new, .bool n.ok]

theorem slT_u64 : SlT Try.prog 39 22 (.int .u64 0) 1 8 := ⟨Try.underlying39, by kernel_rfl, rfl, by decide⟩
theorem slT_acc : SlT Try.prog 48 51 (.agg #[.int .u8 0, .int .i64 0, .int .u64 0, .int .u64 0, .bool false]) 5 40 := ⟨Try.underlying48, by kernel_rfl, rfl, by decide⟩

theorem length_notesV (l : List Note) : (notesV l).length = 5 * l.length := by
  induction l with
  | nil => rfl
  | cons a l ih => simp only [notesV, List.flatMap_cons, List.length_append, List.length_cons] at *; simp only [noteCells, List.length_cons, List.length_nil]; omega

/-- A memory: its block p is of owner t, its words' of t + 1, its notes' of t + 2. -/
def IsMem (t p : Nat) (m : Mem) (w : World) (ow : Nat → Nat) : Prop :=
  ow p = t ∧ (∀ x ∈ m.ws, 0 ≤ x ∧ x < 18446744073709551616) ∧ m.ws.length ≤ 1024 ∧ ∃ vw vn, Blk w p 126 #[vw, vn] ∧ Sl (t + 1) 22 1 vw (u64s m.ws) w ow ∧ Sl (t + 2) 51 5 vn (notesV m.ns) w ow

theorem IsMem.loc {t p : Nat} {m : Mem} : Locl [t, t + 1, t + 2] (IsMem t p m) := by
  intro w w' ow ow' h hr
  obtain ⟨ho, hw, hl, vw, vn, hb, h1, h2⟩ := hr
  obtain ⟨hb', ho'⟩ := Locl.of_blk h hb (by simp [ho])
  exact ⟨ho'.trans ho, hw, hl, vw, vn, hb', Sl.loc w w' ow ow' (fun b hlt hm => h b hlt (by simp at hm; simp [hm])) h1, Sl.loc w w' ow ow' (fun b hlt hm => h b hlt (by simp at hm; simp [hm])) h2⟩

theorem u64s_get (l : List Int) (j : Nat) (h : j < l.length) : (u64s l)[j]? = some (.int .u64 (l.getD j 0)) := by
  simp [u64s, h]
theorem length_u64s (l : List Int) : (u64s l).length = l.length := by simp [u64s]

/-- What there is to know of a memory with words, for a walk. -/
theorem IsMem.open_ {t p : Nat} {m : Mem} {w : World} {ow : Nat → Nat} (h : IsMem t p m w ow) (hne : m.ws ≠ []) :
    ∃ b c vn, Blk w p 126 #[.slice (some ⟨b, 0, none⟩) m.ws.length c, vn] ∧ ow p = t ∧ ow b = t + 1 ∧ p ≠ b ∧ b < w.heap.size ∧
      (∀ j, j < m.ws.length → w.cell? ⟨b, j, none⟩ = some (.int .u64 (m.ws.getD j 0))) ∧ (∀ j, w.frozen? ⟨b, j, none⟩ = false) ∧
      Sl (t + 1) 22 1 (.slice (some ⟨b, 0, none⟩) m.ws.length c) (u64s m.ws) w ow ∧ Sl (t + 2) 51 5 vn (notesV m.ns) w ow := by
  obtain ⟨ho, hw, hl, vw, vn, hb, ⟨a, n, c, rfl, hlx, ⟨h0, _⟩ | ⟨b, cs, rfl, hob, hbb, hnc, hcm, hcs, ht⟩⟩, h2⟩ := h
  · subst h0
    exact absurd (List.eq_nil_of_length_eq_zero (by simpa [length_u64s] using hlx)) hne
  · have hn : n = m.ws.length := by simpa [length_u64s] using hlx.symm
    subst hn
    refine ⟨b, c, vn, hb, ho, hob, Blk.ne_ hb hbb (by decide), hbb.lt, fun j hj => ?_, hbb.frozen, ⟨_, _, _, rfl, hlx, .inr ⟨b, cs, rfl, hob, hbb, hnc, hcm, hcs, ht⟩⟩, h2⟩
    rw [hbb.cell]
    have := u64s_get m.ws j hj
    rw [← ht, List.getElem?_take] at this
    split at this
    · simpa using this
    · cases this

/-! which kind of access it is -/
theorem ta_ll (v : Value) (w : World) : (Instr.typeAssert (.iface 173 v) 20 173 true).run Try.prog w = .ok (.tuple #[v, .bool true]) w := by kernel_rfl
theorem ta_ls (v : Value) (w : World) : (Instr.typeAssert (.iface 173 v) 20 175 true).run Try.prog w = .ok (.tuple #[(.agg #[.int .u64 0]), .bool false]) w := by kernel_rfl
theorem ta_lc (v : Value) (w : World) : (Instr.typeAssert (.iface 173 v) 20 177 true).run Try.prog w = .ok (.tuple #[(.agg #[.int .u64 0, .int .u64 0]), .bool false]) w := by kernel_rfl
theorem ta_sl (v : Value) (w : World) : (Instr.typeAssert (.iface 175 v) 20 173 true).run Try.prog w = .ok (.tuple #[(.agg #[]), .bool false]) w := by kernel_rfl
theorem ta_ss (v : Value) (w : World) : (Instr.typeAssert (.iface 175 v) 20 175 true).run Try.prog w = .ok (.tuple #[v, .bool true]) w := by kernel_rfl
theorem ta_sc (v : Value) (w : World) : (Instr.typeAssert (.iface 175 v) 20 177 true).run Try.prog w = .ok (.tuple #[(.agg #[.int .u64 0, .int .u64 0]), .bool false]) w := by kernel_rfl
theorem ta_cl (v : Value) (w : World) : (Instr.typeAssert (.iface 177 v) 20 173 true).run Try.prog w = .ok (.tuple #[(.agg #[]), .bool false]) w := by kernel_rfl
theorem ta_cs (v : Value) (w : World) : (Instr.typeAssert (.iface 177 v) 20 175 true).run Try.prog w = .ok (.tuple #[(.agg #[.int .u64 0]), .bool false]) w := by kernel_rfl
theorem ta_cc (v : Value) (w : World) : (Instr.typeAssert (.iface 177 v) 20 177 true).run Try.prog w = .ok (.tuple #[v, .bool true]) w := by kernel_rfl
end Go.Proofs.Ytkilpnfgpepfmaa
