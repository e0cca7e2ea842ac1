/- slices that are read, copied. -/
import Derived.Test.YtkilpnfgpepfmaaSl
set_option linter.unusedSimpArgs false
set_option linter.unusedVariables false
set_option linter.unusedSectionVars false
namespace Hat
open Go Go.RowKit
section
variable {P : Program} {T E : TypeId} {z : Value} {sz bytes : Nat}

/-- A slice that can be read: its cells are xs, sz a piece. -/
def Rd (sz : Nat) (v : Value) (xs : List Value) (w : World) : Prop :=
  ∃ a n c, v = .slice a n c ∧ xs.length = n * sz ∧ (a = none → n = 0) ∧ (∀ ad, a = some ad → ∀ j u, xs[j]? = some u → w.cell? (ad.add j) = some u)

theorem Rd.nil (sz c : Nat) (w : World) : Rd sz (.slice none 0 c) [] w := ⟨none, 0, c, rfl, by simp, fun _ => rfl, fun _ h => by cases h⟩
theorem Sl.rd {t : Nat} {E : TypeId} {sz : Nat} {v : Value} {xs : List Value} {w : World} {ow : Nat → Nat} (h : Sl t E sz v xs w ow) : Rd sz v xs w := by
  obtain ⟨a, n, c, hv, hl, ⟨h0, h1⟩ | ⟨b, cs, ha, ho, hb, hn, hm, hs, ht⟩⟩ := h
  · subst h0
    have hx : xs = [] := List.eq_nil_of_length_eq_zero (by simpa using hl)
    subst hx
    exact ⟨a, 0, c, hv, by simp, fun _ => rfl, fun _ _ j u hu => absurd hu (by simp)⟩
  · refine ⟨a, n, c, hv, hl, (by intro (e : a = none); rw [e] at ha; cases ha), fun ad had j u hu => ?_⟩
    rw [ha] at had
    injection had with had
    subst had
    rw [addr_add0, hb.cell]
    rw [← ht, List.getElem?_take] at hu
    split at hu
    · simpa using hu
    · cases hu
theorem Rd.keep {sz : Nat} {v : Value} {xs : List Value} {w w' : World} (h : Rd sz v xs w) (hk : ∀ p u, w.cell? p = some u → w'.cell? p = some u) : Rd sz v xs w' := by
  obtain ⟨a, n, c, hv, hl, hn, hc⟩ := h
  exact ⟨a, n, c, hv, hl, hn, fun ad had j u hu => hk _ _ (hc ad had j u hu)⟩
theorem keep_alloc (w : World) (o : Obj) : ∀ p u, w.cell? p = some u → (w.alloc o).cell? p = some u := fun p u h => by
  rw [World.cell?_alloc_lt w o p (World.block_lt_of_cell? w p h)]; exact h
theorem keep_below {w w' : World} (hb : Below w.heap.size w w') : ∀ p u, w.cell? p = some u → w'.cell? p = some u := fun p u h => by
  rw [hb.cell (World.block_lt_of_cell? w p h)]; exact h
theorem Rd.form {sz : Nat} {v : Value} {xs : List Value} {w : World} (h : Rd sz v xs w) : ∃ a n c, v = .slice a n c ∧ xs.length = n * sz := by
  obtain ⟨a, n, c, hv, hl, _⟩ := h; exact ⟨a, n, c, hv, hl⟩

theorem run_append_new (he : SlT P T E z sz bytes) (ty : TypeId) (t : Nat) (a0 : Option Addr) {x : Value} {xs : List Value} {w : World} (ow : Nat → Nat) (hx : Rd sz x xs w)
    (hb : xs.length * bytes ≤ 140737488355328) (hb0 : 0 < bytes) :
    ∃ v' w' ow', (Builtin.append_ #[T, T] ty #[.slice a0 0 0, x]).run P w = .ok v' w' ∧ Sl t E sz v' xs w' ow' ∧ Fr [] w w' ow ow' := by
  obtain ⟨i, hi, hz, hsize, hby⟩ := info_parts he.hi
  have hsz := he.hsz
  have hzs := he.hzs
  subst hsize
  subst hby
  obtain ⟨a, m, c, rfl, hl, hn0, hcells⟩ := hx
  rcases Nat.eq_zero_or_pos m with h0 | hm
  · subst h0
    have hxs : xs = [] := List.eq_nil_of_length_eq_zero (by simpa using hl)
    subst hxs
    refine ⟨.slice a0 0 0, w, ow, ?_, Sl.nil _ _ _ _ _ _, Fr.refl _ _ _⟩
    cases a0 <;> cases a <;> simp [Builtin.append_, run_underlying he.ht, Go.sizeOf, typeInfo, hi, Builtin.lenOf, Builtin.firstCells, loadCells, loadCellsFrom, storeCells]
  · have hmx : m ≤ xs.length := by rw [hl]; exact Nat.le_mul_of_pos_right m hsz
    have hmb : m * i.bytes ≤ 140737488355328 := Nat.le_trans (Nat.mul_le_mul_right _ hmx) hb
    have hm63 : m ≤ 140737488355328 := Nat.le_trans (Nat.le_mul_of_pos_right m hb0) hmb
    rcases a with _ | ad
    · exact absurd (hn0 rfl) (by omega)
    · have hnews := hcells ad rfl
      have hge := grownCap_ge w m 0 E
      have hcm : grownCap w m 0 E ≤ maxLen := grownCap_le_maxLen w m 0 E (by simp only [maxLen]; omega)
      have hg : Sl t E i.size (.slice (some ⟨w.heap.size, 0, none⟩) m (grownCap w m 0 E)) xs
          (w.drew.alloc (.cells (xs.toArray ++ Builtin.zeroCells z.cells (grownCap w m 0 E - m)) E)) (ext ow w.heap.size t) := by
        refine Sl.fresh (w := w.drew) hl hge hcm ?_ ?_ rfl
        · simp only [Array.size_append, List.size_toArray, size_zeroCells, hzs, hl, ← Nat.add_mul]
          congr 1
          omega
        · simp only [Array.toList_append]
          rw [← hl]
          exact List.take_left
      have hf : Fr [] w (w.drew.alloc (.cells (xs.toArray ++ Builtin.zeroCells z.cells (grownCap w m 0 E - m)) E)) ow (ext ow w.heap.size t) := ((Fr.refl _ w ow).drew).alloc _ t
      rcases a0 with _ | b0
      · exact ⟨_, _, _, run_append_nil (P := P) w T ty E i z he.ht hi hz ad m c xs hl hnews hm (by omega) (by omega), hg, hf⟩
      · have hr := run_append_grow (P := P) w T ty E i z he.ht hi hz b0 0 0 [] (by simp) (fun j v h => by simp at h) ad m c xs hl hnews (by omega) (by omega) (growslice_fits (by omega) (by simpa using hmb))
        simp only [Nat.zero_add, Array.empty_append] at hr
        exact ⟨_, _, _, hr, hg, hf⟩

theorem wpList_append_new (he : SlT P T E z sz bytes) (t : Nat) {ops : Array Oper} {rest : List Oper} {o : Oper} {a : Act} {Q : Exit → Act → World → Prop} (hgd : o.guard = none) (s x : Operand)
    (ho : o.op = .call { callee := .builtin .append, args := #[s, x], argTypes := #[T, T] })
    {a0 : Option Addr} {v : Value} {xs : List Value} {w : World} (ow : Nat → Nat) (hsv : a.eval s = .slice a0 0 0) (hxv : a.eval x = v) (hx : Rd sz v xs w)
    (hb : xs.length * bytes ≤ 140737488355328) (hb0 : 0 < bytes)
    (h : ∀ a' n' c' w' ow', Sl t E sz (.slice a' n' c') xs w' ow' → Fr [] w w' ow ow' → wpList P ops Q rest (a.put o.dst (.slice a' n' c')) w') : wpList P ops Q (o :: rest) a w := by
  obtain ⟨v', w', ow', hr, h2, h3⟩ := run_append_new he o.type t a0 ow hx hb hb0
  obtain ⟨a', n', c', rfl, _⟩ := h2.form
  refine wpList_plain hgd fun K hK => ?_
  unfold Oper.wp execOp
  simp only [ho, resolve, invoke, builtin, Sem.run_bind, Sem.run_pure, Result.andThen_ok, List.map_toArray, List.map_cons, List.map_nil, hsv, hxv, hr]
  exact hK _ _ (h a' n' c' w' ow' h2 h3)
end
end Hat
