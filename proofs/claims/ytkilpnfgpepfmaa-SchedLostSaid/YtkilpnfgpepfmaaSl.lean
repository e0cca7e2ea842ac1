/- append and the like onto a slice of the program's own: what becomes of it, and of whose blocks. -/
import Derived.Test.YtkilpnfgpepfmaaOwn
import Derived.RegionTactic
set_option linter.unusedSimpArgs false
set_option linter.unusedVariables false
set_option linter.unusedSectionVars false
namespace Hat
open Go Go.RowKit

/-- The slice type T of elements E: their zero, cells, bytes. -/
structure SlT (P : Program) (T E : TypeId) (z : Value) (sz bytes : Nat) : Prop where
  ht : P.underlying T = some (.slice E)
  hi : (P.info? E).map (fun i => (i.zero, i.size, i.bytes)) = some (some z, sz, bytes)
  hzs : z.cells.size = sz
  hsz : 0 < sz

theorem Sl.fresh {t : Nat} {E : TypeId} {sz n cap : Nat} {cs : Array Value} {xs : List Value} {w : World} {ow : Nat → Nat} {W : World}
    (hl : xs.length = n * sz) (hn : n ≤ cap) (hm : cap ≤ maxLen) (hs : cs.size = cap * sz) (ht : cs.toList.take (n * sz) = xs) (hW : W = w.alloc (.cells cs E)) :
    Sl t E sz (.slice (some ⟨w.heap.size, 0, none⟩) n cap) xs W (ext ow w.heap.size t) := by
  subst hW
  exact ⟨_, _, _, rfl, hl, .inr ⟨w.heap.size, cs, rfl, ext_new _ _ _, Blk.new _ _ _, hn, hm, hs, ht⟩⟩

/-- One cell of it written. -/
theorem Sl.set1 {t : Nat} {E : TypeId} {b n c k : Nat} {xs : List Value} {w : World} {ow : Nat → Nat} (u : Value) (h : Sl t E 1 (.slice (some ⟨b, 0, none⟩) n c) xs w ow) (hk : k < n) :
    Sl t E 1 (.slice (some ⟨b, 0, none⟩) n c) (xs.set k u) (w.setCell ⟨b, k, none⟩ u) ow := by
  obtain ⟨a, n', c', hv, hl, ⟨h0, _⟩ | ⟨b', cs, ha, ho, hb, hnc, hm, hs, ht⟩⟩ := h
  · injection hv with _ hn _
    omega
  · injection hv with ha' hn hc
    subst hn; subst hc
    rw [← ha'] at ha
    injection ha with ha
    injection ha with ha
    subst ha
    refine ⟨_, _, _, rfl, by simpa using hl, .inr ⟨b, _, rfl, ho, hb.set_ k u, hnc, hm, by simpa using hs, ?_⟩⟩
    rw [Array.toList_setIfInBounds, List.take_set, ht]
section
variable {P : Program} {T E : TypeId} {z : Value} {sz bytes : Nat}

theorem addr_add0 (b j : Nat) : (⟨b, 0, none⟩ : Addr).add j = ⟨b, j, none⟩ := by unfold Addr.add; split <;> simp_all

theorem run_append_sl (he : SlT P T E z sz bytes) (ty : TypeId) {t : Nat} {v : Value} {xs : List Value} {w : World} {ow : Nat → Nat} (hs : Sl t E sz v xs w ow)
    (a : Addr) (m c : Nat) (news : List Value) (hl : news.length = m * sz) (hnews : ∀ j u, news[j]? = some u → w.cell? (a.add j) = some u) (h1 : ∀ u ∈ news, u.oneCell' = true)
    (hm : 0 < m) (hb : (xs.length + news.length) * bytes ≤ 140737488355328) (hb0 : 0 < bytes) :
    ∃ v' w' ow', (Builtin.append_ #[T, T] ty #[v, .slice (some a) m c]).run P w = .ok v' w' ∧ Sl t E sz v' (xs ++ news) w' ow' ∧ Fr [t] w w' ow ow' := by
  obtain ⟨i, hi, hz, hsize, hby⟩ := info_parts he.hi
  have hsz := he.hsz
  have hzs := he.hzs
  subst hsize
  subst hby
  have hmb : m * i.bytes ≤ 140737488355328 := Nat.le_trans (Nat.mul_le_mul_right _ (by have := Nat.le_mul_of_pos_right m hsz; omega)) hb
  have hm63 : m ≤ 140737488355328 := Nat.le_trans (Nat.le_mul_of_pos_right m hb0) hmb
  have grown : ∀ (n old : Nat) (olds : List Value), olds.length = n * i.size → old < n + m → n + m ≤ 140737488355328 →
      Sl t E i.size (.slice (some ⟨w.heap.size, 0, none⟩) (n + m) (grownCap w (n + m) old E)) (olds ++ news)
        (w.drew.alloc (.cells (olds.toArray ++ news.toArray ++ Builtin.zeroCells z.cells (grownCap w (n + m) old E - (n + m))) E)) (ext ow w.heap.size t) ∧
      Fr [t] w (w.drew.alloc (.cells (olds.toArray ++ news.toArray ++ Builtin.zeroCells z.cells (grownCap w (n + m) old E - (n + m))) E)) ow (ext ow w.heap.size t) := by
    intro n old olds hlo ho hnm
    have hge := grownCap_ge w (n + m) old E
    have hcm : grownCap w (n + m) old E ≤ maxLen := grownCap_le_maxLen w (n + m) old E (by simp only [maxLen]; omega)
    have hlen : (olds ++ news).length = (n + m) * i.size := by rw [List.length_append, hlo, hl, Nat.add_mul]
    refine ⟨Sl.fresh (w := w.drew) hlen hge hcm ?_ ?_ rfl, ((Fr.refl _ w ow).drew).alloc _ t⟩
    · simp only [Array.size_append, List.size_toArray, size_zeroCells, hzs, hlo, hl, ← Nat.add_mul]
      congr 1
      omega
    · simp only [Array.toList_append]
      rw [← hlen]
      exact List.take_left
  obtain ⟨a0, n, cap, rfl, hlx, ⟨rfl, rfl⟩ | ⟨b, cs, rfl, ho, hblk, hnc, hcm, hcs, htake⟩⟩ := hs
  · have hx : xs = [] := List.eq_nil_of_length_eq_zero (by simpa using hlx)
    subst hx
    have hg := grown 0 0 [] (by simp) (by omega) (by omega)
    simp only [Nat.zero_add] at hg
    rcases a0 with _ | b0
    · have hr := run_append_nil (P := P) w T ty E i z he.ht hi hz a m c news hl hnews hm (by omega) (by omega)
      refine ⟨_, _, ext ow w.heap.size t, hr, ?_, ?_⟩
      · simpa using hg.1
      · simpa using hg.2
    · have hr := run_append_grow (P := P) w T ty E i z he.ht hi hz b0 0 0 [] (by simp) (fun j v h => by simp at h) a m c news hl hnews (by omega) (by omega) (growslice_fits (by omega) (by simpa using hmb))
      simp only [Nat.zero_add] at hr
      exact ⟨_, _, _, hr, hg.1, hg.2⟩
  · have hnx : n ≤ xs.length := by rw [hlx]; exact Nat.le_mul_of_pos_right n hsz
    have hnmb : (n + m) * i.bytes ≤ 140737488355328 := Nat.le_trans (Nat.mul_le_mul_right _ (by have := Nat.le_mul_of_pos_right m hsz; omega)) hb
    have hnm63 : n + m ≤ 140737488355328 := Nat.le_trans (Nat.le_mul_of_pos_right _ hb0) hnmb
    have hlen : (xs ++ news).length = (n + m) * i.size := by rw [List.length_append, hlx, hl, Nat.add_mul]
    by_cases hroom : n + m ≤ cap
    · have hfit : n * i.size + news.length ≤ cs.size := by rw [hl, hcs, ← Nat.add_mul]; exact Nat.mul_le_mul_right _ hroom
      have hr := run_append_room (P := P) w T ty E i he.ht hi b n cap cs hblk a m c news hl hnews h1 hroom hfit
      refine ⟨_, _, ow, hr, ⟨_, _, _, rfl, hlen, .inr ⟨b, _, rfl, ho, setRow_heap w b cs _ E _ hblk, hroom, hcm, ?_, ?_⟩⟩, ⟨rfl, rfl, rfl, by simp, fun _ _ => rfl, fun k _ hk => setRow_other w b k _ (fun e => hk (by subst e; simp [ho]))⟩⟩
      · simp only [List.size_toArray, List.length_append, List.length_take, List.length_drop, Array.length_toList]
        omega
      · rw [htake, ← hlen]
        exact List.take_left
    · have holds : ∀ j u, xs[j]? = some u → w.cell? ((⟨b, 0, none⟩ : Addr).add j) = some u := by
        intro j u hu
        rw [addr_add0, hblk.cell]
        rw [← htake, List.getElem?_take] at hu
        split at hu
        · simpa using hu
        · cases hu
      have hr := run_append_grow (P := P) w T ty E i z he.ht hi hz ⟨b, 0, none⟩ n cap xs hlx holds a m c news hl hnews (by omega) (by omega) (growslice_fits (by omega) hnmb)
      have hg := grown n cap xs hlx (by omega) hnm63
      exact ⟨_, _, _, hr, hg.1, hg.2⟩

theorem wpList_append_sl (he : SlT P T E z sz bytes) {ops : Array Oper} {rest : List Oper} {o : Oper} {a : Act} {Q : Exit → Act → World → Prop} (hgd : o.guard = none) (s x : Operand)
    (ho : o.op = .call { callee := .builtin .append, args := #[s, x], argTypes := #[T, T] })
    {t : Nat} {v : Value} {xs : List Value} {w : World} {ow : Nat → Nat} (hsv : a.eval s = v) (hs : Sl t E sz v xs w ow)
    (ad : Addr) (m c : Nat) (hx : a.eval x = .slice (some ad) m c) (news : List Value) (hl : news.length = m * sz) (hnews : ∀ j u, news[j]? = some u → w.cell? (ad.add j) = some u) (h1 : ∀ u ∈ news, u.oneCell' = true)
    (hm : 0 < m) (hb : (xs.length + news.length) * bytes ≤ 140737488355328) (hb0 : 0 < bytes)
    (h : ∀ a' n' c' w' ow', Sl t E sz (.slice a' n' c') (xs ++ news) w' ow' → Fr [t] w w' ow ow' → wpList P ops Q rest (a.put o.dst (.slice a' n' c')) w') : wpList P ops Q (o :: rest) a w := by
  obtain ⟨v', w', ow', hr, h2, h3⟩ := run_append_sl he o.type hs ad m c news hl hnews h1 hm hb hb0
  obtain ⟨a', n', c', rfl, _⟩ := h2.form
  refine wpList_plain hgd fun K hK => ?_
  unfold Oper.wp execOp
  simp only [ho, resolve, invoke, builtin, Sem.run_bind, Sem.run_pure, Result.andThen_ok, List.map_toArray, List.map_cons, List.map_nil, hsv, hx, hr]
  exact hK _ _ (h a' n' c' w' ow' h2 h3)

theorem step_append_sl (he : SlT P T E z sz bytes) {ops : Array Oper} {o : Oper} {a : Act} {K : Act → World → Prop} {Q : Exit → Act → World → Prop} {F : Prop} (hgd : o.guard = none) (s x : Operand)
    (ho : o.op = .call { callee := .builtin .append, args := #[s, x], argTypes := #[T, T] })
    {t : Nat} {v : Value} {xs : List Value} {w : World} {ow : Nat → Nat} (hsv : a.eval s = v) (hs : Sl t E sz v xs w ow)
    (ad : Addr) (m c : Nat) (hx : a.eval x = .slice (some ad) m c) (news : List Value) (hl : news.length = m * sz) (hnews : ∀ j u, news[j]? = some u → w.cell? (ad.add j) = some u) (h1 : ∀ u ∈ news, u.oneCell' = true)
    (hm : 0 < m) (hb : (xs.length + news.length) * bytes ≤ 140737488355328) (hb0 : 0 < bytes)
    (h : ∀ a' n' c' w' ow', Sl t E sz (.slice a' n' c') (xs ++ news) w' ow' → Fr [t] w w' ow ow' → K (a.put o.dst (.slice a' n' c')) w') :
    if Region.wanted o (yielded ops a.tmps) = true then Oper.wp P o a w K Q else F := by
  obtain ⟨v', w', ow', hr, h2, h3⟩ := run_append_sl he o.type hs ad m c news hl hnews h1 hm hb hb0
  obtain ⟨a', n', c', rfl, _⟩ := h2.form
  have hw : Region.wanted o (yielded ops a.tmps) = true := by simp [Region.wanted, hgd]
  rw [if_pos hw]
  unfold Oper.wp execOp
  simp only [ho, resolve, invoke, builtin, Sem.run_bind, Sem.run_pure, Result.andThen_ok, List.map_toArray, List.map_cons, List.map_nil, hsv, hx, hr]
  exact h a' n' c' w' ow' h2 h3
end
end Hat
