/- Whose block is it: a frame for calls that turn some owners' blocks alone, and what is said of a block. -/
import Derived.WalkKit
import Derived.Handy
import Derived.Laws.EntriesVeiled
import Derived.Deep.Draws
set_option linter.unusedSimpArgs false
set_option linter.unusedVariables false
set_option linter.unusedSectionVars false
namespace Hat
open Go Go.RowKit

/-- A number below n is below all that come behind. (For walks: in the spelling of new blocks.) -/
theorem lts {p n : Nat} (h : p < n) : p < n + 1 ∧ p < n + 1 + 1 ∧ p < n + 1 + 1 + 1 ∧ p < n + 1 + 1 + 1 + 1 ∧ p < n + 1 + 1 + 1 + 1 + 1 := by omega
theorem nts (n : Nat) : n < n + 1 ∧ n < n + 1 + 1 ∧ n < n + 1 + 1 + 1 ∧ n < n + 1 + 1 + 1 + 1 ∧ n + 1 < n + 1 + 1 ∧ n + 1 < n + 1 + 1 + 1 ∧ n + 1 < n + 1 + 1 + 1 + 1 ∧ n + 1 + 1 < n + 1 + 1 + 1 ∧ n + 1 + 1 < n + 1 + 1 + 1 + 1 := by omega
theorem hid {p : Prop} (h : p) : Hid p := h

/-- Block b is a row of these cells. -/
def Blk (w : World) (b : Nat) (t : TypeId) (cs : Array Value) : Prop := w.heap[b]? = some (.cells cs t (0, 0))

section
variable {w w' : World} {g : Nat} {t : TypeId} {cs : Array Value}
theorem Blk.lt (h : Blk w g t cs) : g < w.heap.size := by
  rcases Nat.lt_or_ge g w.heap.size with hlt | hge
  · exact hlt
  · unfold Blk at h; rw [Array.getElem?_eq_none hge] at h; cases h
theorem Blk.cell (h : Blk w g t cs) (i : Nat) : w.cell? ⟨g, i, none⟩ = cs[i]? := cell_of_row w g i cs t (0, 0) h
theorem Blk.frozen (h : Blk w g t cs) (i : Nat) : w.frozen? ⟨g, i, none⟩ = false := by
  unfold Blk at h
  simp [World.frozen?, h]
theorem Blk.new' (w : World) (t : TypeId) (cs : Array Value) (n : Nat) (hn : n = w.heap.size) : Blk (w.alloc (.cells cs t)) n t cs := by subst hn; exact heap_alloc_new w _
theorem Blk.new (w : World) (t : TypeId) (cs : Array Value) : Blk (w.alloc (.cells cs t)) w.heap.size t cs := heap_alloc_new w _
theorem Blk.drew (h : Blk w g t cs) : Blk w.drew g t cs := h
theorem Blk.drewN (h : Blk w g t cs) (n : Nat) : Blk (w.drewN n) g t cs := h
theorem Blk.alloc (h : Blk w g t cs) (o : Obj) : Blk (w.alloc o) g t cs := (Below.heap_alloc w o g h.lt).trans h
theorem Blk.set_ (h : Blk w g t cs) (i : Nat) (u : Value) : Blk (w.setCell ⟨g, i, none⟩ u) g t (cs.setIfInBounds i u) := by
  unfold Blk at h ⊢
  simp [World.setCell, Array.getElem?_modify, h]
theorem Blk.set' (h : Blk w g t cs) (i : Nat) (u : Value) (cs' : Array Value) (e : cs.setIfInBounds i u = cs') : Blk (w.setCell ⟨g, i, none⟩ u) g t cs' := e ▸ h.set_ i u
theorem Blk.far (h : Blk w g t cs) {p : Addr} (hp : g ≠ p.block) (u : Value) : Blk (w.setCell p u) g t cs := (Below.heap_setCell w p u g hp).trans h
theorem Blk.same (h : Blk w g t cs) (e : w'.heap[g]? = w.heap[g]?) : Blk w' g t cs := e.trans h
theorem Blk.uniq {t' : TypeId} {cs' : Array Value} (h : Blk w g t cs) (h' : Blk w g t' cs') : cs = cs' := by
  unfold Blk at h h'
  rw [h] at h'
  injection h' with h'
  injection h' with h' _
theorem Blk.ne_ {g' : Nat} {t' : TypeId} {cs' : Array Value} (h : Blk w g t cs) (h' : Blk w g' t' cs') (hne : t ≠ t') : g ≠ g' := by
  rintro rfl
  unfold Blk at h h'
  rw [h] at h'
  injection h' with h'
  injection h' with _ ht
  exact hne ht
theorem Blk.below (h : Blk w g t cs) {B : Nat} (hb : Below B w w') (hg : g < B) : Blk w' g t cs := (hb.block g hg).trans h
theorem Blk.all (h : Blk w g t cs) : (∀ i, w.cell? ⟨g, i, none⟩ = cs[i]?) ∧ (∀ i, w.frozen? ⟨g, i, none⟩ = false) ∧ g < w.heap.size := ⟨h.cell, h.frozen, h.lt⟩
theorem Blk.cells (h : Blk w g t cs) : (∀ i, w.cell? ⟨g, i, none⟩ = cs[i]?) ∧ (∀ i, w.frozen? ⟨g, i, none⟩ = false) := ⟨h.cell, h.frozen⟩
end

/-- One call behind another one, of which each turns nothing that was there. -/
theorem below_of_eq {w w' : World} (h : w = w') : Below w.heap.size w w' := by subst h; exact Below.refl _ _
theorem below_step {w wa w1 : World} (h : Below w.heap.size w wa) (hb : Below wa.heap.size wa w1) : Below w.heap.size w w1 := h.trans (hb.mono h.size)
theorem below_draws {B : Nat} {a w : World} (h : Below B a w) (n : Nat) : Below B a (w.drewN n) := ⟨h.os, h.tape, h.output, h.size, h.block⟩
theorem bcell {W w1 : World} (hb : Below W.heap.size W w1) : (∀ b o, b < W.heap.size → w1.cell? ⟨b, o, none⟩ = W.cell? ⟨b, o, none⟩) ∧ (∀ b o, b < W.heap.size → w1.frozen? ⟨b, o, none⟩ = W.frozen? ⟨b, o, none⟩) ∧
    (∀ b, b < W.heap.size → b < w1.heap.size) :=
  ⟨fun b o h => hb.cell (p := ⟨b, o, none⟩) h, fun b o h => hb.frozen (p := ⟨b, o, none⟩) h, fun b h => Nat.lt_of_lt_of_le h hb.size⟩

/-- From w to w' only blocks of the owners ts have turned; whose the old ones are has not. -/
structure Fr (ts : List Nat) (w w' : World) (ow ow' : Nat → Nat) : Prop where
  os : w'.os = w.os
  tape : w'.tape = w.tape
  output : w'.output = w.output
  size : w.heap.size ≤ w'.heap.size
  old : ∀ b, b < w.heap.size → ow' b = ow b
  same : ∀ b, b < w.heap.size → ow b ∉ ts → w'.heap[b]? = w.heap[b]?

/-- Whose the blocks are, a new one beside. -/
def ext (ow : Nat → Nat) (n t : Nat) : Nat → Nat := fun b => if b = n then t else ow b
theorem ext_new (ow : Nat → Nat) (n t : Nat) : ext ow n t n = t := by simp [ext]
theorem ext_old (ow : Nat → Nat) {n t b : Nat} (h : b < n) : ext ow n t b = ow b := by unfold ext; rw [if_neg (by omega)]

/-- Whose the blocks are, all new ones one owner's. -/
def extAll (ow : Nat → Nat) (n t : Nat) : Nat → Nat := fun b => if b < n then ow b else t
theorem extAll_old (ow : Nat → Nat) {n t b : Nat} (h : b < n) : extAll ow n t b = ow b := if_pos h
theorem extAll_new (ow : Nat → Nat) {n t b : Nat} (h : n ≤ b) : extAll ow n t b = t := if_neg (by omega)

section
variable {ts us : List Nat} {w w1 w' : World} {ow ow1 ow' : Nat → Nat}
theorem Fr.start (ts : List Nat) (w : World) (ow : Nat → Nat) (t : Nat) : Fr ts w w ow (extAll ow w.heap.size t) := ⟨rfl, rfl, rfl, Nat.le_refl _, fun _ h => extAll_old ow h, fun _ _ _ => rfl⟩
theorem Fr.start' (ts : List Nat) (w : World) (a : Addr) (v : Value) (ow : Nat → Nat) {n t : Nat} (hn : n = w.heap.size) : Fr ts (w.setCell a v) (w.setCell a v) ow (extAll ow n t) :=
  ⟨rfl, rfl, rfl, Nat.le_refl _, fun _ h => extAll_old ow (by subst hn; simpa using h), fun _ _ _ => rfl⟩
theorem Fr.refl (ts : List Nat) (w : World) (ow : Nat → Nat) : Fr ts w w ow ow := ⟨rfl, rfl, rfl, Nat.le_refl _, fun _ _ => rfl, fun _ _ _ => rfl⟩
theorem Fr.trans (h : Fr ts w w1 ow ow1) (k : Fr us w1 w' ow1 ow') (hs : ∀ t ∈ us, t ∈ ts) : Fr ts w w' ow ow' :=
  ⟨k.os.trans h.os, k.tape.trans h.tape, k.output.trans h.output, Nat.le_trans h.size k.size,
   fun b hb => (k.old b (Nat.lt_of_lt_of_le hb h.size)).trans (h.old b hb),
   fun b hb hn => (k.same b (Nat.lt_of_lt_of_le hb h.size) (fun hc => hn (by rw [← h.old b hb]; exact hs _ hc))).trans (h.same b hb hn)⟩
theorem Fr.mono (h : Fr us w w' ow ow') (hs : ∀ t ∈ us, t ∈ ts) : Fr ts w w' ow ow' :=
  ⟨h.os, h.tape, h.output, h.size, h.old, fun b hb hn => h.same b hb (fun hc => hn (hs _ hc))⟩
theorem Fr.drew (h : Fr ts w w' ow ow') : Fr ts w w'.drew ow ow' := ⟨h.os, h.tape, h.output, h.size, h.old, h.same⟩
theorem Fr.drewN (h : Fr ts w w' ow ow') (n : Nat) : Fr ts w (w'.drewN n) ow ow' := ⟨h.os, h.tape, h.output, h.size, h.old, h.same⟩
theorem Fr.alloc (h : Fr ts w w' ow ow') (o : Obj) (t : Nat) : Fr ts w (w'.alloc o) ow (ext ow' w'.heap.size t) :=
  ⟨h.os, h.tape, h.output, by have := h.size; simp; omega, fun b hb => by rw [ext_old _ (Nat.lt_of_lt_of_le hb h.size)]; exact h.old b hb,
   fun b hb hn => (Below.heap_alloc _ _ _ (Nat.lt_of_lt_of_le hb h.size)).trans (h.same b hb hn)⟩
theorem Fr.alloc0 (h : Fr ts w w' ow ow') (o : Obj) : Fr ts w (w'.alloc o) ow ow' :=
  ⟨h.os, h.tape, h.output, by have := h.size; simp; omega, h.old, fun b hb hn => (Below.heap_alloc _ _ _ (Nat.lt_of_lt_of_le hb h.size)).trans (h.same b hb hn)⟩
theorem Fr.of_below {w w' : World} (h : Below w.heap.size w w') (ts : List Nat) (ow : Nat → Nat) : Fr ts w w' ow ow :=
  ⟨h.os, h.tape, h.output, h.size, fun _ _ => rfl, fun b hb _ => h.block b hb⟩
theorem Fr.setCell (h : Fr ts w w' ow ow') {p : Addr} (hp : ow' p.block ∈ ts) (u : Value) : Fr ts w (w'.setCell p u) ow ow' :=
  ⟨h.os, h.tape, h.output, by have := h.size; simp; omega, h.old,
   fun b hb hn => (Below.heap_setCell _ _ _ _ (fun e => hn (by rw [← h.old b hb, e]; exact hp))).trans (h.same b hb hn)⟩
/-- A store into a block that is new since the frame's beginning. -/
theorem Fr.setNew (h : Fr ts w w' ow ow') {p : Addr} (hp : w.heap.size ≤ p.block) (u : Value) : Fr ts w (w'.setCell p u) ow ow' :=
  ⟨h.os, h.tape, h.output, by have := h.size; simp; omega, h.old,
   fun b hb hn => (Below.heap_setCell _ _ _ _ (fun e => by omega)).trans (h.same b hb hn)⟩
theorem Fr.blk (h : Fr ts w w' ow ow') {g : Nat} {t : TypeId} {cs : Array Value} (hb : Blk w g t cs) (hn : ow g ∉ ts) : Blk w' g t cs :=
  hb.same (h.same g hb.lt hn)
theorem Fr.own (h : Fr ts w w' ow ow') {g : Nat} {t : TypeId} {cs : Array Value} (hb : Blk w g t cs) : ow' g = ow g := h.old g hb.lt
theorem Fr.below (h : Fr ts w w' (fun _ => 0) ow') (h0 : 0 ∉ ts) : Below w.heap.size w w' :=
  ⟨h.os, h.tape, h.output, h.size, fun k hk => h.same k hk h0⟩
end

/-- What hangs on the blocks of the owners ts alone. -/
def Locl (ts : List Nat) (R : World → (Nat → Nat) → Prop) : Prop :=
  ∀ w w' ow ow', (∀ b, b < w.heap.size → ow b ∈ ts → ow' b = ow b ∧ w'.heap[b]? = w.heap[b]?) → R w ow → R w' ow'

theorem Locl.keep {ts us : List Nat} {R : World → (Nat → Nat) → Prop} {w w' : World} {ow ow' : Nat → Nat}
    (h : Locl ts R) (hr : R w ow) (hf : Fr us w w' ow ow') (hd : ∀ t ∈ ts, t ∉ us) : R w' ow' :=
  h w w' ow ow' (fun b hb ht => ⟨hf.old b hb, hf.same b hb (hd _ ht)⟩) hr

theorem Locl.of_blk {ts : List Nat} {g : Nat} {t : TypeId} {cs : Array Value} {w w' : World} {ow ow' : Nat → Nat}
    (h : ∀ b, b < w.heap.size → ow b ∈ ts → ow' b = ow b ∧ w'.heap[b]? = w.heap[b]?) (hb : Blk w g t cs) (ho : ow g ∈ ts) : Blk w' g t cs ∧ ow' g = ow g :=
  ⟨hb.same (h g hb.lt ho).2, (h g hb.lt ho).1⟩

/-- What a call comes to: it returns v; only blocks of the owners ts have turned; and Q. -/
def Post (ts : List Nat) (w : World) (ow : Nat → Nat) (v : Value) (Q : World → (Nat → Nat) → Prop) (e : Ending) (w' : World) : Prop :=
  e = .returned v ∧ ∃ ow', Fr ts w w' ow ow' ∧ Q w' ow'
theorem Post.mk {ts : List Nat} {w w' : World} {ow : Nat → Nat} {v : Value} {Q : World → (Nat → Nat) → Prop} {e : Ending} (he : e = .returned v) (ow' : Nat → Nat) (hf : Fr ts w w' ow ow') (hq : Q w' ow') : Post ts w ow v Q e w' := ⟨he, ow', hf, hq⟩

/-! ## slices of the program's own -/
/-- v is a slice of the cells xs, sz a piece, in a block of owner t that nobody else has; or it has no room at all. -/
def Sl (t : Nat) (E : TypeId) (sz : Nat) (v : Value) (xs : List Value) (w : World) (ow : Nat → Nat) : Prop :=
  ∃ a n c, v = .slice a n c ∧ xs.length = n * sz ∧
    ((n = 0 ∧ c = 0) ∨ ∃ b cs, a = some ⟨b, 0, none⟩ ∧ ow b = t ∧ Blk w b E cs ∧ n ≤ c ∧ c ≤ maxLen ∧ cs.size = c * sz ∧ cs.toList.take (n * sz) = xs)

theorem Sl.loc {t : Nat} {E : TypeId} {sz : Nat} {v : Value} {xs : List Value} : Locl [t] (Sl t E sz v xs) := by
  intro w w' ow ow' h hr
  obtain ⟨a, n, c, hv, hl, h1 | ⟨b, cs, ha, ho, hb, h2⟩⟩ := hr
  · exact ⟨a, n, c, hv, hl, .inl h1⟩
  · obtain ⟨hb', ho'⟩ := Locl.of_blk h hb (by simp [ho])
    exact ⟨a, n, c, hv, hl, .inr ⟨b, cs, ha, ho'.trans ho, hb', h2⟩⟩
theorem Sl.nil (t : Nat) (E : TypeId) (sz : Nat) (a : Option Addr) (w : World) (ow : Nat → Nat) : Sl t E sz (.slice a 0 0) [] w ow :=
  ⟨a, 0, 0, rfl, by simp, .inl ⟨rfl, rfl⟩⟩

section
variable {t : Nat} {E : TypeId} {sz : Nat} {v : Value} {xs : List Value} {w : World} {ow : Nat → Nat}
/-- Its form. -/
theorem Sl.form (h : Sl t E sz v xs w ow) : ∃ a n c, v = .slice a n c ∧ xs.length = n * sz := by
  obtain ⟨a, n, c, hv, hl, _⟩ := h; exact ⟨a, n, c, hv, hl⟩
/-- Its cells, where it has some. -/
theorem Sl.cells (h : Sl t E sz v xs w ow) (hx : xs ≠ []) : ∃ b n c, v = .slice (some ⟨b, 0, none⟩) n c ∧ xs.length = n * sz ∧ ow b = t ∧ b < w.heap.size ∧
    (∀ j u, xs[j]? = some u → w.cell? ⟨b, j, none⟩ = some u) ∧ (∀ j, w.frozen? ⟨b, j, none⟩ = false) := by
  obtain ⟨a, n, c, hv, hl, ⟨h0, _⟩ | ⟨b, cs, ha, ho, hb, hn, hm, hs, ht⟩⟩ := h
  · subst h0
    exact absurd (List.eq_nil_of_length_eq_zero (by simpa using hl)) hx
  · refine ⟨b, n, c, by rw [hv, ha], hl, ho, hb.lt, fun j u hu => ?_, hb.frozen⟩
    rw [hb.cell]
    rw [← ht, List.getElem?_take] at hu
    split at hu
    · simpa using hu
    · cases hu
end

end Hat
