/- package elim: what a visit of the array is in the heap; how it begins. -/
import Derived.Test.YtkilpnfgpepfmaaExF
import Derived.Deep.RegionHeld3
set_option linter.unusedSimpArgs false
set_option linter.unusedVariables false
set_option linter.unusedSectionVars false
open Go Go.RowKit Hat
namespace Go.Proofs.Ytkilpnfgpepfmaa
set_option maxHeartbeats 2000000
set_option maxRecDepth 100000

structure ElWf (x : El) : Prop where
  t0 : 0 ≤ x.c.tag
  t1 : x.c.tag < 4294967296
  r1 : x.s.range < 9223372036854775808
  i0 : 0 ≤ x.i
  i1 : x.i < 4294967296
  b1 : x.base < 9223372036854775808
  w0 : 0 ≤ x.wait
  w1 : x.wait < 18446744073709551616

/-- What the beginning of a visit captured: its variables, as they were when it was made. -/
structure ElBox (t p : Nat) (x : El) (b0 b1 bv b3 b4 b5 b6 : Nat) (w : World) (ow : Nat → Nat) : Prop where
  hb0 : Blk w b0 26 #[.int .i64 x.c.nodes, .int .i64 x.c.slots, .int .i64 x.c.holders, .int .u32 x.c.tag]
  hb1 : Blk w b1 34 #[.int .i64 x.s.range, .int .i64 x.s.exp]
  hbv : Blk w bv 31 #[.pointer (some ⟨p, 0, none⟩)]
  hb3 : Blk w b3 4 #[.bool x.push]
  hb4 : Blk w b4 24 #[.int .u32 x.i]
  hb5 : Blk w b5 22 #[.int .u64 x.wait]
  hb6 : Blk w b6 3 #[.int .i64 x.base]
  ob0 : ow b0 = t
  ob1 : ow b1 = t
  obv : ow bv = t
  ob3 : ow b3 = t
  ob4 : ow b4 = t
  ob5 : ow b5 = t
  ob6 : ow b6 = t
theorem ElBox.loc {t p : Nat} {x : El} {b0 b1 bv b3 b4 b5 b6 : Nat} : Locl [t] (ElBox t p x b0 b1 bv b3 b4 b5 b6) := by
  intro w w' ow ow' h hr
  obtain ⟨kb0, lb0⟩ := Locl.of_blk h hr.hb0 (by simp [hr.ob0])
  obtain ⟨kb1, lb1⟩ := Locl.of_blk h hr.hb1 (by simp [hr.ob1])
  obtain ⟨kbv, lbv⟩ := Locl.of_blk h hr.hbv (by simp [hr.obv])
  obtain ⟨kb3, lb3⟩ := Locl.of_blk h hr.hb3 (by simp [hr.ob3])
  obtain ⟨kb4, lb4⟩ := Locl.of_blk h hr.hb4 (by simp [hr.ob4])
  obtain ⟨kb5, lb5⟩ := Locl.of_blk h hr.hb5 (by simp [hr.ob5])
  obtain ⟨kb6, lb6⟩ := Locl.of_blk h hr.hb6 (by simp [hr.ob6])
  exact ⟨kb0, kb1, kbv, kb3, kb4, kb5, kb6, lb0.trans hr.ob0, lb1.trans hr.ob1, lbv.trans hr.obv, lb3.trans hr.ob3, lb4.trans hr.ob4, lb5.trans hr.ob5, lb6.trans hr.ob6⟩

/-- A visit of the array x in block p (owner t; its exchange's blocks are of owner t + 1). -/
def IsEl (t p : Nat) (x : El) (w : World) (ow : Nat → Nat) : Prop :=
  ow p = t ∧ ElWf x ∧ ∃ vp fn, Blk w p 115 #[vp, .int .i64 x.c.nodes, .int .i64 x.c.slots, .int .i64 x.c.holders, .int .u32 x.c.tag, .int .i64 x.s.range, .int .i64 x.s.exp, fn, .int .i64 x.place, .int .i64 x.ended] ∧
    ((x.v = none ∧ vp = .pointer none ∧ x.place = -1 ∧ (x.ended = 2 ∨ (x.ended = 0 ∧ ∃ b0 b1 bv b3 b4 b5 b6, fn = (.func (.func 47) #[] #[.pointer (some ⟨b0, 0, none⟩), .pointer (some ⟨b1, 0, none⟩), .pointer (some ⟨bv, 0, none⟩), .pointer (some ⟨b3, 0, none⟩), .pointer (some ⟨b4, 0, none⟩), .pointer (some ⟨b5, 0, none⟩), .pointer (some ⟨b6, 0, none⟩)]) ∧ ElBox t p x b0 b1 bv b3 b4 b5 b6 w ow))) ∨
     (∃ e q, x.v = some e ∧ vp = .pointer (some ⟨q, 0, none⟩) ∧ (x.ended = 0 → x.s.right x.c.slots = true) ∧ IsEx (t + 1) q e w ow))
theorem IsEl.loc {t p : Nat} {x : El} : Locl [t, t + 1] (IsEl t p x) := by
  intro w w' ow ow' h hr
  obtain ⟨ho, hwf, vp, fn, hb, hc⟩ := hr
  obtain ⟨hb', ho'⟩ := Locl.of_blk h hb (by simp [ho])
  refine ⟨ho'.trans ho, hwf, vp, fn, hb', ?_⟩
  rcases hc with ⟨h1, h2, hp, h3 | ⟨h30, b0, b1, bv, b3, b4, b5, b6, h4, h5⟩⟩ | ⟨e, q, h1, h2, h3r, h4⟩
  · exact .inl ⟨h1, h2, hp, .inl h3⟩
  · exact .inl ⟨h1, h2, hp, .inr ⟨h30, b0, b1, bv, b3, b4, b5, b6, h4, ElBox.loc w w' ow ow' (fun b hlt hm => h b hlt (by simp at hm; simp [hm])) h5⟩⟩
  · exact .inr ⟨e, q, h1, h2, h3r, IsExS.loc w w' ow ow' (fun b hlt hm => h b hlt (by simp at hm; simp [hm])) h4⟩

theorem elnew_calls (t : Nat) (c : Cfg) (s : Pol) (push : Bool) (i base wait : Int) (w : World) (ow : Nat → Nat) (hwf : ElWf (El.new c s push i base wait)) :
    Calls Try.prog 15 #[.agg #[.int .i64 c.nodes, .int .i64 c.slots, .int .i64 c.holders, .int .u32 c.tag], .agg #[.int .i64 s.range, .int .i64 s.exp], .bool push, .int .u32 i, .int .i64 base, .int .u64 wait] w
      fun e w' => ∃ p, Post [] w ow (.pointer (some ⟨p, 0, none⟩)) (IsEl t p (El.new c s push i base wait)) e w' := by
  have Hwf := hid hwf
  clear hwf
  go_enter Try.func15, Try.ntmps15
  go_wp2
  go_ret
  refine ⟨_, Post.mk rfl (extAll ow w.heap.size t) ?_ ⟨extAll_new ow (by omega), Hwf.out, .pointer none, .func (.func 47) #[] #[.pointer (some ⟨w.heap.size, 0, none⟩), .pointer (some ⟨w.heap.size + 1, 0, none⟩), .pointer (some ⟨w.heap.size + 1 + 1 + 1 + 1 + 1 + 1 + 1, 0, none⟩), .pointer (some ⟨w.heap.size + 1 + 1, 0, none⟩), .pointer (some ⟨w.heap.size + 1 + 1 + 1, 0, none⟩), .pointer (some ⟨w.heap.size + 1 + 1 + 1 + 1 + 1, 0, none⟩), .pointer (some ⟨w.heap.size + 1 + 1 + 1 + 1, 0, none⟩)], ?_, .inl ⟨rfl, rfl, rfl, .inr ⟨rfl, w.heap.size, w.heap.size + 1, w.heap.size + 1 + 1 + 1 + 1 + 1 + 1 + 1, w.heap.size + 1 + 1, w.heap.size + 1 + 1 + 1, w.heap.size + 1 + 1 + 1 + 1 + 1, w.heap.size + 1 + 1 + 1 + 1, rfl, ?_⟩⟩⟩⟩
  · repeat' (first | (with_reducible exact Fr.start _ _ _ _) | (with_reducible refine Fr.alloc0 ?_ _))
  · dsimp only [El.new]
    repeat' (first | ((with_reducible refine Blk.new' _ _ _ _ ?_); simp only [World.size_alloc, World.size_setCell, World.size_drew]; done) | ((with_reducible refine Blk.new' _ _ _ _ ?_); rfl) | (with_reducible refine Blk.drew ?_) | (with_reducible refine Blk.drewN ?_ _) | (with_reducible refine Blk.alloc ?_ _) | (with_reducible refine Blk.far ?_ ?_ _) | (dsimp only; omega))
  · refine ⟨?_, ?_, ?_, ?_, ?_, ?_, ?_, extAll_new ow (by omega), extAll_new ow (by omega), extAll_new ow (by omega), extAll_new ow (by omega), extAll_new ow (by omega), extAll_new ow (by omega), extAll_new ow (by omega)⟩
    all_goals
      try dsimp only [El.new]
      repeat' (first | ((with_reducible refine Blk.new' _ _ _ _ ?_); simp only [World.size_alloc, World.size_setCell, World.size_drew]; done) | ((with_reducible refine Blk.new' _ _ _ _ ?_); rfl) | (with_reducible refine Blk.drew ?_) | (with_reducible refine Blk.drewN ?_ _) | (with_reducible refine Blk.alloc ?_ _) | (with_reducible refine Blk.far ?_ ?_ _) | (dsimp only; omega))
end Go.Proofs.Ytkilpnfgpepfmaa
