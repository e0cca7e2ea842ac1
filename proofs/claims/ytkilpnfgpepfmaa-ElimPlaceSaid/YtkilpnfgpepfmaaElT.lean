/- elim: a step of a visit that has no slot yet. -/
import Derived.Test.YtkilpnfgpepfmaaElS
set_option linter.unusedSimpArgs false
set_option linter.unusedVariables false
set_option linter.unusedSectionVars false
open Go Go.RowKit Hat
namespace Go.Proofs.Ytkilpnfgpepfmaa
set_option maxHeartbeats 4000000
set_option maxRecDepth 100000

theorem elstep_ended (p pm pr : Nat) (x : El) (vp fn : Value) (w : World)
    (hb : Blk w p 115 #[vp, .int .i64 x.c.nodes, .int .i64 x.c.slots, .int .i64 x.c.holders, .int .u32 x.c.tag, .int .i64 x.s.range, .int .i64 x.s.exp, fn, .int .i64 x.place, .int .i64 x.ended]) (h2 : (x.ended == 2) = true) :
    Calls Try.prog 17 #[.pointer (some ⟨p, 0, none⟩), .pointer (some ⟨pm, 0, none⟩), .pointer (some ⟨pr, 0, none⟩)] w fun e w' => e = .returned (.tuple #[.int .i64 2, .int .u32 0]) ∧ w' = w := by
  obtain ⟨hcp, hfp, hplW⟩ := hb.all
  clear hb
  go_enter Try.func17, Try.ntmps17
  go_wp2
  go_ret2
  exact ⟨rfl, rfl⟩
theorem blkc_below {w w' : World} {p : Nat} {cs : Array Value} (hl : p < w.heap.size) (h : ∀ i, w.cell? ⟨p, i, none⟩ = cs[i]?) (hb : Below w.heap.size w w') :
    ∀ i, w'.cell? ⟨p, i, none⟩ = cs[i]? := fun i => ((bcell hb).1 p i hl).trans (h i)
theorem blkf_below {w w' : World} {p : Nat} (hl : p < w.heap.size) (h : ∀ i, w.frozen? ⟨p, i, none⟩ = false) (hb : Below w.heap.size w w') :
    ∀ i, w'.frozen? ⟨p, i, none⟩ = false := fun i => ((bcell hb).2.1 p i hl).trans (h i)
theorem World.Below_size {w w' : World} {B : Nat} (h : Below B w w') : w.heap.size ≤ w'.heap.size := h.size
structure Keeps (w : World) (p : Nat) (cs : Array Value) (w' : World) : Prop where
  c : ∀ i, w'.cell? ⟨p, i, none⟩ = cs[i]?
  b : Below w.heap.size w w'
theorem wp_region_class {P : Program} {C : World → Prop} {id : Nat} {Q : Exit → Act → World → Prop} {a : Act} {w : World} {l : List Oper} (hm : P.follows .mixedOrders = true) (hB : Region.lexB .any l.toArray = true) (hC : C { w with drawn := w.drawn + 1 })
    (h : wpQuiet P l.toArray C (fun a' => ∀ w', C w' → Q .normal a' w') l a) : (Code.region id l.toArray true).wp P Q a w :=
  wp_region_quiet hm hB hC (by simpa using h)
theorem below_drew1 (w : World) : Below w.heap.size w { w with drawn := w.drawn + 1 } := ⟨rfl, rfl, rfl, Nat.le_refl _, fun _ _ => rfl⟩
theorem below_nodraw {w w' : World} (h : Below w.drew.heap.size w.drew w') : Below w.heap.size w w' := ⟨h.os, h.tape, h.output, h.size, h.block⟩
theorem elstep_bad1 (t p pm pr : Nat) (x : El) (fn : Value) (w : World) (ow : Nat → Nat) (hop : ow p = t)
    (hb : Blk w p 115 #[.pointer none, .int .i64 x.c.nodes, .int .i64 x.c.slots, .int .i64 x.c.holders, .int .u32 x.c.tag, .int .i64 x.s.range, .int .i64 x.s.exp, fn, .int .i64 x.place, .int .i64 x.ended]) (h2 : (x.ended == 2) = false) (hk1 : chk x.c = 1) :
    Calls Try.prog 17 #[.pointer (some ⟨p, 0, none⟩), .pointer (some ⟨pm, 0, none⟩), .pointer (some ⟨pr, 0, none⟩)] w (Post [t] w ow (.tuple #[.int .i64 2, .int .u32 0]) (fun w' ow' => ow' = ow ∧ Blk w' p 115 #[.pointer none, .int .i64 x.c.nodes, .int .i64 x.c.slots, .int .i64 x.c.holders, .int .u32 x.c.tag, .int .i64 x.s.range, .int .i64 x.s.exp, fn, .int .i64 x.place, .int .i64 2])) := by
  obtain ⟨hcp, hfp, hplW⟩ := hb.all
  have Hb := hid hb
  clear hb
  go_enter Try.func17, Try.ntmps17
  go_wp2
  refine wp_region_class (C := Keeps w p #[.pointer none, .int .i64 x.c.nodes, .int .i64 x.c.slots, .int .i64 x.c.holders, .int .u32 x.c.tag, .int .i64 x.s.range, .int .i64 x.s.exp, fn, .int .i64 x.place, .int .i64 x.ended]) (by kernel_rfl) (by kernel_rfl) ⟨hcp, below_drew1 w⟩ ?_
  repeat
    (first
      | go_big_quiet_skip
      | (go_big_quiet_want
         apply Exists.intro
         refine ⟨fun w' hC => ?_, ?_⟩
         focus
           have hcc := hC.c
           unfold Oper.quietAt
           simp [go_sem, hcc]
           first
             | rfl
             | exact ⟨rfl, rfl⟩
             | (refine (check_calls x.c _).mono ?_; rintro e1 w1 ⟨rfl, hb1⟩; rw [hk1]; exact ⟨rfl, blkc_below (Nat.lt_of_lt_of_le hplW hC.b.size) hC.c hb1, below_step hC.b hb1⟩)
         simp only [Act.put, List.setIfInBounds_toArray, List.set_cons_zero, List.set_cons_succ]
         go_big_quiet_on))
  refine wpQuiet_nil ?_
  rintro w1 ⟨j1, hb1⟩
  have HB1 := hid hb1
  have f1 := blkf_below hplW hfp hb1
  have l1 := Nat.lt_of_lt_of_le hplW hb1.size
  clear hb1
  go_wp2
  go_ret2
  have P1 := Hb.out.below HB1.out hplW
  have F1 := Fr.of_below HB1.out [t] ow
  exact Post.mk rfl ow (F1.setCell (by simp [hop]) _) ⟨rfl, P1.set' 9 _ _ rfl⟩
theorem elstep_bad2 (t p pm pr : Nat) (x : El) (fn : Value) (w : World) (ow : Nat → Nat) (hop : ow p = t)
    (hb : Blk w p 115 #[.pointer none, .int .i64 x.c.nodes, .int .i64 x.c.slots, .int .i64 x.c.holders, .int .u32 x.c.tag, .int .i64 x.s.range, .int .i64 x.s.exp, fn, .int .i64 x.place, .int .i64 x.ended]) (h2 : (x.ended == 2) = false) (hk1 : chk x.c = 0) (hk2 : (x.c.slots == 0) = true) :
    Calls Try.prog 17 #[.pointer (some ⟨p, 0, none⟩), .pointer (some ⟨pm, 0, none⟩), .pointer (some ⟨pr, 0, none⟩)] w (Post [t] w ow (.tuple #[.int .i64 2, .int .u32 0]) (fun w' ow' => ow' = ow ∧ Blk w' p 115 #[.pointer none, .int .i64 x.c.nodes, .int .i64 x.c.slots, .int .i64 x.c.holders, .int .u32 x.c.tag, .int .i64 x.s.range, .int .i64 x.s.exp, fn, .int .i64 x.place, .int .i64 2])) := by
  obtain ⟨hcp, hfp, hplW⟩ := hb.all
  have Hb := hid hb
  clear hb
  go_enter Try.func17, Try.ntmps17
  go_wp2
  refine wp_region_class (C := Keeps w p #[.pointer none, .int .i64 x.c.nodes, .int .i64 x.c.slots, .int .i64 x.c.holders, .int .u32 x.c.tag, .int .i64 x.s.range, .int .i64 x.s.exp, fn, .int .i64 x.place, .int .i64 x.ended]) (by kernel_rfl) (by kernel_rfl) ⟨hcp, below_drew1 w⟩ ?_
  repeat
    (first
      | go_big_quiet_skip
      | (go_big_quiet_want
         apply Exists.intro
         refine ⟨fun w' hC => ?_, ?_⟩
         focus
           have hcc := hC.c
           unfold Oper.quietAt
           simp [go_sem, hcc, hk2]
           first
             | rfl
             | exact ⟨rfl, rfl⟩
             | (refine (check_calls x.c _).mono ?_; rintro e1 w1 ⟨rfl, hb1⟩; rw [hk1]; exact ⟨rfl, blkc_below (Nat.lt_of_lt_of_le hplW hC.b.size) hC.c hb1, below_step hC.b hb1⟩)
         simp only [Act.put, List.setIfInBounds_toArray, List.set_cons_zero, List.set_cons_succ]
         go_big_quiet_on))
  refine wpQuiet_nil ?_
  rintro w1 ⟨j1, hb1⟩
  have HB1 := hid hb1
  have f1 := blkf_below hplW hfp hb1
  have l1 := Nat.lt_of_lt_of_le hplW hb1.size
  clear hb1
  go_wp2
  go_ret2
  have P1 := Hb.out.below HB1.out hplW
  have F1 := Fr.of_below HB1.out [t] ow
  exact Post.mk rfl ow (F1.setCell (by simp [hop]) _) ⟨rfl, P1.set' 9 _ _ rfl⟩
theorem elstep_bad3 (t p pm pr : Nat) (x : El) (fn : Value) (w : World) (ow : Nat → Nat) (hop : ow p = t)
    (hb : Blk w p 115 #[.pointer none, .int .i64 x.c.nodes, .int .i64 x.c.slots, .int .i64 x.c.holders, .int .u32 x.c.tag, .int .i64 x.s.range, .int .i64 x.s.exp, fn, .int .i64 x.place, .int .i64 x.ended]) (h2 : (x.ended == 2) = false) (hk1 : chk x.c = 0) (hk2 : (x.c.slots == 0) = false) (hk3 : x.s.right x.c.slots = false) :
    Calls Try.prog 17 #[.pointer (some ⟨p, 0, none⟩), .pointer (some ⟨pm, 0, none⟩), .pointer (some ⟨pr, 0, none⟩)] w (Post [t] w ow (.tuple #[.int .i64 2, .int .u32 0]) (fun w' ow' => ow' = ow ∧ Blk w' p 115 #[.pointer none, .int .i64 x.c.nodes, .int .i64 x.c.slots, .int .i64 x.c.holders, .int .u32 x.c.tag, .int .i64 x.s.range, .int .i64 x.s.exp, fn, .int .i64 x.place, .int .i64 2])) := by
  obtain ⟨hcp, hfp, hplW⟩ := hb.all
  have Hb := hid hb
  clear hb
  go_enter Try.func17, Try.ntmps17
  go_wp2
  refine wp_region_class (C := Keeps w p #[.pointer none, .int .i64 x.c.nodes, .int .i64 x.c.slots, .int .i64 x.c.holders, .int .u32 x.c.tag, .int .i64 x.s.range, .int .i64 x.s.exp, fn, .int .i64 x.place, .int .i64 x.ended]) (by kernel_rfl) (by kernel_rfl) ⟨hcp, below_drew1 w⟩ ?_
  repeat
    (first
      | go_big_quiet_skip
      | (go_big_quiet_want
         apply Exists.intro
         refine ⟨fun w' hC => ?_, ?_⟩
         focus
           have hcc := hC.c
           unfold Oper.quietAt
           simp [go_sem, hcc, hk2]
           first
             | rfl
             | exact ⟨rfl, rfl⟩
             | (refine (check_calls x.c _).mono ?_; rintro e1 w1 ⟨rfl, hb1⟩; rw [hk1]; exact ⟨rfl, blkc_below (Nat.lt_of_lt_of_le hplW hC.b.size) hC.c hb1, below_step hC.b hb1⟩)
              | (refine (right_calls x.s x.c.slots _).mono ?_; rintro e1 w1 ⟨rfl, hb1⟩; rw [hk3]; exact ⟨rfl, blkc_below (Nat.lt_of_lt_of_le hplW hC.b.size) hC.c hb1, below_step hC.b hb1⟩)
         simp only [Act.put, List.setIfInBounds_toArray, List.set_cons_zero, List.set_cons_succ]
         go_big_quiet_on))
  refine wpQuiet_nil ?_
  rintro w1 ⟨j1, hb1⟩
  have HB1 := hid hb1
  have f1 := blkf_below hplW hfp hb1
  have l1 := Nat.lt_of_lt_of_le hplW hb1.size
  clear hb1
  go_wp2
  go_ret2
  have P1 := Hb.out.below HB1.out hplW
  have F1 := Fr.of_below HB1.out [t] ow
  exact Post.mk rfl ow (F1.setCell (by simp [hop]) _) ⟨rfl, P1.set' 9 _ _ rfl⟩
end Go.Proofs.Ytkilpnfgpepfmaa
