/- elim: a visit of the array begins: the slot is drawn. -/
import Derived.Test.YtkilpnfgpepfmaaEl
set_option linter.unusedSimpArgs false
set_option linter.unusedVariables false
set_option linter.unusedSectionVars false
open Go Go.RowKit Hat
namespace Go.Proofs.Ytkilpnfgpepfmaa
set_option maxHeartbeats 4000000
set_option maxRecDepth 100000

theorem now_cell (p : Nat) (n : Int) (w : World) (h : w.cell? ⟨p, 0, none⟩ = some (.int .u64 n)) :
    Calls Try.prog 51 #[.pointer (some ⟨p, 0, none⟩)] w fun e w' => e = .returned (.int .u64 n) ∧ w = w' := by
  go_enter Try.func51, Try.ntmps51
  go_wp2
  go_ret
  exact ⟨rfl, rfl⟩
theorem draw_range (s : Src) (n : Int) (h : ∀ d ∈ s.draws, 0 ≤ d ∧ d < 64) : 0 ≤ (s.draw n).1 ∧ (s.draw n).1 < 64 := by
  unfold Src.draw
  split
  · simp
  · split
    · simp
    · rename_i h1 d r hd
      have := h d (by rw [hd]; simp)
      dsimp only
      exact ⟨Int.emod_nonneg _ (by omega), by have h1 := Int.mul_ediv_add_emod d n; have h2 : 0 ≤ n * (d / n) := Int.mul_nonneg (by omega) (Int.ediv_nonneg (by omega) (by omega)); generalize n * (d / n) = y at *; omega⟩
theorem draw_now (s : Src) (n : Int) : (s.draw n).2.now = s.now := by unfold Src.draw; split <;> (try split) <;> rfl

theorem Fr.cell0 {w w' : World} {ow ow' : Nat → Nat} (h : Fr [] w w' ow ow') (b i : Nat) (hb : b < w.heap.size) : w'.cell? ⟨b, i, none⟩ = w.cell? ⟨b, i, none⟩ :=
  World.cell?_of_block (w := w) (h.same b hb (by simp))
theorem dbl_le (k : Nat) : ∀ n : Int, n ≤ 64 → dbl k n ≤ 64 := by
  induction k with
  | zero => intro n h; exact h
  | succ k ih => intro n h; exact ih _ (by omega)
theorem polls_lt (s : Pol) (b : Int) : s.polls b < 9223372036854775808 := by
  have := dbl_le s.exp.toNat (min (max b 1) 64) (by omega)
  unfold Pol.polls
  omega

theorem begin_calls (t p tr pr b0 b1 bv b3 b4 b5 b6 : Nat) (x : El) (r : Src) (vp fn : Value) (pl0 en : Int) (w : World) (ow : Nat → Nat) (hwf : ElWf x) (hop : ow p = t)
    (hb : Blk w p 115 #[vp, .int .i64 x.c.nodes, .int .i64 x.c.slots, .int .i64 x.c.holders, .int .u32 x.c.tag, .int .i64 x.s.range, .int .i64 x.s.exp, fn, .int .i64 pl0, .int .i64 en]) (hbx : ElBox t p x b0 b1 bv b3 b4 b5 b6 w ow) (hr : IsSrc tr pr r w ow) (hx : 0 ≤ x.s.exp ∧ x.s.exp ≤ 6) (hd : t + 1 < tr ∨ tr + 1 < t) :
    Calls Try.prog 47 #[.pointer (some ⟨pr, 0, none⟩), .pointer (some ⟨b0, 0, none⟩), .pointer (some ⟨b1, 0, none⟩), .pointer (some ⟨bv, 0, none⟩), .pointer (some ⟨b3, 0, none⟩), .pointer (some ⟨b4, 0, none⟩), .pointer (some ⟨b5, 0, none⟩), .pointer (some ⟨b6, 0, none⟩)] w fun e w' => ∃ q, Post [t, tr, tr + 1] w ow (.pointer (some ⟨q, 0, none⟩))
      (fun w' ow' => ow' p = t ∧ Blk w' p 115 #[vp, .int .i64 x.c.nodes, .int .i64 x.c.slots, .int .i64 x.c.holders, .int .u32 x.c.tag, .int .i64 x.s.range, .int .i64 x.s.exp, fn, .int .i64 (x.c.slot (r.draw x.s.range).1), .int .i64 en] ∧
        IsEx (t + 1) q (Ex.new (x.c.slot (r.draw x.s.range).1) x.push x.i (deadline r.now x.wait) (x.s.polls x.base)) w' ow' ∧ IsSrc tr pr (r.draw x.s.range).2 w' ow') e w' := by
  have hdr := draw_range r x.s.range hr.2.2.1
  have hnow := draw_now r x.s.range
  have HR : IsSrc tr pr r w.drew ow := Locl.keep IsSrc.loc hr (us := []) ((Fr.refl _ _ _).drew) (by simp)
  have HD := hid (draw_calls tr pr r x.s.range w.drew ow HR hwf.r1)
  have hnr := hr.2.1
  generalize r.draw x.s.range = dr at *
  obtain ⟨d, r1⟩ := dr
  dsimp only at *
  have Hwf := hid hwf
  have Hb := hid hb
  have Hbx := hid hbx
  have Hd := hid hd
  have Hr := hid hr
  have Hx := hid hx
  have Hnow := hid hnow
  obtain ⟨hcp, hfp, hpl⟩ := hb.all
  have lb0 := hbx.hb0.lt
  have lb1 := hbx.hb1.lt
  have lbv := hbx.hbv.lt
  have lb3 := hbx.hb3.lt
  have lb4 := hbx.hb4.lt
  have lb5 := hbx.hb5.lt
  have lb6 := hbx.hb6.lt
  have cb0 := hbx.hb0.cell
  have cb1 := hbx.hb1.cell
  have cbv := hbx.hbv.cell
  have cb3 := hbx.hb3.cell
  have cb4 := hbx.hb4.cell
  have cb5 := hbx.hb5.cell
  have cb6 := hbx.hb6.cell
  clear hb hbx hwf hd hr hx HR hnow
  go_enter Try.func47, Try.ntmps47
  go_wp2
  go_region_held3 (fun w' => (∀ i, w'.cell? ⟨bv, i, none⟩ = (#[.pointer (some ⟨p, 0, none⟩)] : Array Value)[i]?) ∧ (∀ i, w'.cell? ⟨b0, i, none⟩ = (#[.int .i64 x.c.nodes, .int .i64 x.c.slots, .int .i64 x.c.holders, .int .u32 x.c.tag] : Array Value)[i]?) ∧ (∀ i, w'.cell? ⟨b1, i, none⟩ = (#[.int .i64 x.s.range, .int .i64 x.s.exp] : Array Value)[i]?))
    (first
      | exact ⟨cbv, cb0, cb1⟩
      | exact ⟨k1, k2, k3⟩
      | exact ⟨m1, m2, m3⟩
      | exact ⟨s1 _, s2 _, s3 _⟩
      | go_keep)
    ((first
      | (go_at_call 48
         refine HD.out.mono ?_
         rintro e w1 ⟨rfl, ow1, hf1, hs1⟩
         have hd := Hd.out
         have B1 : ElBox t p x b0 b1 bv b3 b4 b5 b6 w1 ow1 := Locl.keep ElBox.loc Hbx.out (((Fr.refl [tr, tr + 1] w ow).drew).trans hf1 (by simp)) (by simp; omega)
         have P1 : Blk w1 p 115 #[vp, .int .i64 x.c.nodes, .int .i64 x.c.slots, .int .i64 x.c.holders, .int .u32 x.c.tag, .int .i64 x.s.range, .int .i64 x.s.exp, fn, .int .i64 pl0, .int .i64 en] := hf1.blk (w := w.drew) Hb.out (by rw [hop]; simp; omega)
         have k1 := B1.hbv.cell
         have k2 := B1.hb0.cell
         have k3 := B1.hb1.cell
         have k4 := P1.frozen 8
         have k5 := P1.cell 8
         have lp1 := P1.lt
         have hop1 : ow1 p = t := by rw [hf1.old p hpl]; exact hop
         have HB1 := hid B1
         have HP1 := hid P1
         clear B1 P1)
      | (go_at_call 19
         refine (slot_calls x.c d _ (by omega) (by omega)).mono ?_
         rintro e w2 ⟨rfl, hb2⟩
         have HB2 := hid (Locl.keep ElBox.loc HB1.out (Fr.of_below hb2 [] ow1) (by simp))
         have HP2 := hid (HP1.out.below hb2 lp1)
         have m1 := HB2.out.hbv.cell
         have m2 := HB2.out.hb0.cell
         have m3 := HB2.out.hb1.cell
         have s1 := fun v => (HB2.out.hbv.far (p := ⟨p, 8, none⟩) (Blk.ne_ HB2.out.hbv HP2.out (by decide)) v).cell
         have s2 := fun v => (HB2.out.hb0.far (p := ⟨p, 8, none⟩) (Blk.ne_ HB2.out.hb0 HP2.out (by decide)) v).cell
         have s3 := fun v => (HB2.out.hb1.far (p := ⟨p, 8, none⟩) (Blk.ne_ HB2.out.hb1 HP2.out (by decide)) v).cell
         have m4 := HP2.out.frozen 8
         have m5 := HP2.out.cell 8)))
  have hd := Hd.out
  obtain ⟨W3, hW3⟩ : ∃ W3, W3 = w2.setCell ⟨p, 8, none⟩ (.int .i64 (x.c.slot d)) := ⟨_, rfl⟩
  have hF2 : Fr [] w1 w2 ow1 ow1 := Fr.of_below hb2 [] ow1
  have hF3 : Fr [t] w1 W3 ow1 ow1 := by
    subst hW3
    exact (hF2.mono (by simp)).setCell (by simp [hop1]) _
  have HF3 := hid ((((Fr.refl [t, tr, tr + 1] w ow).drew).trans hf1 (by simp)).trans hF3 (by simp))
  have HB3 : ElBox t p x b0 b1 bv b3 b4 b5 b6 W3 ow1 := by
    subst hW3
    exact ⟨HB2.out.hb0.far (Blk.ne_ HB2.out.hb0 HP2.out (by decide)) _, HB2.out.hb1.far (Blk.ne_ HB2.out.hb1 HP2.out (by decide)) _, HB2.out.hbv.far (Blk.ne_ HB2.out.hbv HP2.out (by decide)) _, HB2.out.hb3.far (Blk.ne_ HB2.out.hb3 HP2.out (by decide)) _,
      HB2.out.hb4.far (Blk.ne_ HB2.out.hb4 HP2.out (by decide)) _, HB2.out.hb5.far (Blk.ne_ HB2.out.hb5 HP2.out (by decide)) _, HB2.out.hb6.far (Blk.ne_ HB2.out.hb6 HP2.out (by decide)) _,
      HB2.out.ob0, HB2.out.ob1, HB2.out.obv, HB2.out.ob3, HB2.out.ob4, HB2.out.ob5, HB2.out.ob6⟩
  have HP3 : Blk W3 p 115 #[vp, .int .i64 x.c.nodes, .int .i64 x.c.slots, .int .i64 x.c.holders, .int .u32 x.c.tag, .int .i64 x.s.range, .int .i64 x.s.exp, fn, .int .i64 (x.c.slot d), .int .i64 en] := by
    subst hW3
    exact HP2.out.set' 8 _ _ rfl
  have HS3 : IsSrc tr pr r1 W3 ow1 := Locl.keep IsSrc.loc hs1 hF3 (by simp; omega)
  obtain ⟨osr, nwr, dsr, sa, sn, sc, bsr, slr⟩ := id HS3
  have a1 := HB3.hbv.cell
  have a2 := HP3.cell
  have a3 := HB3.hb3.cell
  have a4 := HB3.hb4.cell
  have a5 := HB3.hb5.cell
  have a6 := HB3.hb1.cell
  have a7 := HB3.hb6.cell
  have a8 := bsr.cell
  have z1 := HB3.hbv.lt
  have z2 := HP3.lt
  have z3 := HB3.hb3.lt
  have z4 := HB3.hb4.lt
  have z5 := HB3.hb5.lt
  have z6 := HB3.hb1.lt
  have z7 := HB3.hb6.lt
  have z8 := bsr.lt
  rw [← hW3]
  have hr1n : r1.now = r.now := Hnow.out
  rw [hr1n] at a8
  have HHB3 := hid HB3
  have HHP3 := hid HP3
  have HHS3 := hid HS3
  have hnow0 := Hr.out.2.1
  have hxx := Hx.out
  clear HB3 HP3 HS3 hr1n nwr dsr bsr slr hW3 m1 m2 m3 m4 m5 s1 s2 s3 k1 k2 k3 k4 k5 cbv cb0 cb1 cb3 cb4 cb5 cb6 hcp hfp HB1 HB2 HP1 HP2 hb2 hF2 hF3 hs1 hf1 Hb Hbx HD Hr Hnow Hx
  go_wp2
  go_region_held3 (fun w' => (∀ i, w'.cell? ⟨bv, i, none⟩ = (#[.pointer (some ⟨p, 0, none⟩)] : Array Value)[i]?) ∧ (∀ i, w'.cell? ⟨p, i, none⟩ = (#[vp, .int .i64 x.c.nodes, .int .i64 x.c.slots, .int .i64 x.c.holders, .int .u32 x.c.tag, .int .i64 x.s.range, .int .i64 x.s.exp, fn, .int .i64 (x.c.slot d), .int .i64 en] : Array Value)[i]?) ∧ (∀ i, w'.cell? ⟨b3, i, none⟩ = (#[.bool x.push] : Array Value)[i]?) ∧ (∀ i, w'.cell? ⟨b4, i, none⟩ = (#[.int .u32 x.i] : Array Value)[i]?) ∧ (∀ i, w'.cell? ⟨b5, i, none⟩ = (#[.int .u64 x.wait] : Array Value)[i]?) ∧ (∀ i, w'.cell? ⟨b1, i, none⟩ = (#[.int .i64 x.s.range, .int .i64 x.s.exp] : Array Value)[i]?) ∧ (∀ i, w'.cell? ⟨b6, i, none⟩ = (#[.int .i64 x.base] : Array Value)[i]?) ∧ (∀ i, w'.cell? ⟨pr, i, none⟩ = (#[.int .u64 r.now, .slice sa sn sc] : Array Value)[i]?))
    (first
      | exact ⟨a1, a2, a3, a4, a5, a6, a7, a8⟩
      | exact ⟨j1, j2, j3, j4, j5, j6, j7, j8⟩
      | exact ⟨l1, l2, l3, l4, l5, l6, l7, l8⟩
      | go_keep)
    ((first
      | (go_at_call 51
         refine (now_cell pr r.now _ (by first | exact a8 0 | exact j8 0)).mono ?_
         rintro e w' ⟨rfl, rfl⟩)
      | (go_at_call 50
         refine (deadline_calls r.now x.wait _ hnow0.1 hnow0.2 Hwf.out.w0 Hwf.out.w1).mono ?_
         rintro e w' ⟨rfl, rfl⟩)
      | (go_at_call 52
         refine (polls_calls x.s x.base _ hxx.1 hxx.2 Hwf.out.b1).mono ?_
         rintro e w4 ⟨rfl, hb4⟩
         have HB4 := hid hb4
         have hc4 := (bcell hb4).1
         have j1 := fun i => (hc4 bv i z1).trans (a1 i)
         have j2 := fun i => (hc4 p i z2).trans (a2 i)
         have j3 := fun i => (hc4 b3 i z3).trans (a3 i)
         have j4 := fun i => (hc4 b4 i z4).trans (a4 i)
         have j5 := fun i => (hc4 b5 i z5).trans (a5 i)
         have j6 := fun i => (hc4 b1 i z6).trans (a6 i)
         have j7 := fun i => (hc4 b6 i z7).trans (a7 i)
         have j8 := fun i => (hc4 pr i z8).trans (a8 i)
         clear hb4 hc4)
      | (go_at_call 49
         refine (exnew_calls (t + 1) (x.c.slot d) x.push x.i (deadline r.now x.wait) (x.s.polls x.base) _ ow1 Hwf.out.i0 Hwf.out.i1 (deadline_range r.now x.wait hnow0.1 Hwf.out.w0).1 (deadline_range r.now x.wait hnow0.1 Hwf.out.w0).2 (polls_lt _ _)).mono ?_
         rintro e w5 ⟨q, rfl, ow5, hf5, hE5⟩
         have HF5 := hid hf5
         have l1 := fun i => (Fr.cell0 hf5 bv i (Nat.lt_of_lt_of_le z1 HB4.out.size)).trans (j1 i)
         have l2 := fun i => (Fr.cell0 hf5 p i (Nat.lt_of_lt_of_le z2 HB4.out.size)).trans (j2 i)
         have l3 := fun i => (Fr.cell0 hf5 b3 i (Nat.lt_of_lt_of_le z3 HB4.out.size)).trans (j3 i)
         have l4 := fun i => (Fr.cell0 hf5 b4 i (Nat.lt_of_lt_of_le z4 HB4.out.size)).trans (j4 i)
         have l5 := fun i => (Fr.cell0 hf5 b5 i (Nat.lt_of_lt_of_le z5 HB4.out.size)).trans (j5 i)
         have l6 := fun i => (Fr.cell0 hf5 b1 i (Nat.lt_of_lt_of_le z6 HB4.out.size)).trans (j6 i)
         have l7 := fun i => (Fr.cell0 hf5 b6 i (Nat.lt_of_lt_of_le z7 HB4.out.size)).trans (j7 i)
         have l8 := fun i => (Fr.cell0 hf5 pr i (Nat.lt_of_lt_of_le z8 HB4.out.size)).trans (j8 i)
         clear hf5)))
  go_wp2
  go_ret
  have hG : Fr [] W3 w5 ow1 ow5 := (((Fr.refl [] W3 ow1).drew).trans (Fr.of_below HB4.out [] ow1) (by simp)).trans HF5.out (by simp)
  exact ⟨q, Post.mk rfl ow5 (HF3.out.trans hG (by simp)) ⟨(hG.own HHP3.out).trans hop1, hG.blk HHP3.out (by simp), hE5, Locl.keep IsSrc.loc HHS3.out hG (by simp)⟩⟩
end Go.Proofs.Ytkilpnfgpepfmaa
