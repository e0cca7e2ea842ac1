/- elim: a step of a visit that has no slot yet: the good way. -/
import Derived.Test.YtkilpnfgpepfmaaElT
set_option linter.unusedSimpArgs false
set_option linter.unusedVariables false
set_option linter.unusedSectionVars false
open Go Go.RowKit Hat
namespace Go.Proofs.Ytkilpnfgpepfmaa
set_option maxHeartbeats 4000000
set_option maxRecDepth 100000

theorem elgood_one {t p tm pm tr pr b0 b1 bv b3 b4 b5 b6 : Nat} {x : El} {m : Mem} {r : Src} {w w1 : World} {ow : Nat → Nat} {T : TypeId} {cs : Array Value}
    (hb : Blk w p T cs) (hbx : ElBox t p x b0 b1 bv b3 b4 b5 b6 w ow) (hm : IsMem tm pm m w ow) (hs : IsSrc tr pr r w ow) (h : Below w.heap.size w w1) :
    Blk w1 p T cs ∧ ElBox t p x b0 b1 bv b3 b4 b5 b6 w1 ow ∧ IsMem tm pm m w1 ow ∧ IsSrc tr pr r w1 ow := by
  have hf := Fr.of_below h [] ow
  exact ⟨hf.blk hb (by simp), Locl.keep ElBox.loc hbx hf (by simp), Locl.keep IsMem.loc hm hf (by simp), Locl.keep IsSrc.loc hs hf (by simp)⟩
theorem elgood_two {t p q tm pm tr pr : Nat} {e : Ex} {m : Mem} {r : Src} {w w1 w2 : World} {ow ow2 : Nat → Nat} {T : TypeId} {v0 c1 c2 c3 c4 c5 c6 c7 c8 c9 : Value}
    (hB : Below w.heap.size w w1) (hf : Fr [t, tr, tr + 1] w1 w2 ow ow2) (ho : ow2 p = t) (hp : Blk w2 p T #[v0, c1, c2, c3, c4, c5, c6, c7, c8, c9]) (he : IsEx (t + 1) q e w2 ow2)
    (hm : IsMem tm pm m w1 ow) (hs : IsSrc tr pr r w2 ow2) (hd : t + 1 < tm ∧ tm + 2 < tr) :
    ow2 p = t ∧ Blk (w2.setCell ⟨p, 0, none⟩ (.pointer (some ⟨q, 0, none⟩))) p T #[.pointer (some ⟨q, 0, none⟩), c1, c2, c3, c4, c5, c6, c7, c8, c9] ∧ IsEx (t + 1) q e (w2.setCell ⟨p, 0, none⟩ (.pointer (some ⟨q, 0, none⟩))) ow2 ∧
      IsMem tm pm m (w2.setCell ⟨p, 0, none⟩ (.pointer (some ⟨q, 0, none⟩))) ow2 ∧ IsSrc tr pr r (w2.setCell ⟨p, 0, none⟩ (.pointer (some ⟨q, 0, none⟩))) ow2 ∧ Fr [t, t + 1, tm, tm + 1, tm + 2, tr, tr + 1] w (w2.setCell ⟨p, 0, none⟩ (.pointer (some ⟨q, 0, none⟩))) ow ow2 := by
  have h1 : Fr [t] w2 (w2.setCell ⟨p, 0, none⟩ (.pointer (some ⟨q, 0, none⟩))) ow2 ow2 := (Fr.refl [t] w2 ow2).setCell (by simp [ho]) _
  have h2 : Fr [t, tr, tr + 1] w1 (w2.setCell ⟨p, 0, none⟩ (.pointer (some ⟨q, 0, none⟩))) ow ow2 := hf.trans h1 (by simp)
  refine ⟨ho, hp.set' 0 _ _ rfl, Locl.keep IsExS.loc he h1 (by simp), Locl.keep IsMem.loc hm h2 ?_, Locl.keep IsSrc.loc hs h1 (by simp; omega), (Fr.of_below hB [t, t + 1, tm, tm + 1, tm + 2, tr, tr + 1] ow).trans h2 (by simp)⟩
  simp
  omega
theorem elgood_keep (t p tm pm tr pr b0 b1 bv b3 b4 b5 b6 : Nat) (x : El) (m : Mem) (r r2 : Src) (d : Int) (fn : Value) (w : World) (ow : Nat → Nat) (hop : ow p = t) (hwf : ElWf x)
    (hdr : r.draw x.s.range = (d, r2)) (hfn : fn = (.func (.func 47) #[] #[.pointer (some ⟨b0, 0, none⟩), .pointer (some ⟨b1, 0, none⟩), .pointer (some ⟨bv, 0, none⟩), .pointer (some ⟨b3, 0, none⟩), .pointer (some ⟨b4, 0, none⟩), .pointer (some ⟨b5, 0, none⟩), .pointer (some ⟨b6, 0, none⟩)]))
    (hb : Blk w p 115 #[.pointer none, .int .i64 x.c.nodes, .int .i64 x.c.slots, .int .i64 x.c.holders, .int .u32 x.c.tag, .int .i64 x.s.range, .int .i64 x.s.exp, fn, .int .i64 x.place, .int .i64 x.ended]) (hbx : ElBox t p x b0 b1 bv b3 b4 b5 b6 w ow) (hm : IsMem tm pm m w ow) (hs : IsSrc tr pr r w ow) (hd : t + 1 < tm ∧ tm + 2 < tr)
    (hn : m.ns.length < 1000000000) (h2 : (x.ended == 2) = false) (hk : (x.ended == 0) = true) (hk1 : chk x.c = 0) (hk2 : (x.c.slots == 0) = false) (hk3 : x.s.right x.c.slots = true)
    (e : Ex) (he : e = (Ex.new (x.c.slot d) x.push x.i (deadline r.now x.wait) (x.s.polls x.base))) (st si : Int) (e1 : Ex) (m1 : Mem) (hse : e.step m r2.now = ((st, si), e1, m1)) (hst : (st != 0) = false) :
    Calls Try.prog 17 #[.pointer (some ⟨p, 0, none⟩), .pointer (some ⟨pm, 0, none⟩), .pointer (some ⟨pr, 0, none⟩)] w (fun en w' => ∃ q, Post [t, t + 1, tm, tm + 1, tm + 2, tr, tr + 1] w ow (.tuple #[.int .i64 st, .int .u32 si]) (fun w' ow' => ow' p = t ∧ Blk w' p 115 #[.pointer (some ⟨q, 0, none⟩), .int .i64 x.c.nodes, .int .i64 x.c.slots, .int .i64 x.c.holders, .int .u32 x.c.tag, .int .i64 x.s.range, .int .i64 x.s.exp, fn, .int .i64 (x.c.slot d), .int .i64 x.ended] ∧
        IsEx (t + 1) q e1 w' ow' ∧ IsMem tm pm m1 w' ow' ∧ IsSrc tr pr r2 w' ow') en w') := by
  obtain ⟨hcp, hfp, hplW⟩ := hb.all
  have hx : 0 ≤ x.s.exp ∧ x.s.exp ≤ 6 := by
    have := hk3
    simp only [Pol.right, decide_eq_true_eq] at this
    omega
  have Hb := hid hb
  have Hbx := hid hbx
  have Hm := hid hm
  have Hs := hid hs
  have Hwf := hid hwf
  have Hd := hid (And.intro hx (And.intro hdr (hd : t + 1 < tm ∧ tm + 2 < tr)))
  have Hn := hid hn
  have Hse := hid hse
  have He := hid he
  have Hrt := hid hk3
  clear hb hbx hm hs hwf hd hn hse he hx hdr
  subst hfn
  go_enter Try.func17, Try.ntmps17
  go_wp2
  refine wp_region_class (C := Keeps w p #[.pointer none, .int .i64 x.c.nodes, .int .i64 x.c.slots, .int .i64 x.c.holders, .int .u32 x.c.tag, .int .i64 x.s.range, .int .i64 x.s.exp, (.func (.func 47) #[] #[.pointer (some ⟨b0, 0, none⟩), .pointer (some ⟨b1, 0, none⟩), .pointer (some ⟨bv, 0, none⟩), .pointer (some ⟨b3, 0, none⟩), .pointer (some ⟨b4, 0, none⟩), .pointer (some ⟨b5, 0, none⟩), .pointer (some ⟨b6, 0, none⟩)]), .int .i64 x.place, .int .i64 x.ended]) (by kernel_rfl) (by kernel_rfl) ⟨hcp, below_drew1 w⟩ ?_
  repeat
    (first
      | go_big_quiet_skip
      | (go_big_quiet_want
         apply Exists.intro
         refine ⟨fun w' hC => ?_, ?_⟩
         focus
           have hcc := hC.c
           unfold Oper.quietAt
           simp [go_sem, hcc, hk2]
           first
             | rfl
             | exact ⟨rfl, rfl⟩
             | (refine (check_calls x.c _).mono ?_; rintro e1 w1 ⟨rfl, hb1⟩; rw [hk1]; exact ⟨rfl, blkc_below (Nat.lt_of_lt_of_le hplW hC.b.size) hC.c hb1, below_step hC.b hb1⟩)
              | (refine (right_calls x.s x.c.slots _).mono ?_; rintro e1 w1 ⟨rfl, hb1⟩; rw [hk3]; exact ⟨rfl, blkc_below (Nat.lt_of_lt_of_le hplW hC.b.size) hC.c hb1, below_step hC.b hb1⟩)
         simp only [Act.put, List.setIfInBounds_toArray, List.set_cons_zero, List.set_cons_succ]
         go_big_quiet_on))
  refine wpQuiet_nil ?_
  rintro w1 ⟨j1, hb1⟩
  have HB1 := hid hb1
  have f1 := blkf_below hplW hfp hb1
  have l1 := Nat.lt_of_lt_of_le hplW hb1.size
  clear hb1
  have Z1 := elgood_one Hb.out Hbx.out Hm.out Hs.out HB1.out
  have HBG := hid (begin_calls t p tr pr b0 b1 bv b3 b4 b5 b6 x r (.pointer none) (.func (.func 47) #[] #[.pointer (some ⟨b0, 0, none⟩), .pointer (some ⟨b1, 0, none⟩), .pointer (some ⟨bv, 0, none⟩), .pointer (some ⟨b3, 0, none⟩), .pointer (some ⟨b4, 0, none⟩), .pointer (some ⟨b5, 0, none⟩), .pointer (some ⟨b6, 0, none⟩)]) x.place x.ended w1 ow Hwf.out hop Z1.1 Z1.2.1 Z1.2.2.2 Hd.out.1 (by have := Hd.out.2.2; omega))
  have HM1 := hid Z1.2.2.1
  clear Z1 hcp hfp
  go_wp2_with (first
    | (go_at_call 47
       refine HBG.out.mono ?_
       rintro e2 w2 ⟨q, rfl, ow2, hf2, ho2, hp2, he2, hs2⟩
       have c2 := hp2.cell
       have f2 := hp2.frozen
       have l2 := hp2.lt
       have Z2 := hid (elgood_two (q := q) (m := m) (w := w) HB1.out hf2 ho2 hp2 he2 HM1.out hs2 Hd.out.2.2)
       clear hf2 ho2 hp2 he2 hs2))
  have Z3 := Z2.out
  rw [Hd.out.2.1] at Z3
  dsimp only at Z3
  rw [← He.out] at Z3
  have hq : ∀ u, u = w2.setCell ⟨p, 0, none⟩ (.pointer (some ⟨q, 0, none⟩)) → True := fun _ _ => trivial
  generalize w2.setCell ⟨p, 0, none⟩ (.pointer (some ⟨q, 0, none⟩)) = W at *
  obtain ⟨hopW, PW, EW, MW, SW, FW⟩ := Z3
  have HX := hid (ex_step (t + 1) q tm pm e m r2.now W.drew ow2 (Locl.keep IsExS.loc EW (us := []) ((Fr.refl _ _ _).drew) (by simp)) (Locl.keep IsMem.loc MW (us := []) ((Fr.refl _ _ _).drew) (by simp)) (by have := Hd.out.2.2; omega) Hn.out (by rw [He.out]; simp only [Ex.new]; omega))
  rw [Hse.out] at HX
  dsimp only at HX
  obtain ⟨horW, _, _, sa, sn, sc, bsr, _⟩ := id SW
  have hcp := PW.cell
  have hfp := PW.frozen
  have hplW2 := PW.lt
  clear hplW
  have hplW := hplW2
  have hcr := bsr.cell
  have HPW := hid PW
  have HRW := hid bsr
  have HSW := hid SW
  have HFW := hid FW
  clear PW bsr SW FW EW MW HBG Z2 hq hplW2 c2 f2 l2 j1 f1 l1
  go_region_held3 (fun w' => (∀ i, w'.cell? ⟨p, i, none⟩ = (#[.pointer (some ⟨q, 0, none⟩), .int .i64 x.c.nodes, .int .i64 x.c.slots, .int .i64 x.c.holders, .int .u32 x.c.tag, .int .i64 x.s.range, .int .i64 x.s.exp, (.func (.func 47) #[] #[.pointer (some ⟨b0, 0, none⟩), .pointer (some ⟨b1, 0, none⟩), .pointer (some ⟨bv, 0, none⟩), .pointer (some ⟨b3, 0, none⟩), .pointer (some ⟨b4, 0, none⟩), .pointer (some ⟨b5, 0, none⟩), .pointer (some ⟨b6, 0, none⟩)]), .int .i64 (x.c.slot d), .int .i64 x.ended] : Array Value)[i]?) ∧ (∀ i, w'.cell? ⟨pr, i, none⟩ = (#[.int .u64 r2.now, .slice sa sn sc] : Array Value)[i]?))
    (first
      | exact ⟨hcp, hcr⟩
      | exact ⟨j1, j2⟩
      | go_keep)
    ((first
      | (go_at_call 51
         refine (now_cell pr r2.now _ (by first | exact hcr 0 | exact j2 0)).mono ?_
         rintro e6 w6 ⟨rfl, rfl⟩)
      | (go_at_call 55
         refine HX.out.mono ?_
         rintro e6 w6 ⟨rfl, ow6, hf6, hE6, hm6⟩
         have hd := Hd.out.2.2
         have Z6 := elhas_arm HPW.out HRW.out HSW.out hopW horW Hd.out.2.2 hplW HFW.out hf6
         have P6 := Z6.1
         have R6 := Z6.2.1
         have S6 := Z6.2.2.1
         have j1 := P6.cell
         have j2 := R6.cell
         have j3 := P6.frozen
         have l6 := P6.lt
         have hop6 := Z6.2.2.2.1
         have HP6 := hid P6
         have HS6 := hid S6
         have HE6 := hid hE6
         have HM6 := hid hm6
         have HF6 := hid Z6.2.2.2.2
         clear Z6 P6 R6 S6 hE6 hm6 hf6)))
  go_wp2
  go_ret2
  exact ⟨q, Post.mk rfl ow6 HF6.out ⟨hop6, HP6.out, HE6.out, HM6.out, HS6.out⟩⟩
theorem elgood_upd (t p tm pm tr pr b0 b1 bv b3 b4 b5 b6 : Nat) (x : El) (m : Mem) (r r2 : Src) (d : Int) (fn : Value) (w : World) (ow : Nat → Nat) (hop : ow p = t) (hwf : ElWf x)
    (hdr : r.draw x.s.range = (d, r2)) (hfn : fn = (.func (.func 47) #[] #[.pointer (some ⟨b0, 0, none⟩), .pointer (some ⟨b1, 0, none⟩), .pointer (some ⟨bv, 0, none⟩), .pointer (some ⟨b3, 0, none⟩), .pointer (some ⟨b4, 0, none⟩), .pointer (some ⟨b5, 0, none⟩), .pointer (some ⟨b6, 0, none⟩)]))
    (hb : Blk w p 115 #[.pointer none, .int .i64 x.c.nodes, .int .i64 x.c.slots, .int .i64 x.c.holders, .int .u32 x.c.tag, .int .i64 x.s.range, .int .i64 x.s.exp, fn, .int .i64 x.place, .int .i64 x.ended]) (hbx : ElBox t p x b0 b1 bv b3 b4 b5 b6 w ow) (hm : IsMem tm pm m w ow) (hs : IsSrc tr pr r w ow) (hd : t + 1 < tm ∧ tm + 2 < tr)
    (hn : m.ns.length < 1000000000) (h2 : (x.ended == 2) = false) (hk : (x.ended == 0) = true) (hk1 : chk x.c = 0) (hk2 : (x.c.slots == 0) = false) (hk3 : x.s.right x.c.slots = true)
    (e : Ex) (he : e = (Ex.new (x.c.slot d) x.push x.i (deadline r.now x.wait) (x.s.polls x.base))) (st si : Int) (e1 : Ex) (m1 : Mem) (hse : e.step m r2.now = ((st, si), e1, m1)) (hst : (st != 0) = true) :
    Calls Try.prog 17 #[.pointer (some ⟨p, 0, none⟩), .pointer (some ⟨pm, 0, none⟩), .pointer (some ⟨pr, 0, none⟩)] w (fun en w' => ∃ q, Post [t, t + 1, tm, tm + 1, tm + 2, tr, tr + 1] w ow (.tuple #[.int .i64 st, .int .u32 si]) (fun w' ow' => ow' p = t ∧ Blk w' p 115 #[.pointer (some ⟨q, 0, none⟩), .int .i64 x.c.nodes, .int .i64 x.c.slots, .int .i64 x.c.holders, .int .u32 x.c.tag, .int .i64 (x.s.after x.c.slots st).range, .int .i64 (x.s.after x.c.slots st).exp, fn, .int .i64 (x.c.slot d), .int .i64 st] ∧
        IsEx (t + 1) q e1 w' ow' ∧ IsMem tm pm m1 w' ow' ∧ IsSrc tr pr r2 w' ow') en w') := by
  obtain ⟨hcp, hfp, hplW⟩ := hb.all
  have hx : 0 ≤ x.s.exp ∧ x.s.exp ≤ 6 := by
    have := hk3
    simp only [Pol.right, decide_eq_true_eq] at this
    omega
  have Hb := hid hb
  have Hbx := hid hbx
  have Hm := hid hm
  have Hs := hid hs
  have Hwf := hid hwf
  have Hd := hid (And.intro hx (And.intro hdr (hd : t + 1 < tm ∧ tm + 2 < tr)))
  have Hn := hid hn
  have Hse := hid hse
  have He := hid he
  have Hrt := hid hk3
  clear hb hbx hm hs hwf hd hn hse he hx hdr
  subst hfn
  go_enter Try.func17, Try.ntmps17
  go_wp2
  refine wp_region_class (C := Keeps w p #[.pointer none, .int .i64 x.c.nodes, .int .i64 x.c.slots, .int .i64 x.c.holders, .int .u32 x.c.tag, .int .i64 x.s.range, .int .i64 x.s.exp, (.func (.func 47) #[] #[.pointer (some ⟨b0, 0, none⟩), .pointer (some ⟨b1, 0, none⟩), .pointer (some ⟨bv, 0, none⟩), .pointer (some ⟨b3, 0, none⟩), .pointer (some ⟨b4, 0, none⟩), .pointer (some ⟨b5, 0, none⟩), .pointer (some ⟨b6, 0, none⟩)]), .int .i64 x.place, .int .i64 x.ended]) (by kernel_rfl) (by kernel_rfl) ⟨hcp, below_drew1 w⟩ ?_
  repeat
    (first
      | go_big_quiet_skip
      | (go_big_quiet_want
         apply Exists.intro
         refine ⟨fun w' hC => ?_, ?_⟩
         focus
           have hcc := hC.c
           unfold Oper.quietAt
           simp [go_sem, hcc, hk2]
           first
             | rfl
             | exact ⟨rfl, rfl⟩
             | (refine (check_calls x.c _).mono ?_; rintro e1 w1 ⟨rfl, hb1⟩; rw [hk1]; exact ⟨rfl, blkc_below (Nat.lt_of_lt_of_le hplW hC.b.size) hC.c hb1, below_step hC.b hb1⟩)
              | (refine (right_calls x.s x.c.slots _).mono ?_; rintro e1 w1 ⟨rfl, hb1⟩; rw [hk3]; exact ⟨rfl, blkc_below (Nat.lt_of_lt_of_le hplW hC.b.size) hC.c hb1, below_step hC.b hb1⟩)
         simp only [Act.put, List.setIfInBounds_toArray, List.set_cons_zero, List.set_cons_succ]
         go_big_quiet_on))
  refine wpQuiet_nil ?_
  rintro w1 ⟨j1, hb1⟩
  have HB1 := hid hb1
  have f1 := blkf_below hplW hfp hb1
  have l1 := Nat.lt_of_lt_of_le hplW hb1.size
  clear hb1
  have Z1 := elgood_one Hb.out Hbx.out Hm.out Hs.out HB1.out
  have HBG := hid (begin_calls t p tr pr b0 b1 bv b3 b4 b5 b6 x r (.pointer none) (.func (.func 47) #[] #[.pointer (some ⟨b0, 0, none⟩), .pointer (some ⟨b1, 0, none⟩), .pointer (some ⟨bv, 0, none⟩), .pointer (some ⟨b3, 0, none⟩), .pointer (some ⟨b4, 0, none⟩), .pointer (some ⟨b5, 0, none⟩), .pointer (some ⟨b6, 0, none⟩)]) x.place x.ended w1 ow Hwf.out hop Z1.1 Z1.2.1 Z1.2.2.2 Hd.out.1 (by have := Hd.out.2.2; omega))
  have HM1 := hid Z1.2.2.1
  clear Z1 hcp hfp
  go_wp2_with (first
    | (go_at_call 47
       refine HBG.out.mono ?_
       rintro e2 w2 ⟨q, rfl, ow2, hf2, ho2, hp2, he2, hs2⟩
       have c2 := hp2.cell
       have f2 := hp2.frozen
       have l2 := hp2.lt
       have Z2 := hid (elgood_two (q := q) (m := m) (w := w) HB1.out hf2 ho2 hp2 he2 HM1.out hs2 Hd.out.2.2)
       clear hf2 ho2 hp2 he2 hs2))
  have Z3 := Z2.out
  rw [Hd.out.2.1] at Z3
  dsimp only at Z3
  rw [← He.out] at Z3
  have hq : ∀ u, u = w2.setCell ⟨p, 0, none⟩ (.pointer (some ⟨q, 0, none⟩)) → True := fun _ _ => trivial
  generalize w2.setCell ⟨p, 0, none⟩ (.pointer (some ⟨q, 0, none⟩)) = W at *
  obtain ⟨hopW, PW, EW, MW, SW, FW⟩ := Z3
  have HX := hid (ex_step (t + 1) q tm pm e m r2.now W.drew ow2 (Locl.keep IsExS.loc EW (us := []) ((Fr.refl _ _ _).drew) (by simp)) (Locl.keep IsMem.loc MW (us := []) ((Fr.refl _ _ _).drew) (by simp)) (by have := Hd.out.2.2; omega) Hn.out (by rw [He.out]; simp only [Ex.new]; omega))
  rw [Hse.out] at HX
  dsimp only at HX
  obtain ⟨horW, _, _, sa, sn, sc, bsr, _⟩ := id SW
  have hcp := PW.cell
  have hfp := PW.frozen
  have hplW2 := PW.lt
  clear hplW
  have hplW := hplW2
  have hcr := bsr.cell
  have HPW := hid PW
  have HRW := hid bsr
  have HSW := hid SW
  have HFW := hid FW
  clear PW bsr SW FW EW MW HBG Z2 hq hplW2 c2 f2 l2 j1 f1 l1
  go_region_held3 (fun w' => (∀ i, w'.cell? ⟨p, i, none⟩ = (#[.pointer (some ⟨q, 0, none⟩), .int .i64 x.c.nodes, .int .i64 x.c.slots, .int .i64 x.c.holders, .int .u32 x.c.tag, .int .i64 x.s.range, .int .i64 x.s.exp, (.func (.func 47) #[] #[.pointer (some ⟨b0, 0, none⟩), .pointer (some ⟨b1, 0, none⟩), .pointer (some ⟨bv, 0, none⟩), .pointer (some ⟨b3, 0, none⟩), .pointer (some ⟨b4, 0, none⟩), .pointer (some ⟨b5, 0, none⟩), .pointer (some ⟨b6, 0, none⟩)]), .int .i64 (x.c.slot d), .int .i64 x.ended] : Array Value)[i]?) ∧ (∀ i, w'.cell? ⟨pr, i, none⟩ = (#[.int .u64 r2.now, .slice sa sn sc] : Array Value)[i]?))
    (first
      | exact ⟨hcp, hcr⟩
      | exact ⟨j1, j2⟩
      | go_keep)
    ((first
      | (go_at_call 51
         refine (now_cell pr r2.now _ (by first | exact hcr 0 | exact j2 0)).mono ?_
         rintro e6 w6 ⟨rfl, rfl⟩)
      | (go_at_call 55
         refine HX.out.mono ?_
         rintro e6 w6 ⟨rfl, ow6, hf6, hE6, hm6⟩
         have hd := Hd.out.2.2
         have Z6 := elhas_arm HPW.out HRW.out HSW.out hopW horW Hd.out.2.2 hplW HFW.out hf6
         have P6 := Z6.1
         have R6 := Z6.2.1
         have S6 := Z6.2.2.1
         have j1 := P6.cell
         have j2 := R6.cell
         have j3 := P6.frozen
         have l6 := P6.lt
         have hop6 := Z6.2.2.2.1
         have HP6 := hid P6
         have HS6 := hid S6
         have HE6 := hid hE6
         have HM6 := hid hm6
         have HF6 := hid Z6.2.2.2.2
         clear Z6 P6 R6 S6 hE6 hm6 hf6)))
  go_wp2
  go_region_with (go_at_call 56
                  refine (after_calls x.s x.c.slots st _ Hrt.out).mono ?_
                  rintro e7 w7 ⟨rfl, hb7⟩
                  have P7 : Blk w7 p 115 #[.pointer (some ⟨q, 0, none⟩), .int .i64 x.c.nodes, .int .i64 x.c.slots, .int .i64 x.c.holders, .int .u32 x.c.tag, .int .i64 x.s.range, .int .i64 x.s.exp, (.func (.func 47) #[] #[.pointer (some ⟨b0, 0, none⟩), .pointer (some ⟨b1, 0, none⟩), .pointer (some ⟨bv, 0, none⟩), .pointer (some ⟨b3, 0, none⟩), .pointer (some ⟨b4, 0, none⟩), .pointer (some ⟨b5, 0, none⟩), .pointer (some ⟨b6, 0, none⟩)]), .int .i64 (x.c.slot d), .int .i64 st] := blk_set_below HP6.out hb7 rfl
                  have k1 := P7.cell
                  have k2 := P7.frozen
                  have HP7 := hid P7
                  have HB7 := hid hb7
                  clear P7 hb7)
  all_goals
    go_wp2
    go_ret2
    have hd := Hd.out.2.2
    have hF7 : Fr [t] w6 w7 ow6 ow6 := by
      refine Fr.trans ?_ (Fr.of_below HB7.out [] ow6) (by simp)
      repeat' (first | (with_reducible exact Fr.refl _ _ _) | (with_reducible refine Fr.drew ?_) | (with_reducible refine Fr.setCell ?_ ?_ _) | (simp [hop6]; done))
    have hF8 : ∀ u v, Fr [t] w6 ((w7.setCell ⟨p, 5, none⟩ u).setCell ⟨p, 6, none⟩ v) ow6 ow6 := fun u v => (hF7.setCell (by simp [hop6]) u).setCell (by simp [hop6]) v
    exact ⟨q, Post.mk rfl ow6 (HF6.out.trans (hF8 _ _) (by simp)) ⟨hop6, (HP7.out.set' 5 _ _ rfl).set' 6 _ _ rfl, Locl.keep IsExS.loc HE6.out (hF8 _ _) (by simp), Locl.keep IsMem.loc HM6.out (hF8 _ _) (by simp; omega), Locl.keep IsSrc.loc HS6.out (hF8 _ _) (by simp; omega)⟩⟩
end Go.Proofs.Ytkilpnfgpepfmaa
